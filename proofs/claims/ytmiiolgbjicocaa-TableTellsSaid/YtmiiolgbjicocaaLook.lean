/- What may come where a rule is to be taken: the walk. -/
import Derived.Test.YtmiiolgbjicocaaFillW
import Derived.Deep.RegionHeld3
namespace Go.Proofs.Ytmiiolgbjicocaa
open Go.RowKit
attribute [local go_sem] run_store_float
/-- The set behind a variable; the rules' list. -/
theorem SetsR.follow {sb : Nat} {K : Int} {g : GramD} {nv : Nat} {F Fo : List Wds} {w : World} (h : SetsR sb K g nv F Fo w) : ∃ qb qc, w.cell? ⟨sb, 2, none⟩ = some (.slice (some ⟨qb, 0, none⟩) nv qc) ∧ w.cell? ⟨sb, 5, none⟩ = some g.rv ∧ sb < w.heap.size ∧ qb < w.heap.size ∧
    ∀ i, i < nv → ∃ b, w.cell? ⟨qb, i, none⟩ = some (.pointer (some ⟨b, 0, none⟩)) ∧ SetE b (Fo.getD i []) w := by
  obtain ⟨⟨pb, pc, qb, qc, bs, lo, lvs, h1, h2⟩, h3, h4, h5⟩ := h
  obtain ⟨cs, h6, h7⟩ := h1.fol
  refine ⟨qb, qc, cell_of_block (off := 2) h1.blk, cell_of_block (off := 5) h1.blk, lt_of_block h1.blk, lt_of_block h6, fun i hi => ?_⟩
  obtain ⟨b, h8, h9⟩ := h7 i hi
  refine ⟨b, (cell_of_block (off := i) h6).trans h9, ?_⟩
  have := h2.setE h8 (by rw [← h3, getD_app2]; exact h5.2 i)
  rwa [← h3, getD_app2] at this
def lookL (K : Int) (g : GramD) (F Fo : List Wds) (k : Nat) : Wds := match g.rules[k]? with | some r => aheadL K F r.right (Fo.getD r.left.toNat []) | none => []
theorem lookL_at {K : Int} {g : GramD} {F Fo : List Wds} {k : Nat} (hk : k < g.rules.length) : lookL K g F Fo k = aheadL K F g.rules[k].right (Fo.getD g.rules[k].left.toNat []) := by
  unfold lookL
  rw [List.getElem?_eq_getElem hk]
set_option maxRecDepth 100000 in
set_option maxHeartbeats 4000000 in
theorem look_any {w : World} {sb lo : Nat} {K : Int} {g : GramD} {nv : Nat} {F Fo : List Wds} (h : SetsR sb K g nv F Fo w) (hK : 1 ≤ K ∧ K ≤ 2) (hR : GoodR nv (rulesOf g)) (hg : GramAt w lo g) (hlo : lo ≤ w.heap.size)
    (hF : ∀ v, OkW (F.getD v [])) (hD : ∀ v, OkW (Fo.getD v [])) (hleft : ∀ i (h : i < g.rules.length), 0 ≤ g.rules[i].left) {k : Nat} (hk : k < g.rules.length) : Calls Try.prog 34 #[.pointer (some ⟨sb, 0, none⟩), .int .i64 (k : Nat)] w (PtrB (lookL K g F Fo k) w) := by
  have HSR := Lib.hid h
  have HKK := Lib.hid hK
  have HFF := Lib.hid hF
  have HDD := Lib.hid hD
  obtain ⟨qb, qc, c2, c5, hsb, hqb, hfol⟩ := h.follow
  have HFOL := Lib.hid hfol
  have hki : (k : Int) < g.rules.length := by omega
  obtain ⟨rb, off, hra, hrb, r0, r1, r2, hri2, hrl2⟩ := hg.rules k hk
  have hl0 := hleft k hk
  obtain ⟨n, hn⟩ := Int.eq_ofNat_of_zero_le hl0
  have HRK := Lib.hid (rulesOf_at hk)
  have HLK := Lib.hid (lookL_at (K := K) (F := F) (Fo := Fo) hk)
  rw [hn] at HRK r0 HLK
  have HI := Lib.hid hri2
  unfold GramD.rv at c5
  clear h hfol hg hF hD hK hri2 hl0
  generalize lookL K g F Fo k = LK at *
  generalize g.rules[k] = r at *
  obtain ⟨left, xa, xs, xc, wt⟩ := r
  dsimp only at *
  obtain ⟨hn1, hfo, hx8⟩ := hR _ (List.mem_of_getElem? HRK.out)
  dsimp only at hn1 hfo hx8
  have hnn : n < nv := by simpa using hn1
  have HFO := Lib.hid hfo
  obtain ⟨b, hbc, hbs⟩ := HFOL.out n hnn
  have hrw : rb < w.heap.size := by omega
  generalize hRA : g.ra = ra at *
  subst hra
  have HC := Lib.hid (fun W (hg : Grow w W) => ahead_any (sb := sb) (fc := xc) (fa := xa) (f := xs) (HSR.out.go hg) HKK.out HFF.out (ints_lst (HI.out.below (below_up hg hlo)) (Nat.le_trans hlo hg.size)) hx8 HFO.out (hbs.go hg) (HDD.out n))
  rw [show ((n : Int).toNat) = n from rfl] at HLK
  clear hn1 hfo hbs
  go_enter Try.func34, Try.ntmps34
  go_wp2_with fail
  have hC := heap_alloc_this w (.cells #[.int .i64 (n : Int), .slice xa xs.length xc, .float .f64 wt] 64)
  have HGR := Lib.hid ((grow_one w (.cells #[.int .i64 (n : Int), .slice xa xs.length xc, .float .f64 wt] 64)).trans (grow_drew _))
  have e0 : (w.alloc (.cells #[.int .i64 (n : Int), .slice xa xs.length xc, .float .f64 wt] 64)).drew.cell? ⟨w.heap.size, 0, none⟩ = some (.int .i64 (n : Int)) := cell_of_block (off := 0) hC
  have e1 : (w.alloc (.cells #[.int .i64 (n : Int), .slice xa xs.length xc, .float .f64 wt] 64)).drew.cell? ⟨w.heap.size, 1, none⟩ = some (.slice xa xs.length xc) := cell_of_block (off := 1) hC
  have e2 := (below_cell HGR.out hsb).trans c2
  have e3 := (below_cell HGR.out hqb).trans hbc
  have hlC : w.heap.size < (w.alloc (.cells #[.int .i64 (n : Int), .slice xa xs.length xc, .float .f64 wt] 64)).drew.heap.size := lt_of_block hC
  clear c2 c5 hbc hC r0 r1 r2
  have hni : (n : Int) < nv := by omega
  generalize hC : w.heap.size = C at *
  generalize w.alloc (.cells #[.int .i64 (n : Int), .slice xa xs.length xc, .float .f64 wt] 64) = W0 at *
  have hSd : W0.drew.cell? ⟨C, 0, none⟩ = some (.int .i64 (n : Int)) ∧ W0.drew.cell? ⟨C, 1, none⟩ = some (.slice xa xs.length xc) ∧ W0.drew.cell? ⟨sb, 2, none⟩ = some (.slice (some ⟨qb, 0, none⟩) nv qc) ∧ W0.drew.cell? ⟨qb, n, none⟩ = some (.pointer (some ⟨b, 0, none⟩)) := ⟨e0, e1, e2, e3⟩
  go_region_held3 (fun w' => w'.cell? ⟨C, 0, none⟩ = some (.int .i64 (n : Int)) ∧ w'.cell? ⟨C, 1, none⟩ = some (.slice xa xs.length xc) ∧ w'.cell? ⟨sb, 2, none⟩ = some (.slice (some ⟨qb, 0, none⟩) nv qc) ∧ w'.cell? ⟨qb, n, none⟩ = some (.pointer (some ⟨b, 0, none⟩)))
    (first | with_reducible exact hS1 | with_reducible exact hSd)
    (first
    | (go_at_call 65; refine (HC.out _ HGR.out).mono ?_; rintro e w3 ⟨ob3, rfl, hs3, hg3⟩
       have hS1 : w3.cell? ⟨C, 0, none⟩ = some (.int .i64 (n : Int)) ∧ w3.cell? ⟨C, 1, none⟩ = some (.slice xa xs.length xc) ∧ w3.cell? ⟨sb, 2, none⟩ = some (.slice (some ⟨qb, 0, none⟩) nv qc) ∧ w3.cell? ⟨qb, n, none⟩ = some (.pointer (some ⟨b, 0, none⟩)) := ⟨(below_cell hg3 hlC).trans e0, (below_cell hg3 hlC).trans e1, (below_cell hg3 (by omega)).trans e2, (below_cell hg3 (by omega)).trans e3⟩
       have X3 := Lib.hid (And.intro hs3 (HGR.out.trans hg3))
       clear hs3 hg3))
  all_goals
    go_wp2_with fail
    go_ret
    exact ⟨ob3, rfl, by rw [HLK.out]; exact X3.out.1.low HGR.out.size, X3.out.2⟩
end Go.Proofs.Ytmiiolgbjicocaa
