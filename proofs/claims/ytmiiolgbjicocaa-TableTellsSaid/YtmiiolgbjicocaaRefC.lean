/- Which rules clash, as the reference sees it: the walk. -/
import Derived.Test.YtmiiolgbjicocaaRefT
import Derived.Test.YtmiiolgbjicocaaClashW
import Derived.Deep.RegionHeld3
namespace Go.Proofs.Ytmiiolgbjicocaa
open Go.RowKit
theorem info60 : (Try.prog.info? 60).map (fun i => (i.zero, i.size, i.bytes)) = some (some (.agg #[.int .i64 0, .int .i64 0, .int .i64 0, .slice none 0 0]), 4, 48) := by kernel_rfl
def COutR (w : World) (base : Nat) (v : Value) (C : List ClD) : Prop :=
  ∃ ds : List (ClD × Value), ds.map Prod.fst = C ∧ w.ownsRow base 60 4 v ds.length (flatC ds) ∧ ∀ d ∈ ds, Own w base d.2 d.1.2.2.2
theorem COutR.grow {w w' : World} {base : Nat} {v : Value} {C : List ClD} (h : COutR w base v C) (hg : Grow w w') : COutR w' base v C := by
  obtain ⟨ds, h1, h2, h3⟩ := h
  exact ⟨ds, h1, own_stay h2 (fun k hk => hg.block k (own_lt h2 hk).1), fun d hd => (h3 d hd).below hg⟩
theorem clashR_type {w : World} {base n : Nat} {v : Value} {xs : List Value} (h : w.ownsRow base 60 4 v n xs) {k : Nat} (hk : v.ownBlock = some k) : ∃ cs, w.heap[k]? = some (.cells cs 60 (0, 0)) := by
  rcases h.2 with ⟨rfl, _⟩ | ⟨g, cap, cur, rfl, _, hh, _⟩
  · simp [Value.ownBlock] at hk
  · simp [Value.ownBlock] at hk
    subst hk
    exact ⟨cur, hh⟩
theorem coutR_snoc {w w' : World} {base n : Nat} {v v' : Value} {ds : List (ClD × Value)} {u : Value} {c : ClD} (h2 : w.ownsRow base 60 4 v ds.length (flatC ds)) (h3 : ∀ d ∈ ds, Own w base d.2 d.1.2.2.2) (hu : Own w base u c.2.2.2) (hgr : w.grownBy w' v.ownBlock) (ho : w'.ownsRow base 60 4 v' n (flatC ds ++ [.int .i64 (c.1 : Nat), .int .i64 (c.2.1 : Nat), .int .i64 (c.2.2.1 : Nat), u])) (hn : n = ds.length + 1) : COutR w' base v' (ds.map Prod.fst ++ [c]) := by
  have hst : ∀ {u : Value} {xs : List Int}, Own w base u xs → Own w' base u xs := fun {u xs} hu => hu.kept (fun k hk => hgr.block k (hu.lt hk).1 (fun e => by
    obtain ⟨cs, q1⟩ := own_type hu hk
    obtain ⟨es, q2⟩ := clashR_type h2 e.symm
    rw [q1] at q2
    injection q2 with q2
    injection q2 with _ q2
    exact absurd q2 (by decide)))
  subst hn
  refine ⟨ds ++ [(c, u)], by rw [List.map_append]; rfl, ?_, fun d hd => ?_⟩
  · rw [List.length_append, flatC_app]
    exact ho
  · rcases List.mem_append.1 hd with hd | hd
    · exact hst (h3 d hd)
    · obtain rfl := List.mem_singleton.1 hd
      exact hst hu
theorem notR {w : World} {base n : Nat} {v : Value} {xs : List Value} (h : w.ownsRow base 60 4 v n xs) {k : Nat} {cs : Array Value} (hb : w.heap[k]? = some (.cells cs 26 (0, 0))) (hk : v.ownBlock = some k) : False := by
  obtain ⟨cs', q⟩ := clashR_type h hk
  rw [hb] at q
  injection q with q
  injection q with _ q
  exact absurd q (by decide)
/-- How a list of clashes is read. -/
theorem coutR_form {w : World} {base : Nat} {v : Value} {C : List ClD} (h : COutR w base v C) : ∃ a c, v = .slice a C.length c := by
  obtain ⟨ds, rfl, h1, -⟩ := h
  rw [List.length_map]
  rcases h1.2 with ⟨rfl, h0⟩ | ⟨g, cap, cur, rfl, _⟩
  · exact ⟨none, 0, by rw [h0]⟩
  · exact ⟨_, cap, rfl⟩
theorem coutR_at {w : World} {base n c : Nat} {a : Option Addr} {C : List ClD} (h : COutR w base (.slice a n c) C) {i : Nat} (hi : i < C.length) : ∃ rb la lc, a = some ⟨rb, 0, none⟩ ∧ rb < w.heap.size ∧ w.cell? ⟨rb, i * 4, none⟩ = some (.int .i64 (C[i].1 : Nat)) ∧ w.cell? ⟨rb, i * 4 + 1, none⟩ = some (.int .i64 (C[i].2.1 : Nat)) ∧ w.cell? ⟨rb, i * 4 + 2, none⟩ = some (.int .i64 (C[i].2.2.1 : Nat)) ∧ w.cell? ⟨rb, i * 4 + 3, none⟩ = some (.slice la C[i].2.2.2.length lc) ∧ Lst w la C[i].2.2.2 := by
  obtain ⟨ds, rfl, h1, h3⟩ := h
  have hid : i < ds.length := by simpa using hi
  have hr := List.getElem?_eq_getElem hid
  obtain ⟨la, lc, d1, -, d3, -⟩ := (h3 _ (List.getElem_mem hid)).shape
  obtain ⟨f1, f2, f3, f4⟩ := flatC_get ds i _ hr
  rw [List.getElem_map]
  rcases h1.2 with ⟨_, h0⟩ | ⟨g, cap, cur, hv, _, hcur, _⟩
  · omega
  · injection hv with hv1 hv2 hv3
    subst hv1 hv2 hv3
    refine ⟨g, la, lc, rfl, lt_of_block hcur, ?_, ?_, ?_, ?_, d3⟩
    · rw [h1.cellAt (i * 4) (by omega), f1]
    · rw [h1.cellAt (i * 4 + 1) (by omega), f2]
    · rw [h1.cellAt (i * 4 + 2) (by omega), f3]
    · rw [h1.cellAt (i * 4 + 3) (by omega), f4, d1]
theorem coutR_mono {w : World} {base b' : Nat} {v : Value} {C : List ClD} (h : COutR w base v C) (hb : b' ≤ base) : COutR w b' v C := by
  obtain ⟨ds, h1, ⟨h2, h4⟩, h3⟩ := h
  refine ⟨ds, h1, ⟨h2, ?_⟩, fun d hd => own_mono (h3 d hd) hb⟩
  rcases h4 with h4 | ⟨g, cap, cur, e, hg, r⟩
  · exact .inl h4
  · exact .inr ⟨g, cap, cur, e, Nat.le_trans hb hg, r⟩
/-- Do two rules clash? -/
def clRof (K : Int) (g : GramD) (F Fo : List Wds) (a b : Nat) : Option ClD := if a < b ∧ leftN g a = leftN g b then (meetL (lookL K g F Fo a) (lookL K g F Fo b)).head?.map (fun l => (leftN g a, a, b, l)) else none
def clRB (K : Int) (g : GramD) (F Fo : List Wds) (a n : Nat) : List ClD := (List.range n).filterMap (clRof K g F Fo a)
def clR (K : Int) (g : GramD) (F Fo : List Wds) (n : Nat) : List ClD := (List.range n).flatMap (fun a => clRB K g F Fo a g.rules.length)
theorem clRB_start {K : Int} {g : GramD} {F Fo : List Wds} {a : Nat} : clRB K g F Fo a (a + 1) = [] := by
  unfold clRB
  rw [filterMap_more (n := 0) (Nat.zero_le _) (fun j _ h2 => by unfold clRof; rw [if_neg (fun h => by have := h.1; omega)])]
  rfl
theorem clRB_on {K : Int} {g : GramD} {F Fo : List Wds} {a b : Nat} : clRB K g F Fo a (b + 1) = clRB K g F Fo a b ++ (clRof K g F Fo a b).toList := by
  unfold clRB
  rw [List.range_succ, List.filterMap_append]
  congr 1
theorem clR_on {K : Int} {g : GramD} {F Fo : List Wds} {a : Nat} : clR K g F Fo (a + 1) = clR K g F Fo a ++ clRB K g F Fo a g.rules.length := by
  unfold clR
  rw [List.range_succ, List.flatMap_append, List.flatMap_singleton]
theorem clRB_ml (K : Int) (g : GramD) (F Fo : List Wds) (a n : Nat) : (clRB K g F Fo a n).length ≤ n := by
  unfold clRB
  exact Nat.le_trans (List.length_filterMap_le _ _) (by simp)
theorem clR_ml (K : Int) (g : GramD) (F Fo : List Wds) : ∀ n, (clR K g F Fo n).length ≤ g.rules.length * n
  | 0 => Nat.le_refl _
  | n + 1 => by
    rw [clR_on, List.length_append, Nat.mul_succ]
    have := clR_ml K g F Fo n
    have := clRB_ml K g F Fo n g.rules.length
    omega
def ClashRPost (C : List ClD) (w : World) (e : Ending) (w' : World) : Prop := ∃ v, e = .returned v ∧ COutR w' w.heap.size v C ∧ Grow w w'
theorem meetL_ok {A B : Wds} (h : OkW A) : OkW (meetL A B) := fun w hw => by
  unfold meetL meetP at hw
  have := mem_ofL.1 hw
  exact h w (List.mem_filter.1 this).1
set_option maxRecDepth 100000 in
set_option maxHeartbeats 4000000 in
theorem rclash_any {w : World} {B : Nat} {K : Int} {g : GramD} {nv xb cx yb cy : Nat} {F Fo : List Wds} (h : RefX w B K g nv xb cx yb cy F Fo) :
    Calls Try.prog 20 #[GV g, SV K nv xb cx yb cy] w (ClashRPost (clR K g F Fo g.rules.length) w) := by
  obtain ⟨i4, hi4, hy0, hy1, hy2⟩ := info_parts info60
  have HX := Lib.hid h
  have hn := h.n
  have HK := Lib.hid (fun W (hg : Grow w W) k (hk : k < g.rules.length) => (h.go hg).look hk)
  have HLO := Lib.hid (fun k => lookL_ok h.k.2 h.r h.f h.d k)
  have HLN := Lib.hid (fun k => okW_few (lookL_sorted K g F Fo k) (lookL_ok h.k.2 h.r h.f h.d k))
  have HL := Lib.hid (fun k (hk : k < g.rules.length) => h.left hk)
  have HCL := Lib.hid (fun n => clR_ml K g F Fo n)
  have HCB := Lib.hid (fun a n => clRB_ml K g F Fo a n)
  have HP : Hid (∀ W o, COutR W w.heap.size o (clR K g F Fo g.rules.length) → Grow w W → ClashRPost (clR K g F Fo g.rules.length) w (.returned o) W) := Lib.hid (fun W o h1 h2 => ⟨o, rfl, h1, h2⟩)
  clear h
  unfold GV SV at *
  generalize ClashRPost (clR K g F Fo g.rules.length) w = Po at *
  generalize hra0 : g.ra = ra at *
  clear hra0
  go_enter Try.func20, Try.ntmps20
  go_wp2_with fail
  obtain ⟨hb0, hb1, hbg, hbs⟩ := two_box (w := w) (X := .cells #[.slice g.ta g.terms.length g.tc, .slice g.va g.vars.length g.vc, .slice ra g.rules.length g.rc] 25) (Y := .cells #[.int .i64 K, .slice (some ⟨xb, 0, none⟩) nv cx, .slice (some ⟨yb, 0, none⟩) nv cy] 31)
  have HB0 := Lib.hid hb0
  have HB1 := Lib.hid hb1
  have HBG := Lib.hid hbg
  clear hb0 hb1 hbg
  generalize (w.alloc (.cells #[.slice g.ta g.terms.length g.tc, .slice g.va g.vars.length g.vc, .slice ra g.rules.length g.rc] 25)).alloc (.cells #[.int .i64 K, .slice (some ⟨xb, 0, none⟩) nv cx, .slice (some ⟨yb, 0, none⟩) nv cy] 31) = W at *
  have HBS := Lib.hid hbs
  clear hbs
  have hCW : w.heap.size + 1 < W.heap.size := by rw [HBS.out]; omega
  have HCS : Hid (∀ wr, Grow W wr → (wr.cell? ⟨w.heap.size, 0, none⟩ = some (.slice g.ta g.terms.length g.tc) ∧ wr.cell? ⟨w.heap.size, 1, none⟩ = some (.slice g.va g.vars.length g.vc) ∧ wr.cell? ⟨w.heap.size, 2, none⟩ = some (.slice ra g.rules.length g.rc)) ∧ wr.cell? ⟨w.heap.size + 1, 0, none⟩ = some (.int .i64 K) ∧ wr.cell? ⟨w.heap.size + 1, 1, none⟩ = some (.slice (some ⟨xb, 0, none⟩) nv cx) ∧ wr.cell? ⟨w.heap.size + 1, 2, none⟩ = some (.slice (some ⟨yb, 0, none⟩) nv cy)) := Lib.hid (fun wr hg => ⟨⟨(below_cell hg (by omega)).trans (cell_of_block (off := 0) HB0.out), (below_cell hg (by omega)).trans (cell_of_block (off := 1) HB0.out), (below_cell hg (by omega)).trans (cell_of_block (off := 2) HB0.out)⟩, (below_cell hg (by omega)).trans (cell_of_block (off := 0) HB1.out), (below_cell hg (by omega)).trans (cell_of_block (off := 1) HB1.out), (below_cell hg (by omega)).trans (cell_of_block (off := 2) HB1.out)⟩)
  go_loopw [5, 6] (fun o i wr => ∃ a : Nat, a ≤ g.rules.length ∧ i = .int .i64 a ∧ Hid (COutR wr W.heap.size o (clR K g F Fo a) ∧ Grow W wr)) (fun _ i _ => g.rules.length - (intOf i).toNat)
  case atStart => exact ⟨0, by omega, rfl, Lib.hid ⟨⟨[], rfl, ⟨rfl, .inr ⟨w.heap.size + 2, 0, #[], rfl, by rw [HBS.out]; omega, (by have := heap_alloc_this W (.cells #[] 60); rw [HBS.out] at this; exact this), Nat.le_refl _, Nat.zero_le _, rfl, rfl⟩⟩, fun d hd => by cases hd⟩, grow_one _ _⟩⟩
  case round =>
    obtain ⟨a, ha, rfl, hf⟩ := hrel
    obtain ⟨⟨c0, c1, c2⟩, e0, e1, e2⟩ := HCS.out wr hf.out.2
    by_cases hlt : a < g.rules.length
    · have hai : (a : Int) < g.rules.length := by omega
      have ha0 : (0 : Int) ≤ a := by omega
      have hcl := HCL.out a
      have hm3 : g.rules.length * a ≤ 24 * 24 := Nat.mul_le_mul hn (by omega)
      have HSTEP := Lib.hid (clR_on (K := K) (g := g) (F := F) (Fo := Fo) (a := a))
      have hDl : (clR K g F Fo a).length ≤ 576 := by omega
      clear hcl hm3
      generalize clR K g F Fo a = D at *
      go_wp2_with fail
      clear c0 c1 c2 e0 e1 e2
      go_loopw [5, 7] (fun o i wr => ∃ b : Nat, a + 1 ≤ b ∧ b ≤ g.rules.length ∧ i = .int .i64 b ∧ Hid (COutR wr W.heap.size o (D ++ clRB K g F Fo a b) ∧ Grow W wr)) (fun _ i _ => g.rules.length - (intOf i).toNat)
      case atStart => exact ⟨a + 1, by omega, by omega, by go_num, Lib.hid ⟨by rw [clRB_start, List.append_nil]; exact hf.out.1, hf.out.2⟩⟩
      case round =>
        clear hf
        obtain ⟨b, hab, hb, rfl, hf⟩ := hrel
        obtain ⟨⟨c0, c1, c2⟩, e0, e1, e2⟩ := HCS.out wr hf.out.2
        by_cases hlb : b < g.rules.length
        · have hbi : (b : Int) < g.rules.length := by omega
          have hb0 : (0 : Int) ≤ b := by omega
          obtain ⟨rb, off, rfl, hrb, r0, hlv⟩ := HL.out a hlt
          obtain ⟨rb2, off2, hr2, _, r2, _⟩ := HL.out b hlb
          have hr3 : rb2 = rb ∧ off2 = off := by
            injection hr2 with hr2
            injection hr2 with h1 h2
            exact ⟨h1.symm, h2.symm⟩
          obtain ⟨rfl, rfl⟩ := hr3
          clear hr2
          have HGW := Lib.hid (HBG.out.trans hf.out.2)
          have q0 := (below_cell HGW.out hrb).trans r0
          have q2 := (below_cell HGW.out hrb).trans r2
          have HON := Lib.hid (clRB_on (K := K) (g := g) (F := F) (Fo := Fo) (a := a) (b := b))
          have HOF := Lib.hid (show clRof K g F Fo a b = if leftN g a = leftN g b then (meetL (lookL K g F Fo a) (lookL K g F Fo b)).head?.map (fun l => (leftN g a, a, b, l)) else none from by
            unfold clRof
            by_cases he : leftN g a = leftN g b
            · rw [if_pos he, if_pos ⟨by omega, he⟩]
            · rw [if_neg he, if_neg (fun h => he h.2)])
          have hbl := HCB.out a b
          have hEl : (D ++ clRB K g F Fo a b).length ≤ 600 := by rw [List.length_append]; omega
          have HASS : Hid (D ++ clRB K g F Fo a (b + 1) = D ++ clRB K g F Fo a b ++ (clRof K g F Fo a b).toList) := Lib.hid (by rw [HON.out, List.append_assoc])
          have HC1 := Lib.hid (fun W' (h' : Grow wr W') => HK.out _ (HGW.out.trans h') a hlt)
          have HC2 := Lib.hid (fun W' (h' : Grow wr W') => HK.out _ (HGW.out.trans h') b hlb)
          have HO1 := Lib.hid (HLO.out a)
          have HO2 := Lib.hid (HLO.out b)
          have hl1 := HLN.out a
          have hl2 := HLN.out b
          clear hbl HON
          generalize D ++ clRB K g F Fo a b = E at *
          generalize clRof K g F Fo a b = co at *
          generalize lookL K g F Fo a = L1 at *
          generalize lookL K g F Fo b = L2 at *
          generalize leftN g a = m1 at *
          generalize leftN g b = m2 at *
          clear r0 r2
          by_cases hmv : m1 = m2
          · subst hmv
            rw [if_pos rfl] at HOF
            go_wp2_with fail
            go_quiet (fail)
            go_wp2_with fail
            have HG0 := Lib.hid (grow_drewN wr nq)
            have HF := Lib.hid (And.intro (hf.out.1.grow HG0.out) (hf.out.2.trans HG0.out))
            have HC1' := Lib.hid (fun W' (h' : Grow (wr.drewN nq) W') => HC1.out W' (HG0.out.trans h'))
            have HC2' := Lib.hid (fun W' (h' : Grow (wr.drewN nq) W') => HC2.out W' (HG0.out.trans h'))
            have x0 : (wr.drewN nq).cell? ⟨rb2, off2 + a * 3, none⟩ = some (.int .i64 (m1 : Int)) := q0
            clear hf HC1 HC2 c0 c1 c2 e0 e1 e2 q0 q2 HG0
            generalize wr.drewN nq = V at *
            have HSG : Hid (∀ X, Grow V X → X.cell? ⟨w.heap.size, 0, none⟩ = some (.slice g.ta g.terms.length g.tc) ∧ X.cell? ⟨w.heap.size, 1, none⟩ = some (.slice g.va g.vars.length g.vc) ∧ X.cell? ⟨w.heap.size, 2, none⟩ = some (.slice (some ⟨rb2, off2, none⟩) g.rules.length g.rc) ∧ X.cell? ⟨w.heap.size + 1, 0, none⟩ = some (.int .i64 K) ∧ X.cell? ⟨w.heap.size + 1, 1, none⟩ = some (.slice (some ⟨xb, 0, none⟩) nv cx) ∧ X.cell? ⟨w.heap.size + 1, 2, none⟩ = some (.slice (some ⟨yb, 0, none⟩) nv cy)) := Lib.hid (fun X hg => by
              obtain ⟨⟨h0, h1, h2⟩, h3, h4, h5⟩ := HCS.out X (HF.out.2.trans hg)
              exact ⟨h0, h1, h2, h3, h4, h5⟩)
            have hSd := HSG.out V.drew (grow_drew V)
            go_region_held3 (fun w' => w'.cell? ⟨w.heap.size, 0, none⟩ = some (.slice g.ta g.terms.length g.tc) ∧ w'.cell? ⟨w.heap.size, 1, none⟩ = some (.slice g.va g.vars.length g.vc) ∧ w'.cell? ⟨w.heap.size, 2, none⟩ = some (.slice (some ⟨rb2, off2, none⟩) g.rules.length g.rc) ∧ w'.cell? ⟨w.heap.size + 1, 0, none⟩ = some (.int .i64 K) ∧ w'.cell? ⟨w.heap.size + 1, 1, none⟩ = some (.slice (some ⟨xb, 0, none⟩) nv cx) ∧ w'.cell? ⟨w.heap.size + 1, 2, none⟩ = some (.slice (some ⟨yb, 0, none⟩) nv cy))
              (first | with_reducible exact hS3 | with_reducible exact hS2 | with_reducible exact hS1 | with_reducible exact hSd)
              (first
              | (go_at_call 45; refine (rmeet_any H2.out.1 H2.out.2.1 (okW_s HO1.out) (okW_s HO2.out) (by omega) (by omega)).mono ?_; rintro e w3 ⟨v3, rfl, hm3, hg3⟩
                 have hS3 := HSG.out w3 (H2.out.2.2.trans hg3)
                 have H3 := Lib.hid (And.intro hm3 (H2.out.2.2.trans hg3))
                 clear hm3 hg3)
              | (go_at_call 37; refine (HC2'.out _ H1.out.2).mono ?_; rintro e w2 ⟨v2, rfl, hm2, hg2⟩
                 obtain ⟨a2, k2, rfl⟩ := hm2.lit
                 have hS2 := HSG.out w2 (H1.out.2.trans hg2)
                 have H2 := Lib.hid (And.intro (H1.out.1.go hg2) (And.intro hm2.l (H1.out.2.trans hg2)))
                 clear hm2 hg2)
              | (go_at_call 37; refine (HC1'.out _ (grow_drew V)).mono ?_; rintro e w1 ⟨v1, rfl, hm1, hg1⟩
                 obtain ⟨a1, k1, rfl⟩ := hm1.lit
                 have hS1 := HSG.out w1 ((grow_drew V).trans hg1)
                 have H1 := Lib.hid (And.intro hm1.l ((grow_drew V).trans hg1))
                 clear hm1 hg1))
            obtain ⟨a3, k3, rfl⟩ := H3.out.1.lit
            have HML : Hid ((meetL L1 L2).length ≤ 43) := Lib.hid (okW_few (ofL_sorted _) (meetL_ok HO1.out))
            have hF2 := Lib.hid (And.intro (HF.out.1.grow H3.out.2) (HF.out.2.trans H3.out.2))
            have x3 := (below_cell H3.out.2 (block_of_cell x0)).trans x0
            obtain ⟨g0, g1, g2, g3, g4, g5⟩ := HSG.out w3 H3.out.2
            clear hSd x0
            cases hM : meetL L1 L2 with
            | nil =>
              rw [hM] at H3 HOF
              go_wp2_with fail
              exact ⟨⟨b + 1, by omega, by omega, by go_num, by rw [HASS.out, HOF.out]; simpa using hF2⟩, by simp [intOf]; omega⟩
            | cons l rest =>
              rw [hM] at H3 HOF HML
              obtain ⟨mb, ai, di, rfl, hm0, hmo, _⟩ := H3.out.1.at (i := 0) (by simp)
              have hmr : mb < w3.heap.size := block_of_cell hm0
              have HMO := Lib.hid hmo
              have hpos : (0 : Int) < (l :: rest).length := by simp
              rw [List.getElem_cons_zero] at hm0 HMO
              obtain ⟨ds, hds, how, hdo⟩ := hF2.out.1
              have hdl : ds.length ≤ 600 := by rw [← hds, List.length_map] at hEl; exact hEl
              have HDS := Lib.hid hds
              have HFG := Lib.hid hF2.out.2
              have hW3 := HFG.out.size
              obtain ⟨_, _, cM, hcM⟩ := row_ge H3.out.1.choose_spec.1 (g := mb) rfl
              have HCM := Lib.hid hcM
              have HOW := Lib.hid how
              have HDO := Lib.hid hdo
              have HOL := Lib.hid (own_mono HMO.out (Nat.le_trans HF.out.2.size H2.out.2.2.size))
              clear hds how hdo hF2 hM
              have HG3 := Lib.hid ((grow_drew w3).trans (grow_one w3.drew (.cells #[.int .i64 (m1 : Int), .int .i64 (a : Int), .int .i64 (b : Int), .slice ai l.length di] 60)))
              have HG4 := Lib.hid (HFG.out.trans HG3.out)
              have HOW4 := Lib.hid (own_stay HOW.out (fun k hk => HG3.out.block k (own_lt HOW.out hk).1))
              have HDO4 := Lib.hid (fun d hd => Own.below (HDO.out d hd) HG3.out)
              have HOL4 := Lib.hid (Own.below HOL.out HG3.out)
              have HCM4 := Lib.hid ((HG3.out.block _ hmr).trans HCM.out)
              have hrr : rb2 < w3.heap.size := by have := HBG.out.size; omega
              have hCr : w.heap.size < w3.heap.size := by omega
              have n0 : w3.drew.cell? ⟨w.heap.size, 2, none⟩ = some (.slice (some ⟨rb2, off2, none⟩) g.rules.length g.rc) := g2
              have n1 : w3.drew.cell? ⟨rb2, off2 + a * 3, none⟩ = some (.int .i64 (m1 : Int)) := x3
              have n2 : w3.drew.cell? ⟨mb, 0, none⟩ = some (.slice ai l.length di) := hm0
              have k0 : w.heap.size < w3.drew.heap.size := hCr
              have k1 : rb2 < w3.drew.heap.size := hrr
              have k2 : mb < w3.drew.heap.size := hmr
              have HO5 := Lib.hid (show co = some (m1, a, b, l) from HOF.out)
              clear g0 g1 g2 g3 g4 g5 x3 hm0 HOW HDO HOL HCM HMO hrr hCr
              go_wp2_with fail
              refine wp_region_held_drew (S := fun w' => w'.cell? ⟨w.heap.size, 2, none⟩ = some (.slice (some ⟨rb2, off2, none⟩) g.rules.length g.rc) ∧ w'.cell? ⟨rb2, off2 + a * 3, none⟩ = some (.int .i64 (m1 : Int)) ∧ w'.cell? ⟨mb, 0, none⟩ = some (.slice ai l.length di)) (by kernel_rfl) (⟨n0, n1, n2⟩) (fun hHeld => ?_)
              generalize w3.drew = V3 at *
              refine wpAnyH_take (i := 0) (v := ?_) rfl (by kernel_rfl) (by kernel_rfl) (by kernel_rfl) (fun _ _ _ h => h) (Or.inl ⟨by rfl, ?_⟩) (by with_reducible assumption) ?_
              rotate_left
              · intro w hSw
                try dsimp only at hSw
                go_simp
                try with_reducible rfl
              try simp only [Act.put, List.setIfInBounds_toArray]
              refine wpAnyH_take (i := 1) (v := ?_) rfl (by kernel_rfl) (by kernel_rfl) (by kernel_rfl) (fun _ _ _ h => h) (Or.inl ⟨by rfl, ?_⟩) (by with_reducible assumption) ?_
              rotate_left
              · intro w hSw
                try dsimp only at hSw
                go_simp
                try with_reducible rfl
              try simp only [Act.put]
              refine wpAnyH_take (i := 2) (v := ?_) rfl (by kernel_rfl) (by kernel_rfl) (by kernel_rfl) (fun _ _ _ h => h) (Or.inl ⟨by rfl, ?_⟩) (by with_reducible assumption) ?_
              rotate_left
              · intro w hSw
                try dsimp only at hSw
                go_simp
                try with_reducible rfl
              try simp only [Act.put]
              refine wpAnyH_take (i := 3) (v := ?_) rfl (by kernel_rfl) (by kernel_rfl) (by kernel_rfl) (fun _ _ _ h => h) (Or.inl ⟨by rfl, ?_⟩) (by with_reducible assumption) ?_
              rotate_left
              · intro w hSw
                try dsimp only at hSw
                go_simp
                try with_reducible rfl
              try simp only [Act.put]
              refine wpAnyH_take (i := 4) (v := ?_) rfl (by kernel_rfl) (by kernel_rfl) (by kernel_rfl) (fun _ _ _ h => h) (Or.inl ⟨by rfl, ?_⟩) (by with_reducible assumption) ?_
              rotate_left
              · intro w hSw
                try dsimp only at hSw
                go_simp
                try with_reducible rfl
              try simp only [Act.put]
              refine wpAnyH_take (i := 5) (v := ?_) rfl (by kernel_rfl) (by kernel_rfl) (by kernel_rfl) (fun _ _ _ h => h) (Or.inl ⟨by rfl, ?_⟩) (by with_reducible assumption) ?_
              rotate_left
              · intro w hSw
                try dsimp only at hSw
                go_simp
                try with_reducible rfl
              try simp only [Act.put]
              refine wpAnyH_take (i := 6) (v := ?_) rfl (by kernel_rfl) (by kernel_rfl) (by kernel_rfl) (fun _ _ _ h => h) (Or.inl ⟨by rfl, ?_⟩) (by with_reducible assumption) ?_
              rotate_left
              · intro w hSw
                try dsimp only at hSw
                go_simp
                try with_reducible rfl
              try simp only [Act.put]
              refine wpAnyH_take (i := 7) (v := ?_) rfl (by kernel_rfl) (by kernel_rfl) (by kernel_rfl) (fun _ _ _ h => h) (Or.inl ⟨by rfl, ?_⟩) (by with_reducible assumption) ?_
              rotate_left
              · intro w hSw
                try dsimp only at hSw
                go_simp
                try with_reducible rfl
              try simp only [Act.put]
              refine wpAnyH_take (i := 8) (v := ?_) rfl (by kernel_rfl) (by kernel_rfl) (by kernel_rfl) (fun _ _ _ h => h) (Or.inl ⟨by rfl, ?_⟩) (by with_reducible assumption) ?_
              rotate_left
              · intro w hSw
                try dsimp only at hSw
                go_simp
                try with_reducible rfl
              try simp only [Act.put]
              refine wpAnyH_take (i := 9) (v := ?_) rfl (by kernel_rfl) (by kernel_rfl) (by kernel_rfl) (fun _ _ _ h => h) (Or.inl ⟨by rfl, ?_⟩) (by with_reducible assumption) ?_
              rotate_left
              · intro w hSw
                try dsimp only at hSw
                go_simp
                try with_reducible rfl
              try simp only [Act.put]
              refine wpAnyH_take (i := 10) (v := ?_) rfl (by kernel_rfl) (by kernel_rfl) (by kernel_rfl) (fun _ _ _ h => h) (Or.inl ⟨by rfl, ?_⟩) (by with_reducible assumption) ?_
              rotate_left
              · intro w hSw
                try dsimp only at hSw
                go_simp
                try with_reducible rfl
              try simp only [Act.put]
              refine wpAnyH_take (i := 11) (v := ?_) rfl (by kernel_rfl) (by kernel_rfl) (by kernel_rfl) (fun _ _ _ h => h) (Or.inl ⟨by rfl, ?_⟩) (by with_reducible assumption) ?_
              rotate_left
              · intro w hSw
                try dsimp only at hSw
                go_simp
                try with_reducible rfl
              try simp only [Act.put]
              refine wpAnyH_take (i := 12) (v := ?_) rfl (by kernel_rfl) (by kernel_rfl) (by kernel_rfl) (fun _ _ _ h => h) (Or.inl ⟨by rfl, ?_⟩) (by with_reducible assumption) ?_
              rotate_left
              · intro w hSw
                try dsimp only at hSw
                go_simp
                try with_reducible rfl
              try simp only [Act.put]
              refine wpAnyH_ready (rs := [13]) (by kernel_rfl) (by simp) ?_
              refine AllReadyH.cons (o := _) rfl (fun K hK => ?_) ?_
              · go_simp
                refine hK.out _ _ (⟨cell_alloc_keep k0 hHeld.1, cell_alloc_keep k1 hHeld.2.1, cell_alloc_keep k2 hHeld.2.2⟩) (fun hHeld => ?_)
                clear hK K
                try simp only [Act.put, List.setIfInBounds_toArray, List.set_cons_zero, List.set_cons_succ]
                refine wpAnyH_ready (rs := [14]) (by kernel_rfl) (by simp) ?_
                refine AllReadyH.cons (o := _) rfl (fun K hK => ?_) ?_
                · refine step_append_lies _ (by rfl) (.tmp 51) (.tmp 64) 56 (by rfl) W.heap.size 60 i4 _ 4 48 Try.underlying56 hi4 hy0 hy1 hy2 rfl (by decide) _ ds.length _ (by rfl) HOW4.out ⟨V3.heap.size, 0, none⟩ 1 1 [.int .i64 (m1 : Int), .int .i64 (a : Int), .int .i64 (b : Int), .slice ai l.length di] (by rfl) (by rfl) (World.news_of_block (cs := #[.int .i64 (m1 : Int), .int .i64 (a : Int), .int .i64 (b : Int), .slice ai l.length di]) (t := 60) (fr := (0, 0)) (heap_alloc_new _ _)) (by simp [Value.oneCell']) (by omega) (by simp only [maxLen]; omega) (by omega) HG4.out.size (V3.heap.size + 1) (by simp) ?_
                  intro gb cap w5 hown hgrow hat2 hlt5
                  refine hK.out _ _ (⟨(World.cell?_of_block (hgrow.block (w.heap.size) (by simp only [World.size_alloc]; omega) (fun e => by have := (own_lt HOW4.out e.symm).2; omega))).trans hHeld.1, (World.cell?_of_block (hgrow.block (rb2) (by simp only [World.size_alloc]; omega) (fun e => by have := (own_lt HOW4.out e.symm).2; omega))).trans hHeld.2.1, (World.cell?_of_block (hgrow.block (mb) (by simp only [World.size_alloc]; omega) (fun e => notR HOW4.out HCM4.out e.symm))).trans hHeld.2.2⟩) (fun hHeld => ?_)
                  clear hK K
                  try simp only [Act.put, List.setIfInBounds_toArray]
                  refine wpAnyH_take (i := 15) (v := ?_) rfl (by kernel_rfl) (by kernel_rfl) (by kernel_rfl) (fun _ _ _ h => h) (Or.inl ⟨by rfl, ?_⟩) (by with_reducible assumption) ?_
                  rotate_left
                  · intro w hSw
                    try dsimp only at hSw
                    go_simp
                    try with_reducible rfl
                  try simp only [Act.put]
                  refine wpAnyH_done (by kernel_rfl) ?_ _
                  go_wp2_with fail
                  go_roundw
                  case rel =>
                    refine ⟨b + 1, by omega, by omega, by go_num, Lib.hid ⟨?_, ?_⟩⟩
                    · rw [HASS.out, HO5.out, ← HDS.out]
                      exact coutR_snoc (c := (m1, a, b, l)) HOW4.out HDO4.out HOL4.out hgrow hown rfl
                    · exact grow_onto HG4.out ⟨hgrow.os, hgrow.tape, hgrow.output, hgrow.size, fun k hk => hgrow.block k (Nat.lt_of_lt_of_le hk HG4.out.size) (fun e => by have := (own_lt HOW4.out e.symm).2; omega)⟩
                  case measure => simp [intOf] <;> omega
                exact AllReadyH.nil
              exact AllReadyH.nil
          · have hmi : ¬ (m1 : Int) = m2 := by omega
            rw [if_neg hmv] at HOF
            go_wp2_with fail
            go_quiet (fail)
            go_wp2_with fail
            exact ⟨⟨b + 1, by omega, by omega, by go_num, by rw [HASS.out, HOF.out]; simpa using Lib.hid (And.intro (hf.out.1.grow (grow_drewN _ _)) (hf.out.2.trans (grow_drewN _ _)))⟩, by simp [intOf]; omega⟩
        · have hbi : ¬ (b : Int) < g.rules.length := by omega
          obtain rfl : b = g.rules.length := by omega
          go_wp2_with fail
          go_roundw
          case rel => exact ⟨a + 1, by omega, by go_num, by rw [HSTEP.out]; exact hf⟩
          case measure => simp [intOf] <;> omega
    · have hai : ¬ (a : Int) < g.rules.length := by omega
      obtain rfl : a = g.rules.length := by omega
      go_wp2_with fail
      exact HP.out _ _ (coutR_mono hf.out.1 (by omega)) (HBG.out.trans hf.out.2)
end Go.Proofs.Ytmiiolgbjicocaa
