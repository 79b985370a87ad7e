/- The reference's table: Looks, Rules: the walk. -/
import Derived.Test.YtmiiolgbjicocaaRefL
import Derived.Test.YtmiiolgbjicocaaOfW
import Derived.Test.YtmiiolgbjicocaaMoreP
namespace Go.Proofs.Ytmiiolgbjicocaa
open Go.RowKit
attribute [local go_sem] run_store_float
/-- The words of the rules of a variable. -/
def looksR (K : Int) (g : GramD) (F Fo : List Wds) (v : Nat) : Nat → Wds
  | 0 => []
  | k + 1 => if leftN g k = v then takeL (looksR K g F Fo v k) (lookL K g F Fo k) else looksR K g F Fo v k
theorem looksR_sorted {K : Int} {g : GramD} {F Fo : List Wds} {v : Nat} : ∀ {n : Nat}, Sorted (looksR K g F Fo v n)
  | 0 => fun i j a b _ h1 _ => by simp [looksR] at h1
  | n + 1 => by
    rw [looksR]
    split
    · exact foldl_sorted _ _ looksR_sorted
    · exact looksR_sorted
theorem mem_looksR {K : Int} {g : GramD} {F Fo : List Wds} {v : Nat} {w : List Int} : ∀ {n : Nat}, w ∈ looksR K g F Fo v n ↔ ∃ k < n, leftN g k = v ∧ w ∈ lookL K g F Fo k
  | 0 => by simp [looksR]
  | n + 1 => by
    rw [looksR]
    constructor
    · intro h
      split at h
      · rename_i he
        rcases mem_takeL.1 h with h | h
        · obtain ⟨k, hk, h1⟩ := mem_looksR.1 h
          exact ⟨k, by omega, h1⟩
        · exact ⟨n, by omega, he, h⟩
      · obtain ⟨k, hk, h1⟩ := mem_looksR.1 h
        exact ⟨k, by omega, h1⟩
    · rintro ⟨k, hk, h1, h2⟩
      by_cases he : k = n
      · subst he
        rw [if_pos h1]
        exact mem_takeL.2 (.inr h2)
      · have := mem_looksR.2 ⟨k, (by omega : k < n), h1, h2⟩
        split
        · exact mem_takeL.2 (.inl this)
        · exact this
theorem looksR_ok {K : Int} {g : GramD} {F Fo : List Wds} {v : Nat} (h : ∀ k, OkW (lookL K g F Fo k)) {n : Nat} : OkW (looksR K g F Fo v n) := fun w hw => by
  obtain ⟨k, _, _, h2⟩ := mem_looksR.1 hw
  exact h k w h2
theorem lookL_ok {K : Int} {g : GramD} {nv : Nat} {F Fo : List Wds} (hK : K ≤ 2) (hR : GoodR nv (rulesOf g)) (hF : ∀ v, OkW (F.getD v [])) (hD : ∀ v, OkW (Fo.getD v [])) (k : Nat) : OkW (lookL K g F Fo k) := by
  by_cases hk : k < g.rules.length
  · rw [lookL_at hk]
    exact okW_ahead hF hK (hR _ (List.mem_of_getElem? (rulesOf_at hk))).2.1 (hD _)
  · unfold lookL
    rw [List.getElem?_eq_none (by omega)]
    exact fun w hw => by cases hw
theorem lookL_sorted (K : Int) (g : GramD) (F Fo : List Wds) (k : Nat) : Sorted (lookL K g F Fo k) := by
  unfold lookL
  split
  · exact sorted_ahead _ _ _ _
  · exact fun i j a b _ h1 _ => by simp at h1
theorem rulesK_on {K : Int} {g : GramD} {F Fo : List Wds} {v n : Nat} {look : List Int} : rulesK K g F Fo v (n + 1) look = if leftN g n = v ∧ look ∈ lookL K g F Fo n then rulesK K g F Fo v n look ++ [(n : Int)] else rulesK K g F Fo v n look := by
  unfold rulesK
  rw [List.range_succ, List.filter_append, List.map_append]
  by_cases h : leftN g n = v ∧ look ∈ lookL K g F Fo n
  · rw [if_pos h]; simp [h]
  · rw [if_neg h]; simp [h]
theorem rulesK_ml {K : Int} {g : GramD} {F Fo : List Wds} {v n : Nat} {look : List Int} : (rulesK K g F Fo v n look).length ≤ n := by
  unfold rulesK
  rw [List.length_map]
  exact Nat.le_trans (List.length_filter_le _ _) (by simp)
theorem below_lw {B B' : Nat} {w w' : World} (h : Below B w w') (hl : B' ≤ B) : Below B' w w' := ⟨h.os, h.tape, h.output, h.size, fun k hk => h.block k (by omega)⟩
/-- What the reference's layers read. -/
structure RefX (w : World) (B : Nat) (K : Int) (g : GramD) (nv xb cx yb cy : Nat) (F Fo : List Wds) : Prop where
  a1 : ArrM xb nv F w
  a2 : ArrM yb nv Fo w
  k : 1 ≤ K ∧ K ≤ 2
  r : GoodR nv (rulesOf g)
  gr : GramAt w B g
  b : B ≤ w.heap.size
  f : ∀ v, OkW (F.getD v [])
  d : ∀ v, OkW (Fo.getD v [])
  fs : ∀ v, Sorted (F.getD v [])
  ds : ∀ v, Sorted (Fo.getD v [])
  l : ∀ i (h : i < g.rules.length), 0 ≤ g.rules[i].left
  n : g.rules.length ≤ 24
theorem RefX.go {w w' : World} {B : Nat} {K : Int} {g : GramD} {nv xb cx yb cy : Nat} {F Fo : List Wds} (h : RefX w B K g nv xb cx yb cy F Fo) (k : Grow w w') : RefX w' B K g nv xb cx yb cy F Fo :=
  ⟨h.a1.go k, h.a2.go k, h.k, h.r, h.gr.below (below_lw k h.b), Nat.le_trans h.b k.size, h.f, h.d, h.fs, h.ds, h.l, h.n⟩
theorem RefX.look {w : World} {B : Nat} {K : Int} {g : GramD} {nv xb cx yb cy : Nat} {F Fo : List Wds} (h : RefX w B K g nv xb cx yb cy F Fo) {k : Nat} (hk : k < g.rules.length) : Calls Try.prog 37 #[GV g, SV K nv xb cx yb cy, .int .i64 (k : Nat)] w (RPost w.heap.size (lookL K g F Fo k) w) :=
  rlook_any h.a1 h.a2 h.k h.r h.gr h.b h.f h.d h.fs h.ds h.l hk
/-- A rule's left side in memory. -/
theorem RefX.left {w : World} {B : Nat} {K : Int} {g : GramD} {nv xb cx yb cy : Nat} {F Fo : List Wds} (h : RefX w B K g nv xb cx yb cy F Fo) {k : Nat} (hk : k < g.rules.length) : ∃ rb off, g.ra = some ⟨rb, off, none⟩ ∧ rb < w.heap.size ∧ w.cell? ⟨rb, off + k * 3, none⟩ = some (.int .i64 (leftN g k : Int)) ∧ leftN g k < nv := by
  obtain ⟨rb, off, hra, hrb, r0, _, _, _, _⟩ := h.gr.rules k hk
  have hl := h.l k hk
  have e : g.rules[k].left = (leftN g k : Int) := by
    unfold leftN
    rw [List.getElem?_eq_getElem hk]
    show _ = ((g.rules[k].left.toNat : Nat) : Int)
    omega
  have hr := (h.r _ (List.mem_of_getElem? (rulesOf_at hk))).1
  dsimp only at hr
  exact ⟨rb, off, hra, Nat.lt_of_lt_of_le hrb h.b, by rw [r0, e], by omega⟩
/-- The two boxes of a call. -/
theorem two_box {w : World} {X Y : Obj} : ((w.alloc X).alloc Y).heap[w.heap.size]? = some X ∧ ((w.alloc X).alloc Y).heap[w.heap.size + 1]? = some Y ∧ Grow w ((w.alloc X).alloc Y) ∧ ((w.alloc X).alloc Y).heap.size = w.heap.size + 2 := by
  refine ⟨heap_alloc_keep (heap_alloc_this _ _), ?_, (grow_one _ _).trans (grow_one _ _), by simp⟩
  have := heap_alloc_this (w.alloc X) Y
  rwa [World.size_alloc] at this
set_option maxRecDepth 100000 in
set_option maxHeartbeats 4000000 in
theorem rrules_any {w : World} {B : Nat} {K : Int} {g : GramD} {nv xb cx yb cy : Nat} {F Fo : List Wds} (h : RefX w B K g nv xb cx yb cy F Fo) {v : Nat} {ua : Option Addr} {uc : Nat} {u : List Int} (hu : Lst w ua u) (hul : u.length ≤ 10000) :
    Calls Try.prog 14 #[GV g, SV K nv xb cx yb cy, .int .i64 (v : Nat), .slice ua u.length uc] w (WPost (rulesK K g F Fo v g.rules.length u) w) := by
  have HX := Lib.hid h
  have HU := Lib.hid hu
  have hn := h.n
  have HK := Lib.hid (fun W (hg : Grow w W) k (hk : k < g.rules.length) => (h.go hg).look hk)
  have HOK := Lib.hid (fun k => okW_s (lookL_ok h.k.2 h.r h.f h.d k))
  have HLN := Lib.hid (fun k => okW_few (lookL_sorted K g F Fo k) (lookL_ok h.k.2 h.r h.f h.d k))
  have HL := Lib.hid (fun k (hk : k < g.rules.length) => h.left hk)
  clear h hu
  unfold GV SV at *
  generalize hra0 : g.ra = ra at *
  clear hra0
  go_enter Try.func14, Try.ntmps14
  go_wp2_with fail
  obtain ⟨hb0, hb1, hbg, hbs⟩ := two_box (w := w) (X := .cells #[.slice g.ta g.terms.length g.tc, .slice g.va g.vars.length g.vc, .slice ra g.rules.length g.rc] 25) (Y := .cells #[.int .i64 K, .slice (some ⟨xb, 0, none⟩) nv cx, .slice (some ⟨yb, 0, none⟩) nv cy] 31)
  have HB0 := Lib.hid hb0
  have HB1 := Lib.hid hb1
  have HBG := Lib.hid hbg
  clear hb0 hb1 hbg
  generalize (w.alloc (.cells #[.slice g.ta g.terms.length g.tc, .slice g.va g.vars.length g.vc, .slice ra g.rules.length g.rc] 25)).alloc (.cells #[.int .i64 K, .slice (some ⟨xb, 0, none⟩) nv cx, .slice (some ⟨yb, 0, none⟩) nv cy] 31) = W at *
  have HBS := Lib.hid hbs
  clear hbs
  have hCW : w.heap.size + 1 < W.heap.size := by rw [HBS.out]; omega
  go_loopw [9, 10] (fun o i wr => ∃ k : Nat, k ≤ g.rules.length ∧ i = .int .i64 k ∧ Hid (Own wr W.heap.size o (rulesK K g F Fo v k u) ∧ Grow W wr)) (fun _ i _ => g.rules.length - (intOf i).toNat)
  case atStart => exact ⟨0, by omega, rfl, Lib.hid ⟨own_lit0 (by have := heap_alloc_this W (.cells #[] 3); rw [HBS.out] at this; exact this) (by rw [HBS.out]; omega), grow_one _ _⟩⟩
  case round =>
    obtain ⟨k, hk, rfl, hf⟩ := hrel
    have c0 : wr.cell? ⟨w.heap.size, 0, none⟩ = some (.slice g.ta g.terms.length g.tc) := (below_cell hf.out.2 (by omega)).trans (cell_of_block (off := 0) HB0.out)
    have c1 : wr.cell? ⟨w.heap.size, 1, none⟩ = some (.slice g.va g.vars.length g.vc) := (below_cell hf.out.2 (by omega)).trans (cell_of_block (off := 1) HB0.out)
    have c2 : wr.cell? ⟨w.heap.size, 2, none⟩ = some (.slice ra g.rules.length g.rc) := (below_cell hf.out.2 (by omega)).trans (cell_of_block (off := 2) HB0.out)
    have e0 : wr.cell? ⟨w.heap.size + 1, 0, none⟩ = some (.int .i64 K) := (below_cell hf.out.2 (by omega)).trans (cell_of_block (off := 0) HB1.out)
    have e1 : wr.cell? ⟨w.heap.size + 1, 1, none⟩ = some (.slice (some ⟨xb, 0, none⟩) nv cx) := (below_cell hf.out.2 (by omega)).trans (cell_of_block (off := 1) HB1.out)
    have e2 : wr.cell? ⟨w.heap.size + 1, 2, none⟩ = some (.slice (some ⟨yb, 0, none⟩) nv cy) := (below_cell hf.out.2 (by omega)).trans (cell_of_block (off := 2) HB1.out)
    by_cases hlt : k < g.rules.length
    · have hki : (k : Int) < g.rules.length := by omega
      have hk0 : (0 : Int) ≤ k := by omega
      obtain ⟨rb, off, rfl, hrb, r0, hlv⟩ := HL.out k hlt
      have HGW := Lib.hid (HBG.out.trans hf.out.2)
      have q0 := (below_cell HGW.out hrb).trans r0
      have HRK := Lib.hid (rulesK_on (K := K) (g := g) (F := F) (Fo := Fo) (v := v) (n := k) (look := u))
      have hlen := rulesK_ml (K := K) (g := g) (F := F) (Fo := Fo) (v := v) (n := k) (look := u)
      have HC := Lib.hid (HK.out _ HGW.out k hlt)
      have HO1 := Lib.hid (HOK.out k)
      have hl1 := HLN.out k
      generalize lookL K g F Fo k = L at *
      generalize leftN g k = m at *
      generalize rulesK K g F Fo v k u = acc at *
      clear r0
      by_cases hmv : m = v
      · subst hmv
        by_cases hin : u ∈ L
        · have HIN := Lib.hid hin
          rw [if_pos ⟨rfl, hin⟩] at HRK
          clear hin
          go_wp2_with (first
            | (go_at_call 37; refine HC.out.mono ?_; rintro e w1 ⟨v1, rfl, hm1, hg1⟩
               obtain ⟨a1, k1, rfl⟩ := hm1.lit
               have H1 := Lib.hid (And.intro hm1.l hg1)
               clear hm1 hg1)
            | (go_at_call 39; refine (rhas_any H1.out.1 (Lst.go HU.out (HGW.out.trans H1.out.2)) HO1.out hul (by omega)).mono ?_; rintro e w2 ⟨rfl, n2, rfl⟩
               rw [decide_eq_true HIN.out]
               have H2 := Lib.hid (H1.out.2.trans (grow_drewN w1 n2))
               have HO2 := Lib.hid (Own.kept hf.out.1 (fun g hg => H2.out.block g (hf.out.1.lt hg).1))
               have hsz2 : W.heap.size ≤ (w1.drewN n2).heap.size := Nat.le_trans hf.out.2.size H2.out.size)
            | (at_builtin; (refine append_ints rfl _ _ 26 rfl Try.underlying26 info3 W.heap.size _ acc rfl (HO2.out.alloc _) (some ⟨_, 0, none⟩) 1 1 [(k : Int)] rfl rfl (fun h => by cases h) (src_one _ _ _) (by simp only [List.length_singleton]; omega) (by simp only [World.size_alloc]; omega) ?_); intro v' w3 hown hgrow))
          exact ⟨⟨k + 1, by omega, by go_num, by rw [HRK.out]; exact ⟨hown, Below.trans hf.out.2 (Below.trans (below_up H2.out hf.out.2.size) (Below.trans (below_up (grow_one _ _) hsz2) (below_grown (HO2.out.alloc _) hgrow (by simp only [World.size_alloc]; omega))))⟩⟩, by simp [intOf]; omega⟩
        · have HIN := Lib.hid hin
          rw [if_neg (fun h => hin h.2)] at HRK
          clear hin
          go_wp2_with (first
            | (go_at_call 37; refine HC.out.mono ?_; rintro e w1 ⟨v1, rfl, hm1, hg1⟩
               obtain ⟨a1, k1, rfl⟩ := hm1.lit
               have H1 := Lib.hid (And.intro hm1.l hg1)
               clear hm1 hg1)
            | (go_at_call 39; refine (rhas_any H1.out.1 (Lst.go HU.out (HGW.out.trans H1.out.2)) HO1.out hul (by omega)).mono ?_; rintro e w2 ⟨rfl, n2, rfl⟩
               rw [decide_eq_false HIN.out]
               have H2 := Lib.hid (H1.out.2.trans (grow_drewN w1 n2))
               have HO2 := Lib.hid (Own.kept hf.out.1 (fun g hg => H2.out.block g (hf.out.1.lt hg).1))))
          exact ⟨⟨k + 1, by omega, by go_num, by rw [HRK.out]; exact ⟨HO2.out, hf.out.2.trans H2.out⟩⟩, by simp [intOf]; omega⟩
      · have hmi : ¬ (m : Int) = v := by omega
        rw [if_neg (fun h => hmv h.1)] at HRK
        go_wp2_with fail
        exact ⟨⟨k + 1, by omega, by go_num, by rw [HRK.out]; exact hf.out⟩, by simp [intOf]; omega⟩
    · have hki : ¬ (k : Int) < g.rules.length := by omega
      obtain rfl : k = g.rules.length := by omega
      go_wp2_with fail
      go_ret
      exact ⟨_, rfl, own_mono hf.out.1 (by omega), HBG.out.trans hf.out.2⟩
theorem looksR_len {K : Int} {g : GramD} {F Fo : List Wds} {v : Nat} (h : ∀ k, OkW (lookL K g F Fo k)) (n : Nat) : (looksR K g F Fo v n).length ≤ 43 := okW_few looksR_sorted (looksR_ok h)
set_option maxRecDepth 100000 in
set_option maxHeartbeats 4000000 in
theorem rlooks_any {w : World} {B : Nat} {K : Int} {g : GramD} {nv xb cx yb cy : Nat} {F Fo : List Wds} (h : RefX w B K g nv xb cx yb cy F Fo) {v : Nat} :
    Calls Try.prog 12 #[GV g, SV K nv xb cx yb cy, .int .i64 (v : Nat)] w (RPost w.heap.size (looksR K g F Fo v g.rules.length) w) := by
  have HX := Lib.hid h
  have hn := h.n
  have HK := Lib.hid (fun W (hg : Grow w W) k (hk : k < g.rules.length) => (h.go hg).look hk)
  have HLO := Lib.hid (fun k => lookL_ok h.k.2 h.r h.f h.d k)
  have HLN := Lib.hid (fun k => okW_few (lookL_sorted K g F Fo k) (lookL_ok h.k.2 h.r h.f h.d k))
  have HL := Lib.hid (fun k (hk : k < g.rules.length) => h.left hk)
  clear h
  unfold GV SV at *
  generalize hra0 : g.ra = ra at *
  clear hra0
  go_enter Try.func12, Try.ntmps12
  go_wp2_with fail
  obtain ⟨hb0, hb1, hbg, hbs⟩ := two_box (w := w) (X := .cells #[.slice g.ta g.terms.length g.tc, .slice g.va g.vars.length g.vc, .slice ra g.rules.length g.rc] 25) (Y := .cells #[.int .i64 K, .slice (some ⟨xb, 0, none⟩) nv cx, .slice (some ⟨yb, 0, none⟩) nv cy] 31)
  have HB0 := Lib.hid hb0
  have HB1 := Lib.hid hb1
  have HBG := Lib.hid hbg
  clear hb0 hb1 hbg
  generalize (w.alloc (.cells #[.slice g.ta g.terms.length g.tc, .slice g.va g.vars.length g.vc, .slice ra g.rules.length g.rc] 25)).alloc (.cells #[.int .i64 K, .slice (some ⟨xb, 0, none⟩) nv cx, .slice (some ⟨yb, 0, none⟩) nv cy] 31) = W at *
  have HBS := Lib.hid hbs
  clear hbs
  have hCW : w.heap.size + 1 < W.heap.size := by rw [HBS.out]; omega
  go_loopw [7, 8] (fun o i wr => ∃ k : Nat, k ≤ g.rules.length ∧ i = .int .i64 k ∧ Hid (Made w.heap.size o (looksR K g F Fo v k) wr ∧ Grow W wr)) (fun _ i _ => g.rules.length - (intOf i).toNat)
  case atStart => exact ⟨0, by omega, rfl, Lib.hid ⟨(by have := made_new W; rw [HBS.out] at this; exact this.mono (by omega)), grow_one _ _⟩⟩
  case round =>
    obtain ⟨k, hk, rfl, hf⟩ := hrel
    have c0 : wr.cell? ⟨w.heap.size, 0, none⟩ = some (.slice g.ta g.terms.length g.tc) := (below_cell hf.out.2 (by omega)).trans (cell_of_block (off := 0) HB0.out)
    have c1 : wr.cell? ⟨w.heap.size, 1, none⟩ = some (.slice g.va g.vars.length g.vc) := (below_cell hf.out.2 (by omega)).trans (cell_of_block (off := 1) HB0.out)
    have c2 : wr.cell? ⟨w.heap.size, 2, none⟩ = some (.slice ra g.rules.length g.rc) := (below_cell hf.out.2 (by omega)).trans (cell_of_block (off := 2) HB0.out)
    have e0 : wr.cell? ⟨w.heap.size + 1, 0, none⟩ = some (.int .i64 K) := (below_cell hf.out.2 (by omega)).trans (cell_of_block (off := 0) HB1.out)
    have e1 : wr.cell? ⟨w.heap.size + 1, 1, none⟩ = some (.slice (some ⟨xb, 0, none⟩) nv cx) := (below_cell hf.out.2 (by omega)).trans (cell_of_block (off := 1) HB1.out)
    have e2 : wr.cell? ⟨w.heap.size + 1, 2, none⟩ = some (.slice (some ⟨yb, 0, none⟩) nv cy) := (below_cell hf.out.2 (by omega)).trans (cell_of_block (off := 2) HB1.out)
    by_cases hlt : k < g.rules.length
    · have hki : (k : Int) < g.rules.length := by omega
      have hk0 : (0 : Int) ≤ k := by omega
      obtain ⟨rb, off, rfl, hrb, r0, hlv⟩ := HL.out k hlt
      have HGW := Lib.hid (HBG.out.trans hf.out.2)
      have q0 := (below_cell HGW.out hrb).trans r0
      have HRK := Lib.hid (show looksR K g F Fo v (k + 1) = if leftN g k = v then takeL (looksR K g F Fo v k) (lookL K g F Fo k) else looksR K g F Fo v k from rfl)
      have HAO := Lib.hid (looksR_ok (v := v) HLO.out (n := k))
      have hal := looksR_len (v := v) HLO.out k
      have HC := Lib.hid (HK.out _ HGW.out k hlt)
      have HO1 := Lib.hid (HLO.out k)
      have hl1 := HLN.out k
      generalize lookL K g F Fo k = L at *
      generalize leftN g k = m at *
      generalize looksR K g F Fo v k = acc at *
      clear r0
      by_cases hmv : m = v
      · subst hmv
        rw [if_pos rfl] at HRK
        have HO := Lib.hid (fun i => okW_s (okW_takeL HAO.out (okW_sub (M := L.take i) HO1.out (fun w hw => List.mem_of_mem_take hw))))
        have HXL := Lib.hid (fun i => takeL_max acc (L.take i))
        have HOB := Lib.hid (okW_s HO1.out)
        go_wp2_with (first
          | (go_at_call 37; refine HC.out.mono ?_; rintro e w1 ⟨v1, rfl, hm1, hg1⟩
             obtain ⟨a1, k1, rfl⟩ := hm1.lit
             have H1 := Lib.hid (And.intro hm1.l hg1)
             have HF1 := Lib.hid (And.intro (hf.out.1.go hg1) (hf.out.2.trans hg1))
             clear hm1 hg1))
        go_loopw [7, 10] (fun o i ws => ∃ p : Nat, p ≤ L.length ∧ i = .int .i64 p ∧ Hid (Made w.heap.size o (takeL acc (L.take p)) ws ∧ Grow w1 ws)) (fun _ i _ => L.length - (intOf i).toNat)
        case atStart => exact ⟨0, by omega, rfl, Lib.hid ⟨HF1.out.1, Below.refl _ _⟩⟩
        case round =>
          obtain ⟨p, hp, rfl, hq⟩ := hrel
          by_cases hpl : p < L.length
          · have hpi : (p : Int) < L.length := by omega
            have hp0 : (0 : Int) ≤ p := by omega
            obtain ⟨b2, o2, bi, ei, rfl, hb2, hd0, hi2, hd2, hld2⟩ := H1.out.1 p hpl
            have hc2 := (below_cell hq.out.2 hb2).trans hd0
            have HI := Lib.hid (Lst.go hi2 hq.out.2)
            have hll := HOB.out _ (List.getElem_mem hpl)
            have HON := Lib.hid (takeL_on (A := acc) hpl)
            have HS := Lib.hid (HO.out p)
            have hln := HXL.out p
            rw [List.length_take] at hln
            obtain ⟨oa, oc, rfl⟩ := hq.out.1.lit
            have hbs : w.heap.size ≤ wr.heap.size := Nat.le_trans HGW.out.size (Nat.le_trans H1.out.2.size hq.out.2.size)
            clear hi2 hd0
            generalize L[p] = y at *
            generalize takeL acc (L.take p) = U at *
            go_wp2_with (first | (go_at_call 38; refine (radd_any hq.out.1 hbs HI.out hd2 HS.out hll (by omega)).mono ?_; rintro e w3 ⟨v3, rfl, hm3, hg3⟩
                                  have H3 := Lib.hid (And.intro hm3 (hq.out.2.trans hg3))
                                  clear hm3 hg3))
            go_roundw
            case rel => exact ⟨p + 1, by omega, by go_num, by rw [HON.out]; exact H3⟩
            case measure => simp [intOf] <;> omega
          · have hpi : ¬ (p : Int) < L.length := by omega
            have e : L.take p = L := List.take_of_length_le (by omega)
            rw [e, ← HRK.out] at hq
            go_wp2_with fail
            go_roundw
            case rel => exact ⟨k + 1, by omega, by go_num, Lib.hid ⟨hq.out.1, HF1.out.2.trans hq.out.2⟩⟩
            case measure => simp [intOf] <;> omega
      · have hmi : ¬ (m : Int) = v := by omega
        rw [if_neg hmv] at HRK
        go_wp2_with fail
        exact ⟨⟨k + 1, by omega, by go_num, by rw [HRK.out]; exact hf.out⟩, by simp [intOf]; omega⟩
    · have hki : ¬ (k : Int) < g.rules.length := by omega
      obtain rfl : k = g.rules.length := by omega
      go_wp2_with fail
      go_ret
      exact ⟨_, rfl, hf.out.1, HBG.out.trans hf.out.2⟩
end Go.Proofs.Ytmiiolgbjicocaa
