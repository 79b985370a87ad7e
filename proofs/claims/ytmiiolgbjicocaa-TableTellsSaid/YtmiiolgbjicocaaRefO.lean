/- The reference's sets: the walk. -/
import Derived.Test.YtmiiolgbjicocaaRefL
import Derived.Deep.DeepCutAuto
import Derived.Deep.RegionHeld3
namespace Go.Proofs.Ytmiiolgbjicocaa
open Go.RowKit
attribute [local go_sem] run_store_float
theorem below_low {B B' : Nat} {w w' : World} (h : Below B w w') (hl : B' ≤ B) : Below B' w w' := ⟨h.os, h.tape, h.output, h.size, fun k hk => h.block k (by omega)⟩
theorem size_set (w : World) (p : Addr) (u : Value) : (w.setCell p u).heap.size = w.heap.size := by simp [World.setCell]
theorem BldS.mids {sb : Nat} {K : Int} {k1 k2 : Nat} {x : Option Addr} {cx : Nat} {y : Option Addr} {cy : Nat} {xs ys : List Value} {W : World} (h : BldS sb K k1 k2 x cx y cy xs ys W) {s : Nat} (hs : W.heap.size = s) : BldS sb K k1 k2 x cx y cy xs ys ((W.alloc (.cells #[] 26)).alloc (.cells #[.slice (some ⟨s, 0, none⟩) 0 0] 39)) ∧ Made 0 (.slice (some ⟨s, 0, none⟩) 0 0) [] ((W.alloc (.cells #[] 26)).alloc (.cells #[.slice (some ⟨s, 0, none⟩) 0 0] 39)) ∧ Grow W ((W.alloc (.cells #[] 26)).alloc (.cells #[.slice (some ⟨s, 0, none⟩) 0 0] 39)) ∧ ((W.alloc (.cells #[] 26)).alloc (.cells #[.slice (some ⟨s, 0, none⟩) 0 0] 39)).heap.size = s + 2 := by
  subst hs
  obtain ⟨e, rfl, h1, h2, h3⟩ := h.mid
  exact ⟨h1, h2, h3, by simp⟩
theorem cell_set_ne {w : World} {b o : Nat} {p : Addr} {u : Value} (h : b ≠ p.block) : (w.setCell p u).cell? ⟨b, o, none⟩ = w.cell? ⟨b, o, none⟩ := World.cell?_of_block (Below.heap_setCell _ _ _ _ h)
theorem arr_k31 {xb nv : Nat} {F : List Wds} {w w' : World} (h : ArrM xb nv F w) {b : Nat} (hk : Kept (· = b) w w') {cs : Array Value} (hb : w.heap[b]? = some (.cells cs 31 (0, 0))) : ArrM xb nv F w' := by
  have key : ∀ {i : Nat} {cs' : Array Value} {t : TypeId}, w.heap[i]? = some (.cells cs' t (0, 0)) → t ≠ 31 → w'.heap[i]? = w.heap[i]? := fun {i cs' t} hi ht => hk.block i (lt_of_block hi) (fun e => by
    have e : i = b := e
    rw [e, hb] at hi
    injection hi with hi
    injection hi with _ h4
    exact ht h4.symm)
  obtain ⟨h1, cs', h2, h3⟩ := h
  refine ⟨h1, cs', (key h2 (by decide)).trans h2, fun i hi => ?_⟩
  obtain ⟨u, h4, h5⟩ := h3 i hi
  exact ⟨u, h4, h5.typ (fun j cs' t hj ht => key hj (by rcases ht with rfl | rfl <;> decide))⟩
/-- The sets within a run. -/
structure RI (lo sb : Nat) (K : Int) (xb cx yb cy nv : Nat) (R : Rls) (W : World) (F Fo : List Wds) (wr : World) : Prop where
  s : RefS lo sb K xb cx yb cy nv F Fo wr
  k : Kept (fun i => i = xb ∨ i = yb) W wr
  st : RSt K R nv F Fo
section
variable {lo sb : Nat} {K : Int} {xb cx yb cy nv : Nat} {R : Rls} {W : World} {F Fo : List Wds} {wr w' : World}
theorem RI.go (h : RI lo sb K xb cx yb cy nv R W F Fo wr) (g : Grow wr w') : RI lo sb K xb cx yb cy nv R W F Fo w' := ⟨h.s.go g, h.k.trans (kept_of_below g _), h.st⟩
theorem RI.grow (h : RI lo sb K xb cx yb cy nv R W F Fo wr) {w : World} (hg : Grow w W) (hl : w.heap.size ≤ lo) : Grow w wr :=
  Below.trans hg (h.k.below (B := w.heap.size) hg.size (fun i hi e => by have := h.s.los; rcases e with e | e <;> omega))
theorem RI.put1 (h : RI lo sb K xb cx yb cy nv R W F Fo wr) {r : Nat × List Int} (hr : r ∈ R) (hv : r.1 < nv) {val : Value} (hm : Made 0 val (takeL (F.getD r.1 []) (raheadL K F r.2 [[]])) wr) : RI lo sb K xb cx yb cy nv R W (F.set r.1 (takeL (F.getD r.1 []) (raheadL K F r.2 [[]]))) Fo (wr.setCell ⟨xb, r.1, none⟩ val) :=
  ⟨h.s.put1 hv hm, h.k.setCell (p := ⟨xb, r.1, none⟩) (.inl (.inl rfl)) _, h.st.step1 hr hv⟩
theorem RI.put2 (hK : 0 ≤ K) (h : RI lo sb K xb cx yb cy nv R W F Fo wr) {r : Nat × List Int} (hr : r ∈ R) {i x : Nat} (hx : r.2[i]? = some (x : Int)) (hv : x < nv) {val : Value} (hm : Made 0 val (takeL (Fo.getD x []) (raheadL K F (r.2.drop (i + 1)) (Fo.getD r.1 []))) wr) : RI lo sb K xb cx yb cy nv R W F (Fo.set x (takeL (Fo.getD x []) (raheadL K F (r.2.drop (i + 1)) (Fo.getD r.1 [])))) (wr.setCell ⟨yb, x, none⟩ val) :=
  ⟨h.s.put2 hv hm, h.k.setCell (p := ⟨yb, x, none⟩) (.inl (.inr rfl)) _, h.st.step2 hK hr hx hv⟩
theorem RI.c0 (h : RI lo sb K xb cx yb cy nv R W F Fo wr) : wr.cell? ⟨sb, 0, none⟩ = some (.int .i64 K) ∧ wr.cell? ⟨sb, 1, none⟩ = some (.slice (some ⟨xb, 0, none⟩) nv cx) ∧ wr.cell? ⟨sb, 2, none⟩ = some (.slice (some ⟨yb, 0, none⟩) nv cy) := ⟨cell_of_block (off := 0) h.s.blk, cell_of_block (off := 1) h.s.blk, cell_of_block (off := 2) h.s.blk⟩
theorem RI.sne (h : RI lo sb K xb cx yb cy nv R W F Fo wr) : sb ≠ xb ∧ sb ≠ yb := by
  obtain ⟨cs1, h1, _⟩ := h.s.a1.ex
  obtain ⟨cs2, h2, _⟩ := h.s.a2.ex
  have h0 := h.s.blk
  constructor
  · rintro rfl
    rw [h0] at h1
    injection h1 with h1
    injection h1 with _ h4
    exact absurd h4 (by decide)
  · rintro rfl
    rw [h0] at h2
    injection h2 with h2
    injection h2 with _ h4
    exact absurd h4 (by decide)
theorem RI.stay (h : RI lo sb K xb cx yb cy nv R W F Fo wr) {b o : Nat} (hb : b < W.heap.size) (h1 : b ≠ xb) (h2 : b ≠ yb) : wr.cell? ⟨b, o, none⟩ = W.cell? ⟨b, o, none⟩ := World.cell?_of_block (h.k.block b hb (fun e => by rcases e with e | e <;> omega))
end
theorem info39 : (Try.prog.info? 39).map (fun i => (i.zero, i.size, i.bytes)) = some (some (.slice none 0 0), 1, 24) := by kernel_rfl
theorem news39 (X : World) (g : Nat) (hg : g = X.heap.size) (cs : Array Value) : ∀ j u, cs.toList[j]? = some u → (X.alloc (.cells cs 39)).cell? ((⟨g, 0, none⟩ : Addr).add j) = some u := by
  subst hg
  exact World.news_of_block (t := 39) (fr := (0, 0)) (heap_alloc_this _ _)
theorem lst_tail {W : World} {b o : Nat} {xs : List Int} (h : Lst W (some ⟨b, o, none⟩) xs) {m : Nat} (hm : m ≤ xs.length) : Lst W (some ⟨b, o + m, none⟩) (xs.drop m) := fun i hi => by
  have hl : m + i < xs.length := by rw [List.length_drop] at hi; omega
  obtain ⟨b2, o2, e, h1, h2⟩ := h (m + i) hl
  injection e with e
  injection e with e1 e2
  subst e1 e2
  exact ⟨b, o + m, rfl, h1, by rw [List.getElem_drop, ← h2, Nat.add_assoc]⟩
theorem lst_cut {W : World} {b o : Nat} {xs : List Int} {xc : Nat} {ta : Option Addr} (h : Lst W (some ⟨b, o, none⟩) xs) (hc : xs.length ≤ xc) {m : Nat} (hm : m ≤ xs.length) (ht : (if xc = m then some (⟨b, o, none⟩ : Addr) else some ⟨b, o + m, none⟩) = ta) : Lst W ta (xs.drop m) := by
  subst ht
  split
  · rename_i he
    have : xs.drop m = [] := List.drop_eq_nil_of_le (by omega)
    rw [this]
    exact lst_nil _ _
  · exact lst_tail h hm
theorem done_on {xs : List Int} {j : Nat} {y : Int} {Q : Nat → Int → Prop} (h : ∀ j' < j, ∀ x, xs[j']? = some x → 0 ≤ x → Q j' x) (hj : xs[j]? = some y) (hx : 0 ≤ y → Q j y) : ∀ j' < j + 1, ∀ x, xs[j']? = some x → 0 ≤ x → Q j' x := fun j' hj' x h1 h2 => by
  by_cases h3 : j' < j
  · exact h j' h3 x h1 h2
  · obtain rfl : j' = j := by omega
    rw [hj] at h1
    injection h1 with h1
    subst h1
    exact hx h2
theorem done_all {K : Int} {F Fo : List Wds} {R : Rls} {k v : Nat} {xs : List Int} (hr : R[k]? = some (v, xs)) (h : ∀ r ∈ R.take k, DoneA K F Fo r) (h1 : ∀ w ∈ raheadL K F xs [[]], memF F v w) (h2 : ∀ j < xs.length, ∀ x, xs[j]? = some x → 0 ≤ x → ∀ w ∈ raheadL K F (xs.drop (j + 1)) (Fo.getD v []), memF Fo x.toNat w) : ∀ r ∈ R.take (k + 1), DoneA K F Fo r := fun r hm => by
  rw [List.take_add_one, hr] at hm
  rcases List.mem_append.1 hm with hm | hm
  · exact h r hm
  · obtain rfl : r = (v, xs) := by simpa using hm
    exact ⟨h1, fun j x hx h0 => h2 j (List.getElem?_eq_some_iff.1 hx).1 x hx h0⟩
def RefPost (K n : Int) (g : GramD) (w : World) (e : Ending) (w' : World) : Prop :=
  Grow w w' ∧ ((∃ xb cx yb cy F Fo, e = .returned (.tuple #[SV K g.vars.length xb cx yb cy, .bool true]) ∧ ArrM xb g.vars.length F w' ∧ ArrM yb g.vars.length Fo w' ∧ RSt K (rulesOf g) g.vars.length F Fo ∧ ClosedF K (rulesOf g) (memF F) ∧ ClosedD K (rulesOf g) (memF F) (memF Fo) ∧ ((wordsN F + wordsN Fo : Nat) : Int) ≤ n) ∨
    ((∃ xb cx yb cy, e = .returned (.tuple #[SV K g.vars.length xb cx yb cy, .bool false])) ∧ Over K (rulesOf g) g.vars.length n))
set_option maxRecDepth 100000 in
set_option maxHeartbeats 4000000 in
theorem rof_any {w : World} {g : GramD} {B : Nat} (hg : GramAt w B g) (hB : B ≤ w.heap.size) {K n : Int} (hK : 1 ≤ K ∧ K ≤ 2) (hn : 0 ≤ n ∧ n ≤ 1000000) (hnv : 0 < g.vars.length ∧ g.vars.length ≤ 8) (hR : GoodR g.vars.length (rulesOf g)) (hrl : g.rules.length ≤ 24) (hleft : ∀ i (h : i < g.rules.length), 0 ≤ g.rules[i].left ∧ g.rules[i].right.length ≤ g.rules[i].rc) :
    Calls Try.prog 9 #[GV g, .int .i64 K, .int .i64 n] w (RefPost K n g w) := by
  have HG := Lib.hid hg
  obtain ⟨hK1, hK2⟩ := hK
  obtain ⟨hv1, hv2⟩ := hnv
  obtain ⟨i0, hi0, hz0, hz1, hz2⟩ := info_parts info39
  unfold GV
  clear hg
  generalize hra0 : g.ra = ra at *
  have HRA := Lib.hid hra0
  clear hra0
  go_enter Try.func9, Try.ntmps9
  go_wp2_with fail
  have hB0 := heap_alloc_keep (o := .cells #[.int .i64 K, .slice none 0 0, .slice none 0 0] 31) (heap_alloc_keep (o := .cells #[.int .i64 0, .slice none 0 0, .slice none 0 0] 31) (heap_alloc_this w (.cells #[.slice g.ta g.terms.length g.tc, .slice g.va g.vars.length g.vc, .slice ra g.rules.length g.rc] 25)))
  have hB1 := heap_alloc_keep (o := .cells #[.int .i64 K, .slice none 0 0, .slice none 0 0] 31) (heap_alloc_this (w.alloc (.cells #[.slice g.ta g.terms.length g.tc, .slice g.va g.vars.length g.vc, .slice ra g.rules.length g.rc] 25)) (.cells #[.int .i64 0, .slice none 0 0, .slice none 0 0] 31))
  rw [show (w.alloc (.cells #[.slice g.ta g.terms.length g.tc, .slice g.va g.vars.length g.vc, .slice ra g.rules.length g.rc] 25)).heap.size = w.heap.size + 1 by simp] at hB1
  have hB2 := heap_alloc_this ((w.alloc (.cells #[.slice g.ta g.terms.length g.tc, .slice g.va g.vars.length g.vc, .slice ra g.rules.length g.rc] 25)).alloc (.cells #[.int .i64 0, .slice none 0 0, .slice none 0 0] 31)) (.cells #[.int .i64 K, .slice none 0 0, .slice none 0 0] 31)
  rw [show ((w.alloc (.cells #[.slice g.ta g.terms.length g.tc, .slice g.va g.vars.length g.vc, .slice ra g.rules.length g.rc] 25)).alloc (.cells #[.int .i64 0, .slice none 0 0, .slice none 0 0] 31)).heap.size = w.heap.size + 1 + 1 by simp] at hB2
  have HGW := Lib.hid (((grow_one w (.cells #[.slice g.ta g.terms.length g.tc, .slice g.va g.vars.length g.vc, .slice ra g.rules.length g.rc] 25)).trans (grow_one _ (.cells #[.int .i64 0, .slice none 0 0, .slice none 0 0] 31))).trans (grow_one _ (.cells #[.int .i64 K, .slice none 0 0, .slice none 0 0] 31)))
  generalize hW : ((w.alloc (.cells #[.slice g.ta g.terms.length g.tc, .slice g.va g.vars.length g.vc, .slice ra g.rules.length g.rc] 25)).alloc (.cells #[.int .i64 0, .slice none 0 0, .slice none 0 0] 31)).alloc (.cells #[.int .i64 K, .slice none 0 0, .slice none 0 0] 31) = W at *
  have hWs : W.heap.size = w.heap.size + 3 := by rw [← hW]; simp
  have HS : Hid (BldS (w.heap.size + 1 + 1) K 0 0 none 0 none 0 [] [] W) := Lib.hid ⟨hB2, World.ownsRow_nil _ _ _ _, World.ownsRow_nil _ _ _ _, fun v h => by simp at h, fun b h => by simp [Value.ownBlock] at h⟩
  clear hB2
  have HB0 := Lib.hid (show W.heap[w.heap.size]? = some (.cells #[.slice g.ta g.terms.length g.tc, .slice g.va g.vars.length g.vc, .slice ra g.rules.length g.rc] 25 (0, 0)) from hB0)
  have HB1 := Lib.hid (show W.heap[w.heap.size + 1]? = some (.cells #[.int .i64 0, .slice none 0 0, .slice none 0 0] 31 (0, 0)) from hB1)
  clear hB0 hB1 hW
  generalize hsb : w.heap.size + 1 + 1 = sb at *
  go_loopw [9] (fun i wr => ∃ k : Nat, k ≤ g.vars.length ∧ i = .int .i64 k ∧ Hid (∃ x cx y cy xs ys, BldS sb K k k x cx y cy xs ys wr ∧ Below sb W wr)) (fun i _ => g.vars.length - (intOf i).toNat)
  case atStart => exact ⟨0, by omega, rfl, none, 0, none, 0, [], [], HS.out, Below.refl _ _⟩
  case round =>
    clear HS
    obtain ⟨k, hk, rfl, hh⟩ := hrel
    obtain ⟨x, cx, y, cy, xs, ys, hN, hbl⟩ := hh.out
    have c1 : wr.cell? ⟨w.heap.size, 1, none⟩ = some (.slice g.va g.vars.length g.vc) := (below_cell hbl (by show w.heap.size < sb; omega)).trans (cell_of_block (off := 1) HB0.out)
    have HBL := Lib.hid hbl
    clear hh hbl
    by_cases hlt : k < g.vars.length
    · have hki : (k : Int) < g.vars.length := by omega
      have d1 : wr.cell? ⟨sb, 1, none⟩ = some (.slice x k cx) := cell_of_block (off := 1) hN.blk
      have d2 : wr.cell? ⟨sb, 2, none⟩ = some (.slice y k cy) := cell_of_block (off := 2) hN.blk
      have hsb0 : sb < wr.heap.size := lt_of_block hN.blk
      have HM := Lib.hid (hN.mids rfl)
      clear hN
      go_wp2_with (first
        | (at_builtin; (refine wpList_append_lies _ rfl (.tmp 24) (.tmp 26) 29 rfl sb 39 i0 _ 1 24 Try.underlying29 hi0 hz0 hz1 hz2 rfl (by decide) (.slice x k cx) k xs rfl HM.out.1.rx ⟨wr.heap.size + 1, 0, none⟩ 1 1 [.slice (some ⟨wr.heap.size, 0, none⟩) 0 0] rfl rfl (news39 _ (wr.heap.size + 1) (by simp) #[.slice (some ⟨wr.heap.size, 0, none⟩) 0 0]) (by simp [Value.oneCell']) (by omega) (by simp only [maxLen]; omega) (by omega) (by simp; omega) _ HM.out.2.2.2 ?_)
           intro gx cpx w3 hown hgrow hat hlt3
           have HX := Lib.hid (HM.out.1.app1 HM.out.2.1 hgrow hown (by rw [HM.out.2.2.2]; exact hat))
           have HY := Lib.hid (HX.out.1.mids (size_set w3 _ _))
           have p1 : w3.cell? ⟨sb, 1, none⟩ = some (.slice x k cx) := cell_of_block (off := 1) HX.out.2.2
           have p2 : w3.cell? ⟨sb, 2, none⟩ = some (.slice y k cy) := cell_of_block (off := 2) HX.out.2.2
           have f1 : w3.frozen? ⟨sb, 1, none⟩ = false := free_of_block HX.out.2.2
           have hsb3 : sb < w3.heap.size := lt_of_block HX.out.2.2
           clear hown hgrow hat hlt3)
        | (at_builtin; (refine wpList_append_lies _ rfl (.tmp 30) (.tmp 32) 29 rfl sb 39 i0 _ 1 24 Try.underlying29 hi0 hz0 hz1 hz2 rfl (by decide) (.slice y k cy) k ys rfl HY.out.1.ry ⟨w3.heap.size + 1, 0, none⟩ 1 1 [.slice (some ⟨w3.heap.size, 0, none⟩) 0 0] rfl rfl (news39 _ (w3.heap.size + 1) (by simp [World.setCell]) #[.slice (some ⟨w3.heap.size, 0, none⟩) 0 0]) (by simp [Value.oneCell']) (by omega) (by simp only [maxLen]; omega) (by omega) (by rw [HY.out.2.2.2]; omega) _ HY.out.2.2.2 ?_)
           intro gy cpy w5 hown hgrow hat hlt5
           have HZ := Lib.hid (HY.out.1.app2 HY.out.2.1 hgrow hown (by rw [HY.out.2.2.2]; exact hat))
           have q2 : w5.cell? ⟨sb, 2, none⟩ = some (.slice y k cy) := cell_of_block (off := 2) HZ.out.2.2
           have f2 : w5.frozen? ⟨sb, 2, none⟩ = false := free_of_block HZ.out.2.2
           clear hown hgrow hat hlt5))
      go_roundw
      case rel => exact ⟨k + 1, by omega, by go_num, Lib.hid ⟨_, _, _, _, _, _, HZ.out.1, HBL.out.trans ((below_up HM.out.2.2.1 (Nat.le_of_lt hsb0)).trans (HX.out.2.1.trans ((below_up HY.out.2.2.1 (by rw [size_set]; omega)).trans HZ.out.2.1)))⟩⟩
      case measure => simp [intOf]; omega
    · obtain rfl : k = g.vars.length := by omega
      have hki : ¬ ((g.vars.length : Nat) : Int) < g.vars.length := by omega
      obtain ⟨xb, yb, rfl, rfl, hS⟩ := hN.done hv1
      have d2 : wr.cell? ⟨sb, 2, none⟩ = some (.slice (some ⟨yb, 0, none⟩) g.vars.length cy) := cell_of_block (off := 2) hN.blk
      obtain ⟨ya, yc, e0, _, _⟩ := hS.a2.at hv1
      have f0 : wr.frozen? ⟨yb, 0, none⟩ = false := by obtain ⟨cs, h2, _⟩ := hS.a2.ex; exact free_of_block h2
      have HSS := Lib.hid hS
      have hyl := hS.los.2
      have hyr := hS.a2.lt
      clear hN hS
      have HT2 := Lib.hid (two_refl (W := wr) (lo := 0) (Nat.zero_le _))
      have HR7 : Hid (RI sb sb K xb cx yb cy g.vars.length (rulesOf g) (((wr.alloc (.cells #[] 3)).alloc (.cells #[.slice (some ⟨wr.heap.size, 0, none⟩) 0 0] 26)).setCell ⟨yb, 0, none⟩ (.slice (some ⟨wr.heap.size + 1, 0, none⟩) 1 1)) (List.replicate g.vars.length []) ((List.replicate g.vars.length []).set 0 [[]]) (((wr.alloc (.cells #[] 3)).alloc (.cells #[.slice (some ⟨wr.heap.size, 0, none⟩) 0 0] 26)).setCell ⟨yb, 0, none⟩ (.slice (some ⟨wr.heap.size + 1, 0, none⟩) 1 1))) :=
        Lib.hid ⟨(HSS.out.go HT2.out.2).put2 hv1 HT2.out.1, Kept.refl _ _, RSt.start hv1⟩
      have HK7 := Lib.hid ((((Kept.refl (· = yb) wr).alloc (.cells #[] 3)).alloc (.cells #[.slice (some ⟨wr.heap.size, 0, none⟩) 0 0] 26)).setCell (p := ⟨yb, 0, none⟩) (.inl rfl) (.slice (some ⟨wr.heap.size + 1, 0, none⟩) 1 1))
      have HW7 := Lib.hid (HBL.out.trans (HK7.out.below (B := sb) (by omega) (fun i hi e => by have e : i = yb := e; omega)))
      have HG7 := Lib.hid (Below.trans HGW.out (below_low HW7.out (by omega : w.heap.size ≤ sb)))
      have HC0 := Lib.hid ((HW7.out.block _ (by omega : w.heap.size < sb)).trans HB0.out)
      have HC1 := Lib.hid ((HW7.out.block _ (by omega : w.heap.size + 1 < sb)).trans HB1.out)
      have hEQ : (((wr.alloc (.cells #[] 3)).alloc (.cells #[.slice (some ⟨wr.heap.size, 0, none⟩) 0 0] 26)).setCell ⟨yb, 0, none⟩ (.slice (some ⟨wr.heap.size + 1, 0, none⟩) 1 1)) = (((wr.setCell ⟨yb, 0, none⟩ (.slice (some ⟨wr.heap.size + 1, 0, none⟩) 1 1)).alloc (.cells #[] 3)).alloc (.cells #[.slice (some ⟨wr.heap.size, 0, none⟩) 0 0] 26)) := by
        rw [World.setCell_alloc_past _ _ _ _ (by simp; omega), World.setCell_alloc_past _ _ _ _ hyr]
      rw [hEQ] at HR7 HG7 HC0 HC1
      clear hEQ HK7 HW7 HT2 HSS HBL HB0 HB1 HGW
      go_wp2_with fail
      generalize hW7 : (((wr.setCell ⟨yb, 0, none⟩ (.slice (some ⟨wr.heap.size + 1, 0, none⟩) 1 1)).alloc (.cells #[] 3)).alloc (.cells #[.slice (some ⟨wr.heap.size, 0, none⟩) 0 0] 26)) = W7 at *
      have hxl := HR7.out.s.los.1
      have hxy := HR7.out.s.ne
      clear hW7 e0 f0 d2 c1 hyr
      go_loopw [10] (fun b wz => ∃ bN : Int, b = .int .i64 bN ∧ -1 ≤ bN ∧ bN ≤ 700 ∧ bN ≤ n ∧ Hid (∃ F Fo, RI sb sb K xb cx yb cy g.vars.length (rulesOf g) W7 F Fo wz ∧ bN ≤ ((wordsN F + wordsN Fo : Nat) : Int) ∧ (bN = ((wordsN F + wordsN Fo : Nat) : Int) → ∀ r ∈ rulesOf g, DoneA K F Fo r))) (fun b _ => (701 - intOf b).toNat)
      case atStart => exact ⟨-1, rfl, by omega, by omega, by omega, Lib.hid ⟨_, _, HR7.out, by omega, fun e => by omega⟩⟩
      case round =>
        clear HR7
        obtain ⟨bN, rfl, hb1, hb2, hb3, hh⟩ := hrel
        obtain ⟨F, Fo, hI, hbw, hdone⟩ := hh.out
        have HI := Lib.hid hI
        have HDN := Lib.hid hdone
        obtain ⟨s0, s1, s2⟩ := hI.c0
        have hsz : sb < wr.heap.size := lt_of_block hI.s.blk
        have hwN := hI.st.words hK2 hR hv2
        have HRB := Lib.hid ((hI.k.block (w.heap.size + 1) (lt_of_block HC1.out) (fun e => by rcases e with e | e <;> omega)).trans HC1.out)
        have hrb : w.heap.size + 1 < wr.heap.size := by omega
        have HFO := Lib.hid (fun v => okW_few (hI.st.f.sorted v) (sysF_ok hK2 hR hI.st.f v))
        have HDO := Lib.hid (fun v => okW_few (hI.st.d.sorted v) (sysD_ok hK2 hR hI.st.d v))
        have HW9 := Lib.hid (fun W (gW : Grow wr W) => words_any (K := K) (cx := cx) (cy := cy) (hI.s.a1.go gW) (hI.s.a2.go gW) hv2 HFO.out HDO.out)
        clear hh hI hdone
        unfold SV at HW9
        generalize hN0 : wordsN F + wordsN Fo = N at *
        by_cases hlt : bN < (N : Int)
        · by_cases hov : n < (N : Int)
          · have HOV := Lib.hid (show Over K (rulesOf g) g.vars.length n from ⟨F, Fo, HI.out.st.f, HI.out.st.d, by rw [hN0]; exact hov⟩)
            go_wp2_with (first
              | (go_at_call 28; refine (HW9.out _ H9.out).mono ?_; rintro e w10 ⟨rfl, hg10⟩
                 have H10 := Lib.hid (H9.out.trans hg10)
                 have p0 := (below_cell H10.out hsz).trans s0
                 have p1 := (below_cell H10.out hsz).trans s1
                 have p2 := (below_cell H10.out hsz).trans s2
                 have HQ := Lib.hid ((H10.out.block _ hrb).trans HRB.out)
                 have r0 : w10.cell? ⟨w.heap.size + 1, 0, none⟩ = some (.int .i64 0) := cell_of_block (off := 0) HQ.out
                 have r1 : w10.cell? ⟨w.heap.size + 1, 1, none⟩ = some (.slice none 0 0) := cell_of_block (off := 1) HQ.out
                 have r2 : w10.cell? ⟨w.heap.size + 1, 2, none⟩ = some (.slice none 0 0) := cell_of_block (off := 2) HQ.out
                 have fr0 : w10.frozen? ⟨w.heap.size + 1, 0, none⟩ = false := free_of_block HQ.out
                 have fr1 : w10.frozen? ⟨w.heap.size + 1, 1, none⟩ = false := free_of_block HQ.out
                 have fr2 : w10.frozen? ⟨w.heap.size + 1, 2, none⟩ = false := free_of_block HQ.out
                 clear hg10)
              | (go_at_call 28; refine (HW9.out _ (Below.refl _ _)).mono ?_; rintro e w9 ⟨rfl, hg9⟩
                 have H9 := Lib.hid hg9
                 have t0 := (below_cell hg9 hsz).trans s0
                 have t1 := (below_cell hg9 hsz).trans s1
                 have t2 := (below_cell hg9 hsz).trans s2
                 clear hg9))
            have HV := Lib.hid (show ((((w10.setCell ⟨w.heap.size + 1, 0, none⟩ (.int .i64 K)).setCell ⟨w.heap.size + 1, 1, none⟩ (.slice (some ⟨xb, 0, none⟩) g.vars.length cx)).setCell ⟨w.heap.size + 1, 2, none⟩ (.slice (some ⟨yb, 0, none⟩) g.vars.length cy))).heap[w.heap.size + 1]? = some (.cells #[.int .i64 K, .slice (some ⟨xb, 0, none⟩) g.vars.length cx, .slice (some ⟨yb, 0, none⟩) g.vars.length cy] 31 (0, 0)) from by
              have := heap_setCell_known (off := 2) (u := .slice (some ⟨yb, 0, none⟩) g.vars.length cy) (heap_setCell_known (off := 1) (u := .slice (some ⟨xb, 0, none⟩) g.vars.length cx) (heap_setCell_known (off := 0) (u := .int .i64 K) HQ.out))
              simpa using this)
            have HKQ := Lib.hid ((((kept_of_below H10.out (· = w.heap.size + 1)).setCell (p := ⟨w.heap.size + 1, 0, none⟩) (.inl rfl) (.int .i64 K)).setCell (p := ⟨w.heap.size + 1, 1, none⟩) (.inl rfl) (.slice (some ⟨xb, 0, none⟩) g.vars.length cx)).setCell (p := ⟨w.heap.size + 1, 2, none⟩) (.inl rfl) (.slice (some ⟨yb, 0, none⟩) g.vars.length cy))
            generalize (((w10.setCell ⟨w.heap.size + 1, 0, none⟩ (.int .i64 K)).setCell ⟨w.heap.size + 1, 1, none⟩ (.slice (some ⟨xb, 0, none⟩) g.vars.length cx)).setCell ⟨w.heap.size + 1, 2, none⟩ (.slice (some ⟨yb, 0, none⟩) g.vars.length cy)) = W11 at *
            have g0 : W11.cell? ⟨w.heap.size + 1, 0, none⟩ = some (.int .i64 K) := cell_of_block (off := 0) HV.out
            have g1 : W11.cell? ⟨w.heap.size + 1, 1, none⟩ = some (.slice (some ⟨xb, 0, none⟩) g.vars.length cx) := cell_of_block (off := 1) HV.out
            have g2 : W11.cell? ⟨w.heap.size + 1, 2, none⟩ = some (.slice (some ⟨yb, 0, none⟩) g.vars.length cy) := cell_of_block (off := 2) HV.out
            refine bodyPost_ret (v := .tuple #[.agg #[.int .i64 K, .slice (some ⟨xb, 0, none⟩) g.vars.length cx, .slice (some ⟨yb, 0, none⟩) g.vars.length cy], .bool false]) (by simp [results, Try.results9, go_sem, g0, g1, g2]) rfl ?_
            exact ⟨Below.trans (HI.out.grow HG7.out (by omega)) (HKQ.out.below (B := w.heap.size) (HI.out.grow HG7.out (by omega)).size (fun i hi e => by have e : i = w.heap.size + 1 := e; omega)), .inr ⟨⟨xb, cx, yb, cy, rfl⟩, HOV.out⟩⟩
          · have HFS := Lib.hid HI.out.st.f.sorted
            go_wp2_with (first
              | (go_at_call 28; refine (HW9.out _ H9.out).mono ?_; rintro e w10 ⟨rfl, hg10⟩
                 have H10 := Lib.hid (HI.out.go (H9.out.trans hg10))
                 clear hg10)
              | (go_at_call 28; refine (HW9.out _ (Below.refl _ _)).mono ?_; rintro e w9 ⟨rfl, hg9⟩
                 have H9 := Lib.hid hg9
                 have t0 := (below_cell hg9 hsz).trans s0
                 have t1 := (below_cell hg9 hsz).trans s1
                 have t2 := (below_cell hg9 hsz).trans s2
                 clear hg9))
            have HGE := Lib.hid (HG.out.below (below_low (HI.out.grow HG7.out (by omega)) hB))
            clear s0 s1 s2 t0 t1 t2 hrb HRB HW9 HDN H9 hsz HFO HDO
            have hbW : bN < N := hlt
            go_loopw [11] (fun i wz => ∃ k : Nat, k ≤ g.rules.length ∧ i = .int .i64 k ∧ Hid (∃ F1 Fo1, RI sb sb K xb cx yb cy g.vars.length (rulesOf g) W7 F1 Fo1 wz ∧ Prog F Fo F1 Fo1 (∀ r ∈ (rulesOf g).take k, DoneA K F Fo r))) (fun i _ => g.rules.length - (intOf i).toNat)
            case atStart => exact ⟨0, by omega, rfl, Lib.hid ⟨F, Fo, H10.out, Prog.start F Fo (by simp)⟩⟩
            case round =>
              obtain ⟨k, hk, rfl, hh⟩ := hrel
              obtain ⟨F1, Fo1, hI1, hP1⟩ := hh.out
              have HI1 := Lib.hid hI1
              have HP1 := Lib.hid hP1
              clear hh hP1 H10
              have hgr := hI1.grow HG7.out (by omega)
              have e2 : wr.cell? ⟨w.heap.size, 2, none⟩ = some (.slice ra g.rules.length g.rc) := (hI1.stay (lt_of_block HC0.out) (by omega) (by omega)).trans (cell_of_block (off := 2) HC0.out)
              by_cases hlt2 : k < g.rules.length
              · have hki : (k : Int) < g.rules.length := by omega
                obtain ⟨rb, off, hra, hrb, r0, r1, r2, hri2, hrl2⟩ := HG.out.rules k hlt2
                have hra' : ra = some ⟨rb, off, none⟩ := HRA.out.symm.trans hra
                clear hra
                subst hra'
                obtain ⟨hl0, hxc⟩ := hleft k hlt2
                obtain ⟨nL, hnL⟩ := Int.eq_ofNat_of_zero_le hl0
                have HRK := Lib.hid (rulesOf_at hlt2)
                rw [hnL] at HRK r0
                have HIX := Lib.hid hri2
                clear hri2 hl0
                generalize g.rules[k] = r at *
                obtain ⟨left, xa, xs, xc, wt⟩ := r
                dsimp only at *
                obtain ⟨hn1, hfo, hx8⟩ := hR _ (List.mem_of_getElem? HRK.out)
                dsimp only at hn1 hfo hx8
                have hnn : nL < g.vars.length := by simpa using hn1
                have HFM := Lib.hid hfo
                have hrw : rb < w.heap.size := by omega
                have q0 := (below_cell hgr hrw).trans r0
                have q1 := (below_cell hgr hrw).trans r1
                have q2 := (below_cell hgr hrw).trans r2
                obtain ⟨va, vc, hcx, hvl, hvm⟩ := hI1.s.a1.at hnn
                have HLX := Lib.hid (ints_lst (HIX.out.below (below_low hgr hB)) (Nat.le_trans hB hgr.size))
                obtain ⟨s0, s1, s2⟩ := hI1.c0
                have hsn := hI1.sne
                have hsz : sb < wr.heap.size := lt_of_block hI1.s.blk
                have hxz := hI1.s.a1.lt
                have hwz := hgr.size
                clear hI1 hgr hn1 hfo r0 r1 r2 hnL hleft HGE
                have HSN := Lib.hid hsn
                have HVM := Lib.hid hvm
                have HOL := Lib.hid (show OkW (raheadL K F1 xs [[]]) from by rw [rahead_eq]; exact okW_ahead (sysF_ok hK2 hR HI1.out.st.f) hK2 HFM.out okW_nil)
                have HSL : Hid (Sorted (raheadL K F1 xs [[]])) := Lib.hid (timesL_sorted _ _ _)
                have hLl := okW_few HSL.out HOL.out
                have HOA := Lib.hid (sysF_ok hK2 hR HI1.out.st.f nL)
                have hAl := okW_few (HI1.out.st.f.sorted nL) HOA.out
                have HFIN := Lib.hid (fun w4 v4 (h4 : Grow wr w4) (hm4 : Made 0 v4 (takeL (F1.getD nL []) (raheadL K F1 xs [[]])) w4) => show RI sb sb K xb cx yb cy g.vars.length (rulesOf g) W7 (F1.set nL (takeL (F1.getD nL []) (raheadL K F1 xs [[]]))) Fo1 (w4.setCell ⟨xb, nL, none⟩ v4) from (HI1.out.go h4).put1 (List.mem_of_getElem? HRK.out) hnn hm4)
                have HP2 := Lib.hid (HP1.out.step1 (v := nL) (by rw [HI1.out.st.f.len]; exact hnn) (B := raheadL K F1 xs [[]]))
                have HAR := Lib.hid (fun W' (h' : Grow wr W') ta (ht : Lsts W' ta [[]]) => rahead_any (cx := cx) (yb := yb) (cy := cy) (fc := xc) (HI1.out.s.a1.go h') ⟨hK1, hK2⟩ (sysF_ok hK2 hR HI1.out.st.f) HI1.out.st.f.sorted (Lst.go HLX.out h') hx8 HFM.out (tc := 1) ht okW_nil (sorted_one []))
                obtain ⟨L, hL⟩ : ∃ L, L = raheadL K F1 xs [[]] := ⟨_, rfl⟩
                rw [← hL] at HOL HSL hLl HFIN HP2
                have HLE := Lib.hid hL
                clear hL
                have HR9 := Lib.hid (fun w3 a3 c3 (h3 : Grow wr w3) (hm3 : Lsts w3 a3 L) => rboth_any (ca := vc) (cb := c3) (HVM.out.go h3) (Nat.zero_le _) hm3 HOA.out HOL.out (by omega) (by omega))
                generalize hAA : F1.getD nL [] = A at *
                clear hAA
                go_upto_region 17 with fail
                have HGV := Lib.hid (grow_one wr (.cells #[.int .i64 (nL : Int), .slice xa xs.length xc, .float .f64 wt] 64))
                have hDB := heap_alloc_this wr (.cells #[.int .i64 (nL : Int), .slice xa xs.length xc, .float .f64 wt] 64)
                have hVs : (wr.alloc (.cells #[.int .i64 (nL : Int), .slice xa xs.length xc, .float .f64 wt] 64)).heap.size = wr.heap.size + 1 := by simp
                generalize hV : wr.alloc (.cells #[.int .i64 (nL : Int), .slice xa xs.length xc, .float .f64 wt] 64) = V at *
                clear hV
                generalize hDD : wr.heap.size = D at *
                have HDB := Lib.hid (show V.drew.heap[D]? = some (.cells #[.int .i64 (nL : Int), .slice xa xs.length xc, .float .f64 wt] 64 (0, 0)) from hDB)
                clear hDB
                have HGW : Hid (Grow wr V.drew) := Lib.hid (HGV.out.trans (grow_drew V))
                have d0 : V.drew.cell? ⟨D, 0, none⟩ = some (.int .i64 (nL : Int)) := cell_of_block (off := 0) HDB.out
                have d1 : V.drew.cell? ⟨D, 1, none⟩ = some (.slice xa xs.length xc) := cell_of_block (off := 1) HDB.out
                have z0 := (below_cell HGW.out (by omega : sb < wr.heap.size)).trans s0
                have z1 := (below_cell HGW.out (by omega : sb < wr.heap.size)).trans s1
                have z2 := (below_cell HGW.out (by omega : sb < wr.heap.size)).trans s2
                have y0 := (below_cell HGW.out (by omega : xb < wr.heap.size)).trans hcx
                have hsV : sb < V.drew.heap.size := by show sb < V.heap.size; omega
                have hDV : D < V.drew.heap.size := by show D < V.heap.size; omega
                have hxV : xb < V.drew.heap.size := by show xb < V.heap.size; omega
                have HSG := Lib.hid (fun X (hg : Grow V.drew X) => show X.cell? ⟨sb, 0, none⟩ = some (.int .i64 K) ∧ X.cell? ⟨sb, 1, none⟩ = some (.slice (some ⟨xb, 0, none⟩) g.vars.length cx) ∧ X.cell? ⟨sb, 2, none⟩ = some (.slice (some ⟨yb, 0, none⟩) g.vars.length cy) ∧ X.cell? ⟨D, 0, none⟩ = some (.int .i64 (nL : Int)) ∧ X.cell? ⟨D, 1, none⟩ = some (.slice xa xs.length xc) from ⟨(below_cell hg hsV).trans z0, (below_cell hg hsV).trans z1, (below_cell hg hsV).trans z2, (below_cell hg hDV).trans d0, (below_cell hg hDV).trans d1⟩)
                have HB2 := Lib.hid (two_refl (W := V.drew) (lo := 0) (Nat.zero_le _))
                have y1 : (V.drew.alloc (.cells #[] 3)).cell? ⟨xb, nL, none⟩ = some (.slice va A.length vc) := cell_alloc_keep hxV y0
                have y2 : ((V.drew.alloc (.cells #[] 3)).alloc (.cells #[.slice (some ⟨V.drew.heap.size, 0, none⟩) 0 0] 26)).cell? ⟨xb, nL, none⟩ = some (.slice va A.length vc) := (below_cell HB2.out.2 hxV).trans y0
                have H30 := Lib.hid (HAR.out _ (HGW.out.trans HB2.out.2) _ HB2.out.1.l)
                rw [← HLE.out] at H30
                unfold SV at H30
                have hxD : D ≠ xb := by omega
                clear hcx s0 s1 s2 q0 q1 q2 HAR hVs
                have hni : (nL : Int) < g.vars.length := by omega
                go_cut [12] (fun v12 wx => v12 = .pointer (some ⟨D, 0, none⟩) ∧ Hid (RI sb sb K xb cx yb cy g.vars.length (rulesOf g) W7 (F1.set nL (takeL A L)) Fo1 wx ∧ wx.heap[D]? = some (.cells #[.int .i64 (nL : Int), .slice xa xs.length xc, .float .f64 wt] 64 (0, 0))))
                case first =>
                  refine wp_region_held_drew (S := fun w' => w'.cell? ⟨sb, 0, none⟩ = some (.int .i64 K) ∧ w'.cell? ⟨sb, 1, none⟩ = some (.slice (some ⟨xb, 0, none⟩) g.vars.length cx) ∧ w'.cell? ⟨sb, 2, none⟩ = some (.slice (some ⟨yb, 0, none⟩) g.vars.length cy) ∧ w'.cell? ⟨D, 0, none⟩ = some (.int .i64 (nL : Int)) ∧ w'.cell? ⟨D, 1, none⟩ = some (.slice xa xs.length xc)) (by kernel_rfl) (⟨z0, z1, z2, d0, d1⟩) (fun hHeld => ?_)
                  generalize V.drew = V0 at *
                  refine wpAnyH_take (i := 0) (v := ?_) rfl (by kernel_rfl) (by kernel_rfl) (by kernel_rfl) (fun _ _ _ h => h) (Or.inl ⟨by rfl, ?_⟩) (by with_reducible assumption) ?_
                  rotate_left
                  · intro w hSw
                    try dsimp only at hSw
                    go_simp
                    try with_reducible rfl
                  try simp only [Act.put, List.setIfInBounds_toArray]
                  refine wpAnyH_take (i := 1) (v := ?_) rfl (by kernel_rfl) (by kernel_rfl) (by kernel_rfl) (fun _ _ _ h => h) (Or.inl ⟨by rfl, ?_⟩) (by with_reducible assumption) ?_
                  rotate_left
                  · intro w hSw
                    try dsimp only at hSw
                    go_simp
                    try with_reducible rfl
                  try simp only [Act.put]
                  refine wpAnyH_take (i := 2) (v := ?_) rfl (by kernel_rfl) (by kernel_rfl) (by kernel_rfl) (fun _ _ _ h => h) (Or.inl ⟨by rfl, ?_⟩) (by with_reducible assumption) ?_
                  rotate_left
                  · intro w hSw
                    try dsimp only at hSw
                    go_simp
                    try with_reducible rfl
                  try simp only [Act.put]
                  refine wpAnyH_take (i := 3) (v := ?_) rfl (by kernel_rfl) (by kernel_rfl) (by kernel_rfl) (fun _ _ _ h => h) (Or.inl ⟨by rfl, ?_⟩) (by with_reducible assumption) ?_
                  rotate_left
                  · intro w hSw
                    try dsimp only at hSw
                    go_simp
                    try with_reducible rfl
                  try simp only [Act.put]
                  refine wpAnyH_take (i := 4) (v := ?_) rfl (by kernel_rfl) (by kernel_rfl) (by kernel_rfl) (fun _ _ _ h => h) (Or.inl ⟨by rfl, ?_⟩) (by with_reducible assumption) ?_
                  rotate_left
                  · intro w hSw
                    try dsimp only at hSw
                    go_simp
                    try with_reducible rfl
                  try simp only [Act.put]
                  refine wpAnyH_take (i := 5) (v := ?_) rfl (by kernel_rfl) (by kernel_rfl) (by kernel_rfl) (fun _ _ _ h => h) (Or.inl ⟨by rfl, ?_⟩) (by with_reducible assumption) ?_
                  rotate_left
                  · intro w hSw
                    try dsimp only at hSw
                    go_simp
                    try with_reducible rfl
                  try simp only [Act.put]
                  refine wpAnyH_take (i := 6) (v := ?_) rfl (by kernel_rfl) (by kernel_rfl) (by kernel_rfl) (fun _ _ _ h => h) (Or.inl ⟨by rfl, ?_⟩) (by with_reducible assumption) ?_
                  rotate_left
                  · intro w hSw
                    try dsimp only at hSw
                    go_simp
                    try with_reducible rfl
                  try simp only [Act.put]
                  refine wpAnyH_take (i := 7) (v := ?_) rfl (by kernel_rfl) (by kernel_rfl) (by kernel_rfl) (fun _ _ _ h => h) (Or.inl ⟨by rfl, ?_⟩) (by with_reducible assumption) ?_
                  rotate_left
                  · intro w hSw
                    try dsimp only at hSw
                    go_simp
                    try with_reducible rfl
                  try simp only [Act.put]
                  refine wpAnyH_take (i := 8) (v := ?_) rfl (by kernel_rfl) (by kernel_rfl) (by kernel_rfl) (fun _ _ _ h => h) (Or.inl ⟨by rfl, ?_⟩) (by with_reducible assumption) ?_
                  rotate_left
                  · intro w hSw
                    try dsimp only at hSw
                    go_simp
                    try with_reducible rfl
                  try simp only [Act.put]
                  refine wpAnyH_take (i := 10) (v := ?_) rfl (by kernel_rfl) (by kernel_rfl) (by kernel_rfl) (fun _ _ _ h => h) (Or.inl ⟨by rfl, ?_⟩) (by with_reducible assumption) ?_
                  rotate_left
                  · intro w hSw
                    try dsimp only at hSw
                    go_simp
                    try with_reducible rfl
                  try simp only [Act.put]
                  refine wpAnyH_take (i := 11) (v := ?_) rfl (by kernel_rfl) (by kernel_rfl) (by kernel_rfl) (fun _ _ _ h => h) (Or.inl ⟨by rfl, ?_⟩) (by with_reducible assumption) ?_
                  rotate_left
                  · intro w hSw
                    try dsimp only at hSw
                    go_simp
                    try with_reducible rfl
                  try simp only [Act.put]
                  refine wpAnyH_take (i := 12) (v := ?_) rfl (by kernel_rfl) (by kernel_rfl) (by kernel_rfl) (fun _ _ _ h => h) (Or.inl ⟨by rfl, ?_⟩) (by with_reducible assumption) ?_
                  rotate_left
                  · intro w hSw
                    try dsimp only at hSw
                    go_simp
                    try with_reducible rfl
                  try simp only [Act.put]
                  refine wpAnyH_ready (rs := [9, 13]) (by kernel_rfl) (by simp) ?_
                  refine AllReadyH.cons (o := _) rfl (fun K hK => ?_) ?_
                  · go_simp
                    refine hK.out _ _ (hHeld) (fun hHeld => ?_)
                    clear hK K
                    try simp only [Act.put, List.setIfInBounds_toArray, List.set_cons_zero, List.set_cons_succ]
                    refine wpAnyH_ready (rs := [13]) (by kernel_rfl) (by simp) ?_
                    refine AllReadyH.cons (o := _) rfl (fun K hK => ?_) ?_
                    · go_simp
                      refine hK.out _ _ (HSG.out _ (grow_one _ _)) (fun hHeld => ?_)
                      clear hK K
                      try simp only [Act.put, List.setIfInBounds_toArray, List.set_cons_zero, List.set_cons_succ]
                      refine wpAnyH_ready (rs := [14]) (by kernel_rfl) (by simp) ?_
                      refine AllReadyH.cons (o := _) rfl (fun K hK => ?_) ?_
                      · go_simp
                        refine hK.out _ _ (HSG.out _ HB2.out.2) (fun hHeld => ?_)
                        clear hK K
                        try simp only [Act.put, List.setIfInBounds_toArray, List.set_cons_zero, List.set_cons_succ]
                        refine wpAnyH_ready (rs := [15]) (by kernel_rfl) (by simp) ?_
                        refine AllReadyH.cons (o := _) rfl (fun K hK => ?_) ?_
                        · go_simp
                          go_at_call 30
                          refine H30.out.mono ?_
                          rintro e w3 ⟨v3, rfl, hm3, hg3⟩
                          obtain ⟨a3, c3, rfl⟩ := hm3.lit
                          have H3 := Lib.hid (And.intro hm3.l (HB2.out.2.trans hg3))
                          have y3 := (below_cell H3.out.2 hxV).trans y0
                          clear hm3 hg3
                          refine hK.out _ _ (HSG.out _ H3.out.2) (fun hHeld => ?_)
                          clear hK K
                          try simp only [Act.put, List.setIfInBounds_toArray, List.set_cons_zero, List.set_cons_succ]
                          refine wpAnyH_ready (rs := [16]) (by kernel_rfl) (by simp) ?_
                          refine AllReadyH.cons (o := _) rfl (fun K hK => ?_) ?_
                          · go_simp
                            go_at_call 29
                            refine (HR9.out _ _ _ (HGW.out.trans H3.out.2) H3.out.1).mono ?_
                            rintro e w4 ⟨v4, rfl, hm4, hg4⟩
                            obtain ⟨a4, c4, rfl⟩ := hm4.lit
                            have H4 := Lib.hid (And.intro hm4 (H3.out.2.trans hg4))
                            have y4 := (below_cell H4.out.2 hxV).trans y0
                            have f4 : w4.frozen? ⟨xb, nL, none⟩ = false := by obtain ⟨cs, h2, _⟩ := (HI1.out.s.a1.go (HGW.out.trans H4.out.2)).ex; exact free_of_block h2
                            clear hm4 hg4
                            refine hK.out _ _ (HSG.out _ H4.out.2) (fun hHeld => ?_)
                            clear hK K
                            try simp only [Act.put, List.setIfInBounds_toArray, List.set_cons_zero, List.set_cons_succ]
                            refine wpAnyH_take (i := 17) (v := ?_) rfl (by kernel_rfl) (by kernel_rfl) (by kernel_rfl) (fun _ _ _ h => h) (Or.inl ⟨by rfl, ?_⟩) (by with_reducible assumption) ?_
                            rotate_left
                            · intro w hSw
                              try dsimp only at hSw
                              go_simp
                              try with_reducible rfl
                            try simp only [Act.put, List.setIfInBounds_toArray]
                            refine wpAnyH_ready (rs := [18]) (by kernel_rfl) (by simp) ?_
                            refine AllReadyH.cons (o := _) rfl (fun K hK => ?_) ?_
                            · go_simp
                              refine hK.out _ _ (⟨(cell_set_ne (p := ⟨xb, nL, none⟩) HSN.out.1).trans hHeld.1, (cell_set_ne (p := ⟨xb, nL, none⟩) HSN.out.1).trans hHeld.2.1, (cell_set_ne (p := ⟨xb, nL, none⟩) HSN.out.1).trans hHeld.2.2.1, (cell_set_ne (p := ⟨xb, nL, none⟩) hxD).trans hHeld.2.2.2.1, (cell_set_ne (p := ⟨xb, nL, none⟩) hxD).trans hHeld.2.2.2.2⟩) (fun hHeld => ?_)
                              clear hK K
                              try simp only [Act.put, List.setIfInBounds_toArray, List.set_cons_zero, List.set_cons_succ]
                              refine wpAnyH_done (by kernel_rfl) ?_ _
                              go_wp2_with fail
                              go_meet
                              exact ⟨rfl, Lib.hid ⟨HFIN.out _ _ (HGW.out.trans H4.out.2) H4.out.1, (Below.heap_setCell _ _ _ _ hxD).trans ((H4.out.2.block D hDV).trans HDB.out)⟩⟩
                            exact AllReadyH.nil
                          exact AllReadyH.nil
                        exact AllReadyH.nil
                      exact AllReadyH.nil
                    exact AllReadyH.nil
                  refine AllReadyH.cons (o := _) rfl (fun K hK => ?_) ?_
                  · go_simp
                    refine hK.out _ _ (HSG.out _ (grow_one _ _)) (fun hHeld => ?_)
                    clear hK K
                    try simp only [Act.put, List.setIfInBounds_toArray, List.set_cons_zero, List.set_cons_succ]
                    refine wpAnyH_ready (rs := [9, 14]) (by kernel_rfl) (by simp) ?_
                    refine AllReadyH.cons (o := _) rfl (fun K hK => ?_) ?_
                    · go_simp
                      refine hK.out _ _ (hHeld) (fun hHeld => ?_)
                      clear hK K
                      try simp only [Act.put, List.setIfInBounds_toArray, List.set_cons_zero, List.set_cons_succ]
                      refine wpAnyH_ready (rs := [14]) (by kernel_rfl) (by simp) ?_
                      refine AllReadyH.cons (o := _) rfl (fun K hK => ?_) ?_
                      · go_simp
                        refine hK.out _ _ (HSG.out _ HB2.out.2) (fun hHeld => ?_)
                        clear hK K
                        try simp only [Act.put, List.setIfInBounds_toArray, List.set_cons_zero, List.set_cons_succ]
                        refine wpAnyH_ready (rs := [15]) (by kernel_rfl) (by simp) ?_
                        refine AllReadyH.cons (o := _) rfl (fun K hK => ?_) ?_
                        · go_simp
                          go_at_call 30
                          refine H30.out.mono ?_
                          rintro e w3 ⟨v3, rfl, hm3, hg3⟩
                          obtain ⟨a3, c3, rfl⟩ := hm3.lit
                          have H3 := Lib.hid (And.intro hm3.l (HB2.out.2.trans hg3))
                          have y3 := (below_cell H3.out.2 hxV).trans y0
                          clear hm3 hg3
                          refine hK.out _ _ (HSG.out _ H3.out.2) (fun hHeld => ?_)
                          clear hK K
                          try simp only [Act.put, List.setIfInBounds_toArray, List.set_cons_zero, List.set_cons_succ]
                          refine wpAnyH_ready (rs := [16]) (by kernel_rfl) (by simp) ?_
                          refine AllReadyH.cons (o := _) rfl (fun K hK => ?_) ?_
                          · go_simp
                            go_at_call 29
                            refine (HR9.out _ _ _ (HGW.out.trans H3.out.2) H3.out.1).mono ?_
                            rintro e w4 ⟨v4, rfl, hm4, hg4⟩
                            obtain ⟨a4, c4, rfl⟩ := hm4.lit
                            have H4 := Lib.hid (And.intro hm4 (H3.out.2.trans hg4))
                            have y4 := (below_cell H4.out.2 hxV).trans y0
                            have f4 : w4.frozen? ⟨xb, nL, none⟩ = false := by obtain ⟨cs, h2, _⟩ := (HI1.out.s.a1.go (HGW.out.trans H4.out.2)).ex; exact free_of_block h2
                            clear hm4 hg4
                            refine hK.out _ _ (HSG.out _ H4.out.2) (fun hHeld => ?_)
                            clear hK K
                            try simp only [Act.put, List.setIfInBounds_toArray, List.set_cons_zero, List.set_cons_succ]
                            refine wpAnyH_take (i := 17) (v := ?_) rfl (by kernel_rfl) (by kernel_rfl) (by kernel_rfl) (fun _ _ _ h => h) (Or.inl ⟨by rfl, ?_⟩) (by with_reducible assumption) ?_
                            rotate_left
                            · intro w hSw
                              try dsimp only at hSw
                              go_simp
                              try with_reducible rfl
                            try simp only [Act.put, List.setIfInBounds_toArray]
                            refine wpAnyH_ready (rs := [18]) (by kernel_rfl) (by simp) ?_
                            refine AllReadyH.cons (o := _) rfl (fun K hK => ?_) ?_
                            · go_simp
                              refine hK.out _ _ (⟨(cell_set_ne (p := ⟨xb, nL, none⟩) HSN.out.1).trans hHeld.1, (cell_set_ne (p := ⟨xb, nL, none⟩) HSN.out.1).trans hHeld.2.1, (cell_set_ne (p := ⟨xb, nL, none⟩) HSN.out.1).trans hHeld.2.2.1, (cell_set_ne (p := ⟨xb, nL, none⟩) hxD).trans hHeld.2.2.2.1, (cell_set_ne (p := ⟨xb, nL, none⟩) hxD).trans hHeld.2.2.2.2⟩) (fun hHeld => ?_)
                              clear hK K
                              try simp only [Act.put, List.setIfInBounds_toArray, List.set_cons_zero, List.set_cons_succ]
                              refine wpAnyH_done (by kernel_rfl) ?_ _
                              go_wp2_with fail
                              go_meet
                              exact ⟨rfl, Lib.hid ⟨HFIN.out _ _ (HGW.out.trans H4.out.2) H4.out.1, (Below.heap_setCell _ _ _ _ hxD).trans ((H4.out.2.block D hDV).trans HDB.out)⟩⟩
                            exact AllReadyH.nil
                          exact AllReadyH.nil
                        exact AllReadyH.nil
                      exact AllReadyH.nil
                    refine AllReadyH.cons (o := _) rfl (fun K hK => ?_) ?_
                    · go_simp
                      refine hK.out _ _ (HSG.out _ HB2.out.2) (fun hHeld => ?_)
                      clear hK K
                      try simp only [Act.put, List.setIfInBounds_toArray, List.set_cons_zero, List.set_cons_succ]
                      refine wpAnyH_ready (rs := [9, 15]) (by kernel_rfl) (by simp) ?_
                      refine AllReadyH.cons (o := _) rfl (fun K hK => ?_) ?_
                      · go_simp
                        refine hK.out _ _ (hHeld) (fun hHeld => ?_)
                        clear hK K
                        try simp only [Act.put, List.setIfInBounds_toArray, List.set_cons_zero, List.set_cons_succ]
                        refine wpAnyH_ready (rs := [15]) (by kernel_rfl) (by simp) ?_
                        refine AllReadyH.cons (o := _) rfl (fun K hK => ?_) ?_
                        · go_simp
                          go_at_call 30
                          refine H30.out.mono ?_
                          rintro e w3 ⟨v3, rfl, hm3, hg3⟩
                          obtain ⟨a3, c3, rfl⟩ := hm3.lit
                          have H3 := Lib.hid (And.intro hm3.l (HB2.out.2.trans hg3))
                          have y3 := (below_cell H3.out.2 hxV).trans y0
                          clear hm3 hg3
                          refine hK.out _ _ (HSG.out _ H3.out.2) (fun hHeld => ?_)
                          clear hK K
                          try simp only [Act.put, List.setIfInBounds_toArray, List.set_cons_zero, List.set_cons_succ]
                          refine wpAnyH_ready (rs := [16]) (by kernel_rfl) (by simp) ?_
                          refine AllReadyH.cons (o := _) rfl (fun K hK => ?_) ?_
                          · go_simp
                            go_at_call 29
                            refine (HR9.out _ _ _ (HGW.out.trans H3.out.2) H3.out.1).mono ?_
                            rintro e w4 ⟨v4, rfl, hm4, hg4⟩
                            obtain ⟨a4, c4, rfl⟩ := hm4.lit
                            have H4 := Lib.hid (And.intro hm4 (H3.out.2.trans hg4))
                            have y4 := (below_cell H4.out.2 hxV).trans y0
                            have f4 : w4.frozen? ⟨xb, nL, none⟩ = false := by obtain ⟨cs, h2, _⟩ := (HI1.out.s.a1.go (HGW.out.trans H4.out.2)).ex; exact free_of_block h2
                            clear hm4 hg4
                            refine hK.out _ _ (HSG.out _ H4.out.2) (fun hHeld => ?_)
                            clear hK K
                            try simp only [Act.put, List.setIfInBounds_toArray, List.set_cons_zero, List.set_cons_succ]
                            refine wpAnyH_take (i := 17) (v := ?_) rfl (by kernel_rfl) (by kernel_rfl) (by kernel_rfl) (fun _ _ _ h => h) (Or.inl ⟨by rfl, ?_⟩) (by with_reducible assumption) ?_
                            rotate_left
                            · intro w hSw
                              try dsimp only at hSw
                              go_simp
                              try with_reducible rfl
                            try simp only [Act.put, List.setIfInBounds_toArray]
                            refine wpAnyH_ready (rs := [18]) (by kernel_rfl) (by simp) ?_
                            refine AllReadyH.cons (o := _) rfl (fun K hK => ?_) ?_
                            · go_simp
                              refine hK.out _ _ (⟨(cell_set_ne (p := ⟨xb, nL, none⟩) HSN.out.1).trans hHeld.1, (cell_set_ne (p := ⟨xb, nL, none⟩) HSN.out.1).trans hHeld.2.1, (cell_set_ne (p := ⟨xb, nL, none⟩) HSN.out.1).trans hHeld.2.2.1, (cell_set_ne (p := ⟨xb, nL, none⟩) hxD).trans hHeld.2.2.2.1, (cell_set_ne (p := ⟨xb, nL, none⟩) hxD).trans hHeld.2.2.2.2⟩) (fun hHeld => ?_)
                              clear hK K
                              try simp only [Act.put, List.setIfInBounds_toArray, List.set_cons_zero, List.set_cons_succ]
                              refine wpAnyH_done (by kernel_rfl) ?_ _
                              go_wp2_with fail
                              go_meet
                              exact ⟨rfl, Lib.hid ⟨HFIN.out _ _ (HGW.out.trans H4.out.2) H4.out.1, (Below.heap_setCell _ _ _ _ hxD).trans ((H4.out.2.block D hDV).trans HDB.out)⟩⟩
                            exact AllReadyH.nil
                          exact AllReadyH.nil
                        exact AllReadyH.nil
                      refine AllReadyH.cons (o := _) rfl (fun K hK => ?_) ?_
                      · go_simp
                        go_at_call 30
                        refine H30.out.mono ?_
                        rintro e w3 ⟨v3, rfl, hm3, hg3⟩
                        obtain ⟨a3, c3, rfl⟩ := hm3.lit
                        have H3 := Lib.hid (And.intro hm3.l (HB2.out.2.trans hg3))
                        have y3 := (below_cell H3.out.2 hxV).trans y0
                        clear hm3 hg3
                        refine hK.out _ _ (HSG.out _ H3.out.2) (fun hHeld => ?_)
                        clear hK K
                        try simp only [Act.put, List.setIfInBounds_toArray, List.set_cons_zero, List.set_cons_succ]
                        refine wpAnyH_ready (rs := [9]) (by kernel_rfl) (by simp) ?_
                        refine AllReadyH.cons (o := _) rfl (fun K hK => ?_) ?_
                        · go_simp
                          refine hK.out _ _ (hHeld) (fun hHeld => ?_)
                          clear hK K
                          try simp only [Act.put, List.setIfInBounds_toArray, List.set_cons_zero, List.set_cons_succ]
                          refine wpAnyH_ready (rs := [16]) (by kernel_rfl) (by simp) ?_
                          refine AllReadyH.cons (o := _) rfl (fun K hK => ?_) ?_
                          · go_simp
                            go_at_call 29
                            refine (HR9.out _ _ _ (HGW.out.trans H3.out.2) H3.out.1).mono ?_
                            rintro e w4 ⟨v4, rfl, hm4, hg4⟩
                            obtain ⟨a4, c4, rfl⟩ := hm4.lit
                            have H4 := Lib.hid (And.intro hm4 (H3.out.2.trans hg4))
                            have y4 := (below_cell H4.out.2 hxV).trans y0
                            have f4 : w4.frozen? ⟨xb, nL, none⟩ = false := by obtain ⟨cs, h2, _⟩ := (HI1.out.s.a1.go (HGW.out.trans H4.out.2)).ex; exact free_of_block h2
                            clear hm4 hg4
                            refine hK.out _ _ (HSG.out _ H4.out.2) (fun hHeld => ?_)
                            clear hK K
                            try simp only [Act.put, List.setIfInBounds_toArray, List.set_cons_zero, List.set_cons_succ]
                            refine wpAnyH_take (i := 17) (v := ?_) rfl (by kernel_rfl) (by kernel_rfl) (by kernel_rfl) (fun _ _ _ h => h) (Or.inl ⟨by rfl, ?_⟩) (by with_reducible assumption) ?_
                            rotate_left
                            · intro w hSw
                              try dsimp only at hSw
                              go_simp
                              try with_reducible rfl
                            try simp only [Act.put, List.setIfInBounds_toArray]
                            refine wpAnyH_ready (rs := [18]) (by kernel_rfl) (by simp) ?_
                            refine AllReadyH.cons (o := _) rfl (fun K hK => ?_) ?_
                            · go_simp
                              refine hK.out _ _ (⟨(cell_set_ne (p := ⟨xb, nL, none⟩) HSN.out.1).trans hHeld.1, (cell_set_ne (p := ⟨xb, nL, none⟩) HSN.out.1).trans hHeld.2.1, (cell_set_ne (p := ⟨xb, nL, none⟩) HSN.out.1).trans hHeld.2.2.1, (cell_set_ne (p := ⟨xb, nL, none⟩) hxD).trans hHeld.2.2.2.1, (cell_set_ne (p := ⟨xb, nL, none⟩) hxD).trans hHeld.2.2.2.2⟩) (fun hHeld => ?_)
                              clear hK K
                              try simp only [Act.put, List.setIfInBounds_toArray, List.set_cons_zero, List.set_cons_succ]
                              refine wpAnyH_done (by kernel_rfl) ?_ _
                              go_wp2_with fail
                              go_meet
                              exact ⟨rfl, Lib.hid ⟨HFIN.out _ _ (HGW.out.trans H4.out.2) H4.out.1, (Below.heap_setCell _ _ _ _ hxD).trans ((H4.out.2.block D hDV).trans HDB.out)⟩⟩
                            exact AllReadyH.nil
                          exact AllReadyH.nil
                        exact AllReadyH.nil
                      exact AllReadyH.nil
                    exact AllReadyH.nil
                  exact AllReadyH.nil
                case rest =>
                obtain ⟨rfl, hc⟩ := hcut
                have hIc := hc.out.1
                have hDc := hc.out.2
                rw [HLE.out] at HP2 hc
                have HC17 := Lib.hid hc.out
                have hxd : D ≠ yb := by have := HI1.out.s.a2.lt; omega
                have HLX2 := Lib.hid (fun W' (h' : Grow wr W') => Lst.go HLX.out h')
                have HP3 := Lib.hid (HP2.out.imp (P' := (∀ r ∈ (rulesOf g).take k, DoneA K F Fo r) ∧ ∀ w ∈ raheadL K F xs [[]], memF F nL w) (fun _ _ hp => by
                  obtain ⟨h1, h2, _, h4⟩ := hp
                  rw [h2] at h4
                  exact ⟨h1, h4⟩))
                clear d0 d1 z0 z1 z2 y0 y1 y2 hsV hDV hxV H30 HR9 HFIN HOA hAl HVM HSG HB2 HGW HDB HGV HOL HSL hLl hIc hDc hc HP2
                generalize F1.set nL (takeL A (raheadL K F1 xs [[]])) = F2 at *
                go_wp2_with fail
                go_loopw [13] (fun i wz => ∃ j : Nat, j ≤ xs.length ∧ i = .int .i64 j ∧ Hid (∃ F3 Fo3, RI sb sb K xb cx yb cy g.vars.length (rulesOf g) W7 F3 Fo3 wz ∧ wz.heap[D]? = some (.cells #[.int .i64 (nL : Int), .slice xa xs.length xc, .float .f64 wt] 64 (0, 0)) ∧ Prog F Fo F3 Fo3 (((∀ r ∈ (rulesOf g).take k, DoneA K F Fo r) ∧ ∀ w ∈ raheadL K F xs [[]], memF F nL w) ∧ ∀ j' < j, ∀ x, xs[j']? = some x → 0 ≤ x → ∀ w ∈ raheadL K F (xs.drop (j' + 1)) (Fo.getD nL []), memF Fo x.toNat w))) (fun i _ => xs.length - (intOf i).toNat)
                case atStart => exact ⟨0, by omega, rfl, Lib.hid ⟨F2, Fo1, HC17.out.1, HC17.out.2, HP3.out.imp (fun _ _ hp => ⟨hp, fun j' hj' => by omega⟩)⟩⟩
                case round =>
                  clear HC17 HP3
                  obtain ⟨j, hj, rfl, hh⟩ := hrel
                  obtain ⟨F3, Fo3, hI3, hD3, hP3⟩ := hh.out
                  have HI3 := Lib.hid hI3
                  have HD3 := Lib.hid hD3
                  have HP4 := Lib.hid hP3
                  have e1 : wr.cell? ⟨D, 1, none⟩ = some (.slice xa xs.length xc) := cell_of_block (off := 1) hD3
                  have hDz := lt_of_block hD3
                  clear hh hP3 hD3
                  by_cases hlj : j < xs.length
                  · have hji : (j : Int) < xs.length := by omega
                    have hj0 : (0 : Int) ≤ j := by omega
                    have hgz := hI3.grow HG7.out (by omega)
                    have HLZ := Lib.hid (ints_lst (HIX.out.below (below_low hgz hB)) (Nat.le_trans hB hgz.size))
                    obtain ⟨pb, po, rfl, hpb, hpw⟩ := HIX.out j hlj
                    have hpc := (below_cell hgz (Nat.lt_of_lt_of_le hpb hB)).trans hpw
                    clear hpw
                    obtain ⟨hx1, hx2⟩ := HFM.out xs[j] (List.getElem_mem hlj)
                    have HXJ := Lib.hid (List.getElem?_eq_getElem hlj)
                    by_cases h0 : 0 ≤ xs[j]
                    · obtain ⟨m, hm⟩ := Int.eq_ofNat_of_zero_le h0
                      have hmn : m < g.vars.length := by omega
                      rw [hm] at HXJ hpc
                      clear h0 hx1 hx2 hm
                      have hmi : (m : Int) < g.vars.length := by omega
                      have hm0 : (0 : Int) ≤ m := by omega
                      have hni : (nL : Int) < g.vars.length := by omega
                      obtain ⟨s0, s1, s2⟩ := hI3.c0
                      have hsz : sb < wr.heap.size := lt_of_block hI3.s.blk
                      have hyz := hI3.s.a2.lt
                      have hsn := hI3.sne
                      obtain ⟨vx, kx, hcx, hvx, hvm⟩ := hI3.s.a2.at hmn
                      obtain ⟨vl, kl, hcl, hvl, _⟩ := hI3.s.a2.at hnn
                      have HVM := Lib.hid hvm
                      have HVL := Lib.hid hvl
                      have hfw : pb < wr.heap.size := block_of_cell hpc
                      have hDy : D ≠ yb := hxd
                      have HSN := Lib.hid hsn
                      have hpy : pb ≠ yb := by omega
                      have HDR := Lib.hid (fun X (hg : Grow wr.drew X) => And.intro (HI3.out.go ((grow_drew wr).trans hg)) ((hg.block D hDz).trans HD3.out))
                      obtain ⟨ta, hta⟩ : ∃ ta : Option Addr, (if xc = j + 1 then some (⟨pb, po, none⟩ : Addr) else some ⟨pb, po + (j + 1), none⟩) = ta := ⟨_, rfl⟩
                      have hwr : IntKind.i64.wrap ((j : Int) + 1) = (j : Int) + 1 := IntWalk.i64_in _ (by omega)
                      have hle2 : (j : Int) + 1 ≤ xs.length := by omega
                      have hge2 : (0 : Int) ≤ (j : Int) + 1 := by omega
                      have HLD := Lib.hid (fun X (hg : Grow wr.drew X) => lst_cut (Lst.go HLZ.out ((grow_drew wr).trans hg)) hxc (Nat.succ_le_of_lt hlj) hta)
                      have HOT := Lib.hid (sysD_ok hK2 hR HI3.out.st.d nL)
                      have HOA := Lib.hid (sysD_ok hK2 hR HI3.out.st.d m)
                      have hAl := okW_few (HI3.out.st.d.sorted m) HOA.out
                      have HOL := Lib.hid (show OkW (raheadL K F3 (xs.drop (j + 1)) (Fo3.getD nL [])) from by rw [rahead_eq]; exact okW_ahead (sysF_ok hK2 hR HI3.out.st.f) hK2 (fun x hx => HFM.out x (List.mem_of_mem_drop hx)) HOT.out)
                      have HSL : Hid (Sorted (raheadL K F3 (xs.drop (j + 1)) (Fo3.getD nL []))) := Lib.hid (timesL_sorted _ _ _)
                      have hLl := okW_few HSL.out HOL.out
                      have hdl : (xs.drop (j + 1)).length = xs.length - (j + 1) := by simp
                      have H30 := Lib.hid (rahead_any (cx := cx) (yb := yb) (cy := cy) (fc := xc - (j + 1)) (HI3.out.go (grow_drew wr)).s.a1 ⟨hK1, hK2⟩ (sysF_ok hK2 hR HI3.out.st.f) HI3.out.st.f.sorted (HLD.out _ (Below.refl _ _)) (by rw [List.length_drop]; omega) (fun x hx => HFM.out x (List.mem_of_mem_drop hx)) (tc := kl) (HVL.out.go (grow_drew wr)) HOT.out (HI3.out.st.d.sorted nL))
                      have HFIN := Lib.hid (fun w4 v4 (h4 : Grow wr.drew w4) (hm4 : Made 0 v4 (takeL (Fo3.getD m []) (raheadL K F3 (xs.drop (j + 1)) (Fo3.getD nL []))) w4) => show RI sb sb K xb cx yb cy g.vars.length (rulesOf g) W7 F3 (Fo3.set m (takeL (Fo3.getD m []) (raheadL K F3 (xs.drop (j + 1)) (Fo3.getD nL [])))) (w4.setCell ⟨yb, m, none⟩ v4) from (HDR.out w4 h4).1.put2 (by omega) (List.mem_of_getElem? HRK.out) HXJ.out hmn hm4)
                      have HPF := Lib.hid ((HP4.out.step2 (v := m) (by rw [HI3.out.st.d.len]; exact hmn) (B := raheadL K F3 (xs.drop (j + 1)) (Fo3.getD nL []))).imp (P' := ((∀ r ∈ (rulesOf g).take k, DoneA K F Fo r) ∧ ∀ w ∈ raheadL K F xs [[]], memF F nL w) ∧ ∀ j' < j + 1, ∀ x, xs[j']? = some x → 0 ≤ x → ∀ w ∈ raheadL K F (xs.drop (j' + 1)) (Fo.getD nL []), memF Fo x.toNat w) (fun _ _ hp => by
                        obtain ⟨h1, h2, h3, h4⟩ := hp
                        rw [h2, h3] at h4
                        exact ⟨h1.1, done_on h1.2 HXJ.out (fun _ => h4)⟩))
                      rw [hdl] at H30
                      unfold SV at H30
                      have HR9 := Lib.hid (fun w3 a3 c3 (h3 : Grow wr.drew w3) (hm3 : Lsts w3 a3 (raheadL K F3 (xs.drop (j + 1)) (Fo3.getD nL []))) => rboth_any (ca := kx) (cb := c3) (HVM.out.go ((grow_drew wr).trans h3)) (Nat.zero_le _) hm3 HOA.out HOL.out (by omega) (by omega))
                      have HXC := Lib.hid hdl
                      have d0 : wr.drew.cell? ⟨D, 0, none⟩ = some (.int .i64 (nL : Int)) := cell_of_block (off := 0) HD3.out
                      have hsV : sb < wr.drew.heap.size := hsz
                      have hDV : D < wr.drew.heap.size := hDz
                      have hpV : pb < wr.drew.heap.size := hfw
                      have hyV : yb < wr.drew.heap.size := hyz
                      have hS0 : wr.drew.cell? ⟨sb, 0, none⟩ = some (.int .i64 K) ∧ wr.drew.cell? ⟨sb, 1, none⟩ = some (.slice (some ⟨xb, 0, none⟩) g.vars.length cx) ∧ wr.drew.cell? ⟨sb, 2, none⟩ = some (.slice (some ⟨yb, 0, none⟩) g.vars.length cy) ∧ wr.drew.cell? ⟨D, 0, none⟩ = some (.int .i64 (nL : Int)) ∧ wr.drew.cell? ⟨D, 1, none⟩ = some (.slice (some ⟨pb, po, none⟩) xs.length xc) ∧ wr.drew.cell? ⟨pb, po + j, none⟩ = some (.int .i64 (m : Int)) := ⟨s0, s1, s2, d0, e1, hpc⟩
                      have HSG := Lib.hid (fun X (hg : Grow wr.drew X) => show X.cell? ⟨sb, 0, none⟩ = some (.int .i64 K) ∧ X.cell? ⟨sb, 1, none⟩ = some (.slice (some ⟨xb, 0, none⟩) g.vars.length cx) ∧ X.cell? ⟨sb, 2, none⟩ = some (.slice (some ⟨yb, 0, none⟩) g.vars.length cy) ∧ X.cell? ⟨D, 0, none⟩ = some (.int .i64 (nL : Int)) ∧ X.cell? ⟨D, 1, none⟩ = some (.slice (some ⟨pb, po, none⟩) xs.length xc) ∧ X.cell? ⟨pb, po + j, none⟩ = some (.int .i64 (m : Int)) from ⟨(below_cell hg hsV).trans s0, (below_cell hg hsV).trans s1, (below_cell hg hsV).trans s2, (below_cell hg hDV).trans d0, (below_cell hg hDV).trans e1, (below_cell hg hpV).trans hpc⟩)
                      have y0 : wr.drew.cell? ⟨yb, m, none⟩ = some (.slice vx (Fo3.getD m []).length kx) := hcx
                      have y9 : wr.drew.cell? ⟨yb, nL, none⟩ = some (.slice vl (Fo3.getD nL []).length kl) := hcl
                      generalize raheadL K F3 (xs.drop (j + 1)) (Fo3.getD nL []) = L at *
                      generalize Fo3.getD nL [] = T at *
                      generalize Fo3.getD m [] = A at *
                      clear hdl hI3 hgz hsn hvx hvm hvl s0 s1 s2 hcx hcl d0 hsz hyz hfw
                      go_wp2_with fail
                      refine wp_region_held_drew (S := fun w' => w'.cell? ⟨sb, 0, none⟩ = some (.int .i64 K) ∧ w'.cell? ⟨sb, 1, none⟩ = some (.slice (some ⟨xb, 0, none⟩) g.vars.length cx) ∧ w'.cell? ⟨sb, 2, none⟩ = some (.slice (some ⟨yb, 0, none⟩) g.vars.length cy) ∧ w'.cell? ⟨D, 0, none⟩ = some (.int .i64 (nL : Int)) ∧ w'.cell? ⟨D, 1, none⟩ = some (.slice (some ⟨pb, po, none⟩) xs.length xc) ∧ w'.cell? ⟨pb, po + j, none⟩ = some (.int .i64 (m : Int))) (by kernel_rfl) (hS0) (fun hHeld => ?_)
                      generalize wr.drew = V0 at *
                      refine wpAnyH_take (i := 0) (v := ?_) rfl (by kernel_rfl) (by kernel_rfl) (by kernel_rfl) (fun _ _ _ h => h) (Or.inl ⟨by rfl, ?_⟩) (by with_reducible assumption) ?_
                      rotate_left
                      · intro w hSw
                        try dsimp only at hSw
                        go_simp
                        try with_reducible rfl
                      try simp only [Act.put, List.setIfInBounds_toArray]
                      refine wpAnyH_take (i := 1) (v := ?_) rfl (by kernel_rfl) (by kernel_rfl) (by kernel_rfl) (fun _ _ _ h => h) (Or.inl ⟨by rfl, ?_⟩) (by with_reducible assumption) ?_
                      rotate_left
                      · intro w hSw
                        try dsimp only at hSw
                        go_simp
                        try with_reducible rfl
                      try simp only [Act.put]
                      refine wpAnyH_take (i := 2) (v := ?_) rfl (by kernel_rfl) (by kernel_rfl) (by kernel_rfl) (fun _ _ _ h => h) (Or.inl ⟨by rfl, ?_⟩) (by with_reducible assumption) ?_
                      rotate_left
                      · intro w hSw
                        try dsimp only at hSw
                        go_simp
                        try with_reducible rfl
                      try simp only [Act.put]
                      refine wpAnyH_take (i := 3) (v := ?_) rfl (by kernel_rfl) (by kernel_rfl) (by kernel_rfl) (fun _ _ _ h => h) (Or.inl ⟨by rfl, ?_⟩) (by with_reducible assumption) ?_
                      rotate_left
                      · intro w hSw
                        try dsimp only at hSw
                        go_simp
                        try with_reducible rfl
                      try simp only [Act.put]
                      refine wpAnyH_take (i := 4) (v := ?_) rfl (by kernel_rfl) (by kernel_rfl) (by kernel_rfl) (fun _ _ _ h => h) (Or.inl ⟨by rfl, ?_⟩) (by with_reducible assumption) ?_
                      rotate_left
                      · intro w hSw
                        try dsimp only at hSw
                        go_simp
                        try with_reducible rfl
                      try simp only [Act.put]
                      refine wpAnyH_take (i := 5) (v := ?_) rfl (by kernel_rfl) (by kernel_rfl) (by kernel_rfl) (fun _ _ _ h => h) (Or.inl ⟨by rfl, ?_⟩) (by with_reducible assumption) ?_
                      rotate_left
                      · intro w hSw
                        try dsimp only at hSw
                        go_simp
                        try with_reducible rfl
                      try simp only [Act.put]
                      refine wpAnyH_take (i := 6) (v := ?_) rfl (by kernel_rfl) (by kernel_rfl) (by kernel_rfl) (fun _ _ _ h => h) (Or.inl ⟨by rfl, ?_⟩) (by with_reducible assumption) ?_
                      rotate_left
                      · intro w hSw
                        try dsimp only at hSw
                        go_simp
                        try with_reducible rfl
                      try simp only [Act.put]
                      refine wpAnyH_take (i := 7) (v := ?_) rfl (by kernel_rfl) (by kernel_rfl) (by kernel_rfl) (fun _ _ _ h => h) (Or.inl ⟨by rfl, ?_⟩) (by with_reducible assumption) ?_
                      rotate_left
                      · intro w hSw
                        try dsimp only at hSw
                        go_simp
                        try with_reducible rfl
                      try simp only [Act.put]
                      refine wpAnyH_take (i := 8) (v := ?_) rfl (by kernel_rfl) (by kernel_rfl) (by kernel_rfl) (fun _ _ _ h => h) (Or.inl ⟨by rfl, ?_⟩) (by with_reducible assumption) ?_
                      rotate_left
                      · intro w hSw
                        try dsimp only at hSw
                        go_simp
                        try with_reducible rfl
                      try simp only [Act.put]
                      refine wpAnyH_take (i := 9) (v := ?_) rfl (by kernel_rfl) (by kernel_rfl) (by kernel_rfl) (fun _ _ _ h => h) (Or.inl ⟨by rfl, ?_⟩) (by with_reducible assumption) ?_
                      rotate_left
                      · intro w hSw
                        try dsimp only at hSw
                        go_simp
                        try with_reducible rfl
                      try simp only [Act.put]
                      refine wpAnyH_take (i := 10) (v := ?_) rfl (by kernel_rfl) (by kernel_rfl) (by kernel_rfl) (fun _ _ _ h => h) (Or.inl ⟨by rfl, ?_⟩) (by with_reducible assumption) ?_
                      rotate_left
                      · intro w hSw
                        try dsimp only at hSw
                        go_simp
                        try with_reducible rfl
                      try simp only [Act.put]
                      refine wpAnyH_take (i := 11) (v := ?_) rfl (by kernel_rfl) (by kernel_rfl) (by kernel_rfl) (fun _ _ _ h => h) (Or.inl ⟨by rfl, ?_⟩) (by with_reducible assumption) ?_
                      rotate_left
                      · intro w hSw
                        try dsimp only at hSw
                        go_simp
                        try with_reducible rfl
                      try simp only [Act.put]
                      refine wpAnyH_take (i := 12) (v := ?_) rfl (by kernel_rfl) (by kernel_rfl) (by kernel_rfl) (fun _ _ _ h => h) (Or.inl ⟨by rfl, ?_⟩) (by with_reducible assumption) ?_
                      rotate_left
                      · intro w hSw
                        try dsimp only at hSw
                        go_simp
                        try with_reducible rfl
                      try simp only [Act.put]
                      refine wpAnyH_take (i := 13) (v := ?_) rfl (by kernel_rfl) (by kernel_rfl) (by kernel_rfl) (fun _ _ _ h => h) (Or.inl ⟨by rfl, ?_⟩) (by with_reducible assumption) ?_
                      rotate_left
                      · intro w hSw
                        try dsimp only at hSw
                        go_simp
                        try with_reducible rfl
                      try simp only [Act.put]
                      refine wpAnyH_take (i := 14) (v := ?_) rfl (by kernel_rfl) (by kernel_rfl) (by kernel_rfl) (fun _ _ _ h => h) (Or.inl ⟨by rfl, ?_⟩) (by with_reducible assumption) ?_
                      rotate_left
                      · intro w hSw
                        try dsimp only at hSw
                        go_simp
                        try with_reducible rfl
                      try simp only [Act.put]
                      refine wpAnyH_take (i := 16) (v := ?_) rfl (by kernel_rfl) (by kernel_rfl) (by kernel_rfl) (fun _ _ _ h => h) (Or.inl ⟨by rfl, ?_⟩) (by with_reducible assumption) ?_
                      rotate_left
                      · intro w hSw
                        try dsimp only at hSw
                        go_simp
                        try with_reducible rfl
                      try simp only [Act.put]
                      refine wpAnyH_take (i := 17) (v := ?_) rfl (by kernel_rfl) (by kernel_rfl) (by kernel_rfl) (fun _ _ _ h => h) (Or.inl ⟨by rfl, ?_⟩) (by with_reducible assumption) ?_
                      rotate_left
                      · intro w hSw
                        try dsimp only at hSw
                        go_simp
                        try with_reducible rfl
                      try simp only [Act.put]
                      refine wpAnyH_take (i := 18) (v := ?_) rfl (by kernel_rfl) (by kernel_rfl) (by kernel_rfl) (fun _ _ _ h => h) (Or.inl ⟨by rfl, ?_⟩) (by with_reducible assumption) ?_
                      rotate_left
                      · intro w hSw
                        try dsimp only at hSw
                        go_simp
                        try with_reducible rfl
                      try simp only [Act.put]
                      refine wpAnyH_take (i := 19) (v := ?_) rfl (by kernel_rfl) (by kernel_rfl) (by kernel_rfl) (fun _ _ _ h => h) (Or.inl ⟨by rfl, ?_⟩) (by with_reducible assumption) ?_
                      rotate_left
                      · intro w hSw
                        try dsimp only at hSw
                        go_simp
                        try with_reducible rfl
                      try simp only [Act.put]
                      refine wpAnyH_take (i := 20) (v := ?_) rfl (by kernel_rfl) (by kernel_rfl) (by kernel_rfl) (fun _ _ _ h => h) (Or.inl ⟨by rfl, ?_⟩) (by with_reducible assumption) ?_
                      rotate_left
                      · intro w hSw
                        try dsimp only at hSw
                        go_simp
                        try with_reducible rfl
                      try simp only [Act.put]
                      refine wpAnyH_take (i := 21) (v := ?_) rfl (by kernel_rfl) (by kernel_rfl) (by kernel_rfl) (fun _ _ _ h => h) (Or.inl ⟨by rfl, ?_⟩) (by with_reducible assumption) ?_
                      rotate_left
                      · intro w hSw
                        try dsimp only at hSw
                        go_simp
                        try with_reducible rfl
                      try simp only [Act.put]
                      refine wpAnyH_take (i := 22) (v := ?_) rfl (by kernel_rfl) (by kernel_rfl) (by kernel_rfl) (fun _ _ _ h => h) (Or.inl ⟨by rfl, ?_⟩) (by with_reducible assumption) ?_
                      rotate_left
                      · intro w hSw
                        try dsimp only at hSw
                        go_simp
                        try with_reducible rfl
                      try simp only [Act.put]
                      refine wpAnyH_take (i := 23) (v := ?_) rfl (by kernel_rfl) (by kernel_rfl) (by kernel_rfl) (fun _ _ _ h => h) (Or.inl ⟨by rfl, ?_⟩) (by with_reducible assumption) ?_
                      rotate_left
                      · intro w hSw
                        try dsimp only at hSw
                        go_simp
                        try with_reducible rfl
                      try simp only [Act.put]
                      refine wpAnyH_take (i := 24) (v := ?_) rfl (by kernel_rfl) (by kernel_rfl) (by kernel_rfl) (fun _ _ _ h => h) (Or.inl ⟨by rfl, ?_⟩) (by with_reducible assumption) ?_
                      rotate_left
                      · intro w hSw
                        try dsimp only at hSw
                        go_simp
                        try with_reducible rfl
                      try simp only [Act.put]
                      refine wpAnyH_take (i := 25) (v := ?_) rfl (by kernel_rfl) (by kernel_rfl) (by kernel_rfl) (fun _ _ _ h => h) (Or.inl ⟨by rfl, ?_⟩) (by with_reducible assumption) ?_
                      rotate_left
                      · intro w hSw
                        try dsimp only at hSw
                        go_simp
                        try with_reducible rfl
                      try simp only [Act.put]
                      refine wpAnyH_take (i := 26) (v := ?_) rfl (by kernel_rfl) (by kernel_rfl) (by kernel_rfl) (fun _ _ _ h => h) (Or.inl ⟨by rfl, ?_⟩) (by with_reducible assumption) ?_
                      rotate_left
                      · intro w hSw
                        try dsimp only at hSw
                        go_simp
                        try with_reducible rfl
                      try simp only [Act.put]
                      refine wpAnyH_ready (rs := [15, 27]) (by kernel_rfl) (by simp) ?_
                      refine AllReadyH.cons (o := _) rfl (fun K hK => ?_) ?_
                      · go_simp
                        refine hK.out _ _ (hHeld) (fun hHeld => ?_)
                        clear hK K
                        try simp only [Act.put, List.setIfInBounds_toArray, List.set_cons_zero, List.set_cons_succ]
                        refine wpAnyH_ready (rs := [27]) (by kernel_rfl) (by simp) ?_
                        refine AllReadyH.cons (o := _) rfl (fun K hK => ?_) ?_
                        · go_simp
                          refine hK.out _ _ (hHeld) (fun hHeld => ?_)
                          clear hK K
                          try simp only [Act.put, List.setIfInBounds_toArray, List.set_cons_zero, List.set_cons_succ]
                          refine wpAnyH_ready (rs := [28]) (by kernel_rfl) (by simp) ?_
                          refine AllReadyH.cons (o := _) rfl (fun K hK => ?_) ?_
                          · go_simp
                            go_at_call 30
                            refine H30.out.mono ?_
                            rintro e w3 ⟨v3, rfl, hm3, hg3⟩
                            obtain ⟨a3, c3, rfl⟩ := hm3.lit
                            have H3 := Lib.hid (And.intro hm3.l hg3)
                            have y3 := (below_cell H3.out.2 hyV).trans y0
                            clear hm3 hg3
                            refine hK.out _ _ (HSG.out _ H3.out.2) (fun hHeld => ?_)
                            clear hK K
                            try simp only [Act.put, List.setIfInBounds_toArray, List.set_cons_zero, List.set_cons_succ]
                            refine wpAnyH_ready (rs := [29]) (by kernel_rfl) (by simp) ?_
                            refine AllReadyH.cons (o := _) rfl (fun K hK => ?_) ?_
                            · go_simp
                              go_at_call 29
                              refine (HR9.out _ _ _ H3.out.2 H3.out.1).mono ?_
                              rintro e w4 ⟨v4, rfl, hm4, hg4⟩
                              obtain ⟨a4, c4, rfl⟩ := hm4.lit
                              have H4 := Lib.hid (And.intro hm4 (H3.out.2.trans hg4))
                              have y4 := (below_cell H4.out.2 hyV).trans y0
                              have f4 : w4.frozen? ⟨yb, m, none⟩ = false := by obtain ⟨cs, h2, _⟩ := (HDR.out _ H4.out.2).1.s.a2.ex; exact free_of_block h2
                              clear hm4 hg4
                              refine hK.out _ _ (HSG.out _ H4.out.2) (fun hHeld => ?_)
                              clear hK K
                              try simp only [Act.put, List.setIfInBounds_toArray, List.set_cons_zero, List.set_cons_succ]
                              refine wpAnyH_take (i := 30) (v := ?_) rfl (by kernel_rfl) (by kernel_rfl) (by kernel_rfl) (fun _ _ _ h => h) (Or.inl ⟨by rfl, ?_⟩) (by with_reducible assumption) ?_
                              rotate_left
                              · intro w hSw
                                try dsimp only at hSw
                                go_simp
                                try with_reducible rfl
                              try simp only [Act.put, List.setIfInBounds_toArray]
                              refine wpAnyH_ready (rs := [31]) (by kernel_rfl) (by simp) ?_
                              refine AllReadyH.cons (o := _) rfl (fun K hK => ?_) ?_
                              · go_simp
                                refine hK.out _ _ (⟨(cell_set_ne (p := ⟨yb, m, none⟩) HSN.out.2).trans hHeld.1, (cell_set_ne (p := ⟨yb, m, none⟩) HSN.out.2).trans hHeld.2.1, (cell_set_ne (p := ⟨yb, m, none⟩) HSN.out.2).trans hHeld.2.2.1, (cell_set_ne (p := ⟨yb, m, none⟩) hDy).trans hHeld.2.2.2.1, (cell_set_ne (p := ⟨yb, m, none⟩) hDy).trans hHeld.2.2.2.2.1, (cell_set_ne (p := ⟨yb, m, none⟩) hpy).trans hHeld.2.2.2.2.2⟩) (fun hHeld => ?_)
                                clear hK K
                                try simp only [Act.put, List.setIfInBounds_toArray, List.set_cons_zero, List.set_cons_succ]
                                refine wpAnyH_done (by kernel_rfl) ?_ _
                                go_wp2_with fail
                                go_roundw
                                case rel => exact ⟨j + 1, by omega, by go_num, Lib.hid ⟨_, _, HFIN.out _ _ H4.out.2 H4.out.1, (Below.heap_setCell _ _ _ _ hDy).trans (HDR.out _ H4.out.2).2, HPF.out⟩⟩
                                case measure => simp [intOf] <;> omega
                              exact AllReadyH.nil
                            exact AllReadyH.nil
                          exact AllReadyH.nil
                        exact AllReadyH.nil
                      refine AllReadyH.cons (o := _) rfl (fun K hK => ?_) ?_
                      · go_simp
                        refine hK.out _ _ (hHeld) (fun hHeld => ?_)
                        clear hK K
                        try simp only [Act.put, List.setIfInBounds_toArray, List.set_cons_zero, List.set_cons_succ]
                        refine wpAnyH_ready (rs := [15, 28]) (by kernel_rfl) (by simp) ?_
                        refine AllReadyH.cons (o := _) rfl (fun K hK => ?_) ?_
                        · go_simp
                          refine hK.out _ _ (hHeld) (fun hHeld => ?_)
                          clear hK K
                          try simp only [Act.put, List.setIfInBounds_toArray, List.set_cons_zero, List.set_cons_succ]
                          refine wpAnyH_ready (rs := [28]) (by kernel_rfl) (by simp) ?_
                          refine AllReadyH.cons (o := _) rfl (fun K hK => ?_) ?_
                          · go_simp
                            go_at_call 30
                            refine H30.out.mono ?_
                            rintro e w3 ⟨v3, rfl, hm3, hg3⟩
                            obtain ⟨a3, c3, rfl⟩ := hm3.lit
                            have H3 := Lib.hid (And.intro hm3.l hg3)
                            have y3 := (below_cell H3.out.2 hyV).trans y0
                            clear hm3 hg3
                            refine hK.out _ _ (HSG.out _ H3.out.2) (fun hHeld => ?_)
                            clear hK K
                            try simp only [Act.put, List.setIfInBounds_toArray, List.set_cons_zero, List.set_cons_succ]
                            refine wpAnyH_ready (rs := [29]) (by kernel_rfl) (by simp) ?_
                            refine AllReadyH.cons (o := _) rfl (fun K hK => ?_) ?_
                            · go_simp
                              go_at_call 29
                              refine (HR9.out _ _ _ H3.out.2 H3.out.1).mono ?_
                              rintro e w4 ⟨v4, rfl, hm4, hg4⟩
                              obtain ⟨a4, c4, rfl⟩ := hm4.lit
                              have H4 := Lib.hid (And.intro hm4 (H3.out.2.trans hg4))
                              have y4 := (below_cell H4.out.2 hyV).trans y0
                              have f4 : w4.frozen? ⟨yb, m, none⟩ = false := by obtain ⟨cs, h2, _⟩ := (HDR.out _ H4.out.2).1.s.a2.ex; exact free_of_block h2
                              clear hm4 hg4
                              refine hK.out _ _ (HSG.out _ H4.out.2) (fun hHeld => ?_)
                              clear hK K
                              try simp only [Act.put, List.setIfInBounds_toArray, List.set_cons_zero, List.set_cons_succ]
                              refine wpAnyH_take (i := 30) (v := ?_) rfl (by kernel_rfl) (by kernel_rfl) (by kernel_rfl) (fun _ _ _ h => h) (Or.inl ⟨by rfl, ?_⟩) (by with_reducible assumption) ?_
                              rotate_left
                              · intro w hSw
                                try dsimp only at hSw
                                go_simp
                                try with_reducible rfl
                              try simp only [Act.put, List.setIfInBounds_toArray]
                              refine wpAnyH_ready (rs := [31]) (by kernel_rfl) (by simp) ?_
                              refine AllReadyH.cons (o := _) rfl (fun K hK => ?_) ?_
                              · go_simp
                                refine hK.out _ _ (⟨(cell_set_ne (p := ⟨yb, m, none⟩) HSN.out.2).trans hHeld.1, (cell_set_ne (p := ⟨yb, m, none⟩) HSN.out.2).trans hHeld.2.1, (cell_set_ne (p := ⟨yb, m, none⟩) HSN.out.2).trans hHeld.2.2.1, (cell_set_ne (p := ⟨yb, m, none⟩) hDy).trans hHeld.2.2.2.1, (cell_set_ne (p := ⟨yb, m, none⟩) hDy).trans hHeld.2.2.2.2.1, (cell_set_ne (p := ⟨yb, m, none⟩) hpy).trans hHeld.2.2.2.2.2⟩) (fun hHeld => ?_)
                                clear hK K
                                try simp only [Act.put, List.setIfInBounds_toArray, List.set_cons_zero, List.set_cons_succ]
                                refine wpAnyH_done (by kernel_rfl) ?_ _
                                go_wp2_with fail
                                go_roundw
                                case rel => exact ⟨j + 1, by omega, by go_num, Lib.hid ⟨_, _, HFIN.out _ _ H4.out.2 H4.out.1, (Below.heap_setCell _ _ _ _ hDy).trans (HDR.out _ H4.out.2).2, HPF.out⟩⟩
                                case measure => simp [intOf] <;> omega
                              exact AllReadyH.nil
                            exact AllReadyH.nil
                          exact AllReadyH.nil
                        refine AllReadyH.cons (o := _) rfl (fun K hK => ?_) ?_
                        · go_simp
                          go_at_call 30
                          refine H30.out.mono ?_
                          rintro e w3 ⟨v3, rfl, hm3, hg3⟩
                          obtain ⟨a3, c3, rfl⟩ := hm3.lit
                          have H3 := Lib.hid (And.intro hm3.l hg3)
                          have y3 := (below_cell H3.out.2 hyV).trans y0
                          clear hm3 hg3
                          refine hK.out _ _ (HSG.out _ H3.out.2) (fun hHeld => ?_)
                          clear hK K
                          try simp only [Act.put, List.setIfInBounds_toArray, List.set_cons_zero, List.set_cons_succ]
                          refine wpAnyH_ready (rs := [15]) (by kernel_rfl) (by simp) ?_
                          refine AllReadyH.cons (o := _) rfl (fun K hK => ?_) ?_
                          · go_simp
                            refine hK.out _ _ (hHeld) (fun hHeld => ?_)
                            clear hK K
                            try simp only [Act.put, List.setIfInBounds_toArray, List.set_cons_zero, List.set_cons_succ]
                            refine wpAnyH_ready (rs := [29]) (by kernel_rfl) (by simp) ?_
                            refine AllReadyH.cons (o := _) rfl (fun K hK => ?_) ?_
                            · go_simp
                              go_at_call 29
                              refine (HR9.out _ _ _ H3.out.2 H3.out.1).mono ?_
                              rintro e w4 ⟨v4, rfl, hm4, hg4⟩
                              obtain ⟨a4, c4, rfl⟩ := hm4.lit
                              have H4 := Lib.hid (And.intro hm4 (H3.out.2.trans hg4))
                              have y4 := (below_cell H4.out.2 hyV).trans y0
                              have f4 : w4.frozen? ⟨yb, m, none⟩ = false := by obtain ⟨cs, h2, _⟩ := (HDR.out _ H4.out.2).1.s.a2.ex; exact free_of_block h2
                              clear hm4 hg4
                              refine hK.out _ _ (HSG.out _ H4.out.2) (fun hHeld => ?_)
                              clear hK K
                              try simp only [Act.put, List.setIfInBounds_toArray, List.set_cons_zero, List.set_cons_succ]
                              refine wpAnyH_take (i := 30) (v := ?_) rfl (by kernel_rfl) (by kernel_rfl) (by kernel_rfl) (fun _ _ _ h => h) (Or.inl ⟨by rfl, ?_⟩) (by with_reducible assumption) ?_
                              rotate_left
                              · intro w hSw
                                try dsimp only at hSw
                                go_simp
                                try with_reducible rfl
                              try simp only [Act.put, List.setIfInBounds_toArray]
                              refine wpAnyH_ready (rs := [31]) (by kernel_rfl) (by simp) ?_
                              refine AllReadyH.cons (o := _) rfl (fun K hK => ?_) ?_
                              · go_simp
                                refine hK.out _ _ (⟨(cell_set_ne (p := ⟨yb, m, none⟩) HSN.out.2).trans hHeld.1, (cell_set_ne (p := ⟨yb, m, none⟩) HSN.out.2).trans hHeld.2.1, (cell_set_ne (p := ⟨yb, m, none⟩) HSN.out.2).trans hHeld.2.2.1, (cell_set_ne (p := ⟨yb, m, none⟩) hDy).trans hHeld.2.2.2.1, (cell_set_ne (p := ⟨yb, m, none⟩) hDy).trans hHeld.2.2.2.2.1, (cell_set_ne (p := ⟨yb, m, none⟩) hpy).trans hHeld.2.2.2.2.2⟩) (fun hHeld => ?_)
                                clear hK K
                                try simp only [Act.put, List.setIfInBounds_toArray, List.set_cons_zero, List.set_cons_succ]
                                refine wpAnyH_done (by kernel_rfl) ?_ _
                                go_wp2_with fail
                                go_roundw
                                case rel => exact ⟨j + 1, by omega, by go_num, Lib.hid ⟨_, _, HFIN.out _ _ H4.out.2 H4.out.1, (Below.heap_setCell _ _ _ _ hDy).trans (HDR.out _ H4.out.2).2, HPF.out⟩⟩
                                case measure => simp [intOf] <;> omega
                              exact AllReadyH.nil
                            exact AllReadyH.nil
                          exact AllReadyH.nil
                        exact AllReadyH.nil
                      exact AllReadyH.nil
                    · clear hI3
                      go_wp2_with fail
                      go_roundw
                      case rel => exact ⟨j + 1, by omega, by go_num, Lib.hid ⟨F3, Fo3, HI3.out, HD3.out, HP4.out.imp (fun _ _ hp => ⟨hp.1, done_on hp.2 HXJ.out (fun h => absurd h h0)⟩)⟩⟩
                      case measure => simp [intOf]; omega
                  · have hji : ¬ (j : Int) < xs.length := by omega
                    obtain rfl : j = xs.length := by omega
                    clear hI3
                    go_wp2_with fail
                    go_roundw
                    case rel => exact ⟨k + 1, by omega, by go_num, Lib.hid ⟨F3, Fo3, HI3.out, HP4.out.imp (fun _ _ hp => done_all HRK.out hp.1.1 hp.1.2 hp.2)⟩⟩
                    case measure => simp [intOf]; omega
              · have hki : ¬ (k : Int) < g.rules.length := by omega
                have e : (rulesOf g).take k = rulesOf g := List.take_of_length_le (by unfold rulesOf; simp; omega)
                rw [e] at HP1
                clear hI1
                go_wp2_with fail
                go_roundw
                case rel => exact ⟨(N : Int), rfl, by omega, by omega, by omega, Lib.hid ⟨F1, Fo1, HI1.out, by have := HP1.out.1; omega, fun he => by
                  obtain ⟨h1, h2, h3⟩ := HP1.out.2 (by omega)
                  rw [h1, h2]
                  exact h3⟩⟩
                case measure => simp [intOf] <;> omega
        · obtain rfl : bN = (N : Int) := by omega
          go_wp2_with (first
            | (go_at_call 28; refine (HW9.out _ (Below.refl _ _)).mono ?_; rintro e w9 ⟨rfl, hg9⟩
               have H9 := Lib.hid hg9
               have t0 := (below_cell hg9 hsz).trans s0
               have t1 := (below_cell hg9 hsz).trans s1
               have t2 := (below_cell hg9 hsz).trans s2
               have HQ := Lib.hid ((H9.out.block _ hrb).trans HRB.out)
               have r0 : w9.cell? ⟨w.heap.size + 1, 0, none⟩ = some (.int .i64 0) := cell_of_block (off := 0) HQ.out
               have r1 : w9.cell? ⟨w.heap.size + 1, 1, none⟩ = some (.slice none 0 0) := cell_of_block (off := 1) HQ.out
               have r2 : w9.cell? ⟨w.heap.size + 1, 2, none⟩ = some (.slice none 0 0) := cell_of_block (off := 2) HQ.out
               have fr0 : w9.frozen? ⟨w.heap.size + 1, 0, none⟩ = false := free_of_block HQ.out
               have fr1 : w9.frozen? ⟨w.heap.size + 1, 1, none⟩ = false := free_of_block HQ.out
               have fr2 : w9.frozen? ⟨w.heap.size + 1, 2, none⟩ = false := free_of_block HQ.out
               clear hg9))
          have HV := Lib.hid (show ((((w9.setCell ⟨w.heap.size + 1, 0, none⟩ (.int .i64 K)).setCell ⟨w.heap.size + 1, 1, none⟩ (.slice (some ⟨xb, 0, none⟩) g.vars.length cx)).setCell ⟨w.heap.size + 1, 2, none⟩ (.slice (some ⟨yb, 0, none⟩) g.vars.length cy))).heap[w.heap.size + 1]? = some (.cells #[.int .i64 K, .slice (some ⟨xb, 0, none⟩) g.vars.length cx, .slice (some ⟨yb, 0, none⟩) g.vars.length cy] 31 (0, 0)) from by
            have := heap_setCell_known (off := 2) (u := .slice (some ⟨yb, 0, none⟩) g.vars.length cy) (heap_setCell_known (off := 1) (u := .slice (some ⟨xb, 0, none⟩) g.vars.length cx) (heap_setCell_known (off := 0) (u := .int .i64 K) HQ.out))
            simpa using this)
          have HKQ := Lib.hid ((((kept_of_below H9.out (· = w.heap.size + 1)).setCell (p := ⟨w.heap.size + 1, 0, none⟩) (.inl rfl) (.int .i64 K)).setCell (p := ⟨w.heap.size + 1, 1, none⟩) (.inl rfl) (.slice (some ⟨xb, 0, none⟩) g.vars.length cx)).setCell (p := ⟨w.heap.size + 1, 2, none⟩) (.inl rfl) (.slice (some ⟨yb, 0, none⟩) g.vars.length cy))
          generalize (((w9.setCell ⟨w.heap.size + 1, 0, none⟩ (.int .i64 K)).setCell ⟨w.heap.size + 1, 1, none⟩ (.slice (some ⟨xb, 0, none⟩) g.vars.length cx)).setCell ⟨w.heap.size + 1, 2, none⟩ (.slice (some ⟨yb, 0, none⟩) g.vars.length cy)) = W11 at *
          have g0 : W11.cell? ⟨w.heap.size + 1, 0, none⟩ = some (.int .i64 K) := cell_of_block (off := 0) HV.out
          have g1 : W11.cell? ⟨w.heap.size + 1, 1, none⟩ = some (.slice (some ⟨xb, 0, none⟩) g.vars.length cx) := cell_of_block (off := 1) HV.out
          have g2 : W11.cell? ⟨w.heap.size + 1, 2, none⟩ = some (.slice (some ⟨yb, 0, none⟩) g.vars.length cy) := cell_of_block (off := 2) HV.out
          refine bodyPost_ret (v := .tuple #[.agg #[.int .i64 K, .slice (some ⟨xb, 0, none⟩) g.vars.length cx, .slice (some ⟨yb, 0, none⟩) g.vars.length cy], .bool true]) (by simp [results, Try.results9, go_sem, g0, g1, g2]) rfl ?_
          obtain ⟨hc1, hc2⟩ := closed_of_done HI.out.st.z (shortK (by omega) HI.out.st.d) (HDN.out trivial)
          exact ⟨Below.trans (HI.out.grow HG7.out (by omega)) (HKQ.out.below (B := w.heap.size) (HI.out.grow HG7.out (by omega)).size (fun i hi e => by have e : i = w.heap.size + 1 := e; omega)), .inl ⟨xb, cx, yb, cy, F, Fo, rfl, arr_k31 HI.out.s.a1 HKQ.out HRB.out, arr_k31 HI.out.s.a2 HKQ.out HRB.out, HI.out.st, hc1, hc2, by rw [hN0]; exact hb3⟩⟩
end Go.Proofs.Ytmiiolgbjicocaa
