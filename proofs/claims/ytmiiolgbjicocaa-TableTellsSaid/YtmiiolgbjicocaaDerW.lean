/- Derivations: the program's functions of layer 7. -/
import Derived.Test.YtmiiolgbjicocaaS1
import Derived.Test.YtmiiolgbjicocaaRight
import Derived.Test.YtmiiolgbjicocaaQuietTail
import Derived.Deep.AppendLies
import Derived.Deep.LoopGhost
import Derived.Deep.RegionLaw
namespace Go.Proofs.Ytmiiolgbjicocaa.Dv
open Go.RowKit
def isv (s : Int) : Bool := decide (0 ≤ s)
def firstV (form : List Int) : Nat := form.findIdx isv
def atV (form : List Int) : Int := if firstV form < form.length then (firstV form : Nat) else -1
def leadL (form : List Int) : List Int := (form.take (firstV form)).map nt
theorem firstV_at {form : List Int} {k : Nat} (hk : k < form.length) (h : k ≤ firstV form) (hv : 0 ≤ form[k]) : firstV form = k := by
  refine Nat.le_antisymm (Nat.le_of_not_lt (fun hl => ?_)) h
  have := List.not_of_lt_findIdx hl
  simp [isv] at this
  omega
theorem firstV_on {form : List Int} {k : Nat} (hk : k < form.length) (h : k ≤ firstV form) (hv : form[k] < 0) : k + 1 ≤ firstV form := by
  rcases Nat.lt_or_ge k (firstV form) with hl | hl
  · exact hl
  · have e : firstV form = k := Nat.le_antisymm hl h
    have h2 := List.findIdx_getElem (w := by show firstV form < _; rw [e]; exact hk) (p := isv) (xs := form)
    have e' : form.findIdx isv = k := e
    simp only [e'] at h2
    simp [isv] at h2
    omega
theorem firstV_end {form : List Int} (h : form.length ≤ firstV form) : firstV form = form.length := Nat.le_antisymm List.findIdx_le_length h
theorem isVar_any (s : Int) (w : World) : Calls Try.prog 49 #[.int .i64 s] w fun e w' => e = .returned (.bool (isv s)) ∧ w = w' := by
  unfold isv
  go_enter Try.func49, Try.ntmps49
  go_wp2
  go_ret
  exact ⟨rfl, rfl⟩
def LeadPost (form : List Int) (w : World) (e : Ending) (w' : World) : Prop :=
  ∃ v, e = .returned (.tuple #[v, .int .i64 (atV form)]) ∧ Own w' w.heap.size v (leadL form) ∧ Below w.heap.size w w'
set_option maxHeartbeats 400000 in
theorem lead_any {B : Nat} {a : Option Addr} {cap : Nat} {form : List Int} {w : World} (h : Ints w B a form) (hB : B ≤ w.heap.size) (hl : form.length ≤ 1000000) :
    Calls Try.prog 23 #[.slice a form.length cap] w (LeadPost form w) := by
  have H := Lib.hid h
  clear h
  have hx := nt_run
  go_enter Try.func23, Try.ntmps23
  go_wp2
  go_loopw [4, 9] (fun v i wr => ∃ k : Nat, k ≤ form.length ∧ i = .int .i64 k ∧ Hid (k ≤ firstV form ∧ Own wr w.heap.size v ((form.take k).map nt) ∧ Below w.heap.size w wr)) (fun _ i _ => form.length - (intOf i).toNat)
  case atStart => exact ⟨0, by omega, rfl, Nat.zero_le _, own_nil _ _, Below.refl _ _⟩
  case round =>
    obtain ⟨k, hk, rfl, hf⟩ := hrel
    by_cases hlt : k < form.length
    · obtain ⟨b, off, rfl, hb, hc⟩ := (H.out.below (hf.out.2.2.mono hB)) k hlt
      by_cases hv : 0 ≤ form[k]
      · have hiv : isv form[k] = true := by simp [isv, hv]
        have HI := fun W => Lib.hid (isVar_any form[k] W)
        rw [hiv] at HI
        have HV := Lib.hid (firstV_at hlt hf.out.1 hv)
        clear hiv
        go_wp2_with (first | (go_at_call 49; refine (HI _).out.mono ?_; rintro e w' ⟨rfl, rfl⟩))
        go_ret2
        have e1 : atV form = (k : Int) := by unfold atV; rw [HV.out, if_pos hlt]
        have e2 : leadL form = (form.take k).map nt := by unfold leadL; rw [HV.out]
        exact ⟨_, by rw [e1]; rfl, by rw [e2]; exact hf.out.2.1, hf.out.2.2⟩
      · have hiv : isv form[k] = false := by simp [isv]; omega
        have HI := fun W => Lib.hid (isVar_any form[k] W)
        rw [hiv] at HI
        have HV := Lib.hid (firstV_on hlt hf.out.1 (by omega))
        have HT := Lib.hid (show (form.take (k + 1)).map nt = (form.take k).map nt ++ [nt form[k]] by rw [List.take_succ_eq_append_getElem hlt, List.map_append]; rfl)
        clear hiv
        have hszr := hf.out.2.2.size
        have hlk : ((form.take k).map nt).length ≤ 1000000 := by simp; omega
        go_wp2_with (first
          | (go_at_call 49; refine (HI _).out.mono ?_; rintro e w' ⟨rfl, rfl⟩)
          | (at_builtin; (refine append_ints rfl _ _ 26 rfl Try.underlying26 info3 w.heap.size _ ((form.take k).map nt) rfl (hf.out.2.1.alloc _) (some ⟨_, 0, none⟩) 1 1 [nt form[k]] rfl rfl (fun h => by cases h) (src_one _ _ _) (by simp only [List.length_singleton]; omega) (by simp only [World.size_alloc]; omega) ?_); intro v' w1 hown hgrow))
        go_roundw
        case rel => exact ⟨k + 1, by omega, by go_num, HV.out, by rw [HT.out]; exact hown, (hf.out.2.2.alloc hszr _).trans (below_grown (hf.out.2.1.alloc _) hgrow (by simp only [World.size_alloc]; omega))⟩
        case measure => simp [intOf]; omega
    · have HV := Lib.hid (firstV_end (by have := hf.out.1; omega : form.length ≤ firstV form))
      go_wp2
      go_ret2
      have e1 : atV form = -1 := by unfold atV; rw [HV.out, if_neg (by omega)]
      have e2 : leadL form = (form.take k).map nt := by unfold leadL; rw [HV.out, List.take_of_length_le (by omega), List.take_of_length_le (by omega)]
      exact ⟨_, by rw [e1]; rfl, by rw [e2]; exact hf.out.2.1, hf.out.2.2⟩
end Go.Proofs.Ytmiiolgbjicocaa.Dv

namespace Go.Proofs.Ytmiiolgbjicocaa.Dv
open Go.RowKit
def stepS (g : GramD) (form : List Int) (rule : Int) : List Int × Int :=
  if rule < 0 ∨ (g.rules.length : Int) ≤ rule then ([], 12)
  else if h : firstV form < form.length ∧ rule.toNat < g.rules.length then
    if form[firstV form]'h.1 = (g.rules[rule.toNat]'h.2).left then (form.take (firstV form) ++ (g.rules[rule.toNat]'h.2).right ++ form.drop (firstV form + 1), 0) else ([], 14)
  else ([], 13)
def StepPost (base : World) (r : List Int × Int) (e : Ending) (w' : World) : Prop :=
  ∃ v, e = .returned (.tuple #[v, .int .i64 r.2]) ∧ Own w' base.heap.size v r.1 ∧ Below base.heap.size base w'
theorem stepPost_err {w w' : World} {r : List Int × Int} {n : Int} (h : r = ([], n)) (hb : Below w.heap.size w w') : StepPost w r (.returned (.tuple #[.slice none 0 0, .int .i64 n])) w' := by
  subst h
  exact ⟨_, rfl, own_nil _ _, hb⟩
end Go.Proofs.Ytmiiolgbjicocaa.Dv

namespace Go
open Go.RowKit
/-- In block rb: the grammar's three slices, what is done, what is left (turned round). -/
structure RunAt (B rb : Nat) (g : GramD) (dv lv : Value) (dn lf : List Int) (w : World) : Prop where
  blk : w.heap[rb]? = some (.cells #[.slice g.ta g.terms.length g.tc, .slice g.va g.vars.length g.vc, .slice g.ra g.rules.length g.rc, dv, lv] 123 (0, 0))
  down : Own w (rb + 1) dv dn
  lown : Own w (rb + 1) lv lf
  far : ∀ k, dv.ownBlock = some k → lv.ownBlock ≠ some k
  gram : GramAt w B g
  low : B ≤ rb
theorem own_ge {w : World} {base : Nat} {v : Value} {xs : List Int} (h : Own w base v xs) {k : Nat} (hk : v.ownBlock = some k) : base ≤ k := (h.lt hk).2
/-- Behind a turn that leaves all old blocks as they were. -/
theorem RunAt.next {B rb : Nat} {g : GramD} {dv lv : Value} {dn lf : List Int} {w w' : World} (h : RunAt B rb g dv lv dn lf w) (hb : Below w.heap.size w w') : RunAt B rb g dv lv dn lf w' :=
  ⟨(hb.block _ (lt_of_block h.blk)).trans h.blk, h.down.below hb, h.lown.below hb, h.far, h.gram.below (hb.mono (by have := lt_of_block h.blk; have := h.low; omega)), h.low⟩
theorem own_slot {w : World} {base : Nat} {v u : Value} {xs : List Int} (h : Own w base v xs) {b off : Nat} (hb : b < base) : Own (w.setCell ⟨b, off, none⟩ u) base v xs :=
  h.kept (fun k hk => Below.heap_setCell _ _ _ _ (by have := own_ge h hk; simp only; omega))
/-- Something was appended to what is left. -/
theorem RunAt.pushL {B rb : Nat} {g : GramD} {dv lv lv' : Value} {dn lf lf' : List Int} {w wa w1 : World} (h : RunAt B rb g dv lv dn lf w) (ha : Below w.heap.size w wa) (hg : wa.grownBy w1 lv.ownBlock)
    (hat : ∀ k, lv'.ownBlock = some k → lv.ownBlock = some k ∨ w.heap.size ≤ k) (hown : Own w1 (rb + 1) lv' lf') :
    RunAt B rb g dv lv' dn lf' (w1.setCell ⟨rb, 4, none⟩ lv') := by
  have hr := lt_of_block h.blk
  have hk : ∀ k, k < w.heap.size → lv.ownBlock ≠ some k → w1.heap[k]? = w.heap[k]? := fun k hk hne =>
    (hg.block k (by have := ha.size; omega) (fun e => hne e.symm)).trans (ha.block k hk)
  have hne : lv.ownBlock ≠ some rb := fun e => by have := own_ge h.lown e; omega
  have hB : Below B w w1 := (ha.mono (by have := h.low; omega)).trans ⟨hg.os, hg.tape, hg.output, hg.size, fun k hk => hg.block k (by have := ha.size; have := h.low; omega) (fun e => by have := own_ge h.lown e.symm; have := h.low; omega)⟩
  refine ⟨?_, ?_, own_slot hown (by omega), ?_, ?_, h.low⟩
  · have := heap_setCell_known (off := 4) (u := lv') ((hk rb hr hne).trans h.blk)
    simpa using this
  · refine own_slot ?_ (by omega)
    exact h.down.kept (fun k hkk => hk k (h.down.lt hkk).1 (h.far k hkk))
  · intro k hkk e
    rcases hat k e with hh | hh
    · exact h.far k hkk hh
    · have := (h.down.lt hkk).1; omega
  · exact h.gram.below (hB.trans ⟨rfl, rfl, rfl, by simp [World.setCell], fun k hk => Below.heap_setCell _ _ _ _ (by have := h.low; simp only; omega)⟩)
/-- Something was appended to what is done. -/
theorem RunAt.pushD {B rb : Nat} {g : GramD} {dv lv dv' : Value} {dn lf dn' : List Int} {w wa w1 : World} (h : RunAt B rb g dv lv dn lf w) (ha : Below w.heap.size w wa) (hg : wa.grownBy w1 dv.ownBlock)
    (hat : ∀ k, dv'.ownBlock = some k → dv.ownBlock = some k ∨ w.heap.size ≤ k) (hown : Own w1 (rb + 1) dv' dn') :
    RunAt B rb g dv' lv dn' lf (w1.setCell ⟨rb, 3, none⟩ dv') := by
  have hr := lt_of_block h.blk
  have hk : ∀ k, k < w.heap.size → dv.ownBlock ≠ some k → w1.heap[k]? = w.heap[k]? := fun k hk hne =>
    (hg.block k (by have := ha.size; omega) (fun e => hne e.symm)).trans (ha.block k hk)
  have hne : dv.ownBlock ≠ some rb := fun e => by have := own_ge h.down e; omega
  have hB : Below B w w1 := (ha.mono (by have := h.low; omega)).trans ⟨hg.os, hg.tape, hg.output, hg.size, fun k hk => hg.block k (by have := ha.size; have := h.low; omega) (fun e => by have := own_ge h.down e.symm; have := h.low; omega)⟩
  refine ⟨?_, own_slot hown (by omega), ?_, ?_, ?_, h.low⟩
  · have := heap_setCell_known (off := 3) (u := dv') ((hk rb hr hne).trans h.blk)
    simpa using this
  · refine own_slot ?_ (by omega)
    exact h.lown.kept (fun k hkk => hk k (h.lown.lt hkk).1 (fun e => h.far k e hkk))
  · intro k hkk e
    rcases hat k hkk with hh | hh
    · exact h.far k hh e
    · have := (h.lown.lt e).1; omega
  · exact h.gram.below (hB.trans ⟨rfl, rfl, rfl, by simp [World.setCell], fun k hk => Below.heap_setCell _ _ _ _ (by have := h.low; simp only; omega)⟩)
/-- The last of what is left was taken off. -/
theorem RunAt.pop {B rb : Nat} {g : GramD} {dv : Value} {a : Option Addr} {n cap : Nat} {dn lf : List Int} {w : World} (h : RunAt B rb g dv (.slice a (n + 1) cap) dn lf w) :
    RunAt B rb g dv (.slice a n cap) dn (lf.take n) (w.setCell ⟨rb, 4, none⟩ (.slice a n cap)) := by
  have hr := lt_of_block h.blk
  have hbel : Below rb w (w.setCell ⟨rb, 4, none⟩ (.slice a n cap)) := ⟨rfl, rfl, rfl, by simp [World.setCell], fun k hk => Below.heap_setCell _ _ _ _ (by simp only; omega)⟩
  refine ⟨?_, own_slot h.down (by omega), ?_, ?_, h.gram.below (hbel.mono h.low), h.low⟩
  · have := heap_setCell_known (off := 4) (u := .slice a n cap) h.blk
    simpa using this
  · refine own_slot ?_ (by omega)
    obtain ⟨h1, h2⟩ := h.lown
    rcases h2 with ⟨h2, h0⟩ | ⟨gb, cap', cur, hv, hg, hh, hn, hc, hsz, htk⟩
    · injection h2 with e1 e2 e3; omega
    · injection hv with e1 e2 e3
      subst e1 e3
      have hl : (lf.take n).length = n := by simp; omega
      refine ⟨by simp, .inr ⟨gb, cap, cur, by rw [hl], hg, hh, by omega, hc, hsz, ?_⟩⟩
      rw [hl, List.map_take, ← htk, List.take_take]
      congr 1
      omega
  · intro k hkk e
    refine h.far k hkk ?_
    cases a with
    | none => simp [Value.ownBlock] at e
    | some a => exact e
/-- What lies below the block stays. -/
theorem run_grown {rb : Nat} {v u : Value} {xs : List Int} {w wa w1 : World} {off : Nat} (h : Own w (rb + 1) v xs) (hr : rb ≤ w.heap.size) (ha : Below w.heap.size w wa) (hg : wa.grownBy w1 v.ownBlock) :
    Below rb w (w1.setCell ⟨rb, off, none⟩ u) :=
  ((ha.mono hr).trans ⟨hg.os, hg.tape, hg.output, hg.size, fun k hk => hg.block k (by have := ha.size; omega) (fun e => by have := own_ge h e.symm; omega)⟩).trans
    ⟨rfl, rfl, rfl, by simp [World.setCell], fun k hk => Below.heap_setCell _ _ _ _ (by simp only; omega)⟩
theorem run_slot {rb : Nat} {u : Value} (w : World) {off : Nat} : Below rb w (w.setCell ⟨rb, off, none⟩ u) :=
  ⟨rfl, rfl, rfl, by simp [World.setCell], fun k hk => Below.heap_setCell _ _ _ _ (by simp only; omega)⟩
/-- The block as the walk asks for it. -/
theorem RunAt.cellG {B rb : Nat} {g : GramD} {dv lv : Value} {dn lf : List Int} {w : World} (h : RunAt B rb g dv lv dn lf w) : w.cell? ⟨rb, 2, none⟩ = some (.slice g.ra g.rules.length g.rc) := cell_of_block h.blk
theorem RunAt.cellD {B rb : Nat} {g : GramD} {dv lv : Value} {dn lf : List Int} {w : World} (h : RunAt B rb g dv lv dn lf w) : w.cell? ⟨rb, 3, none⟩ = some dv := cell_of_block h.blk
theorem RunAt.cellL {B rb : Nat} {g : GramD} {dv lv : Value} {dn lf : List Int} {w : World} (h : RunAt B rb g dv lv dn lf w) : w.cell? ⟨rb, 4, none⟩ = some lv := cell_of_block h.blk
end Go

namespace Go.Proofs.Ytmiiolgbjicocaa.Dv
open Go.RowKit
def LayPost (B rb : Nat) (g : GramD) (dn rem : List Int) (w : World) (e : Ending) (w' : World) : Prop :=
  e = .returned (.tuple #[]) ∧ Below rb w w' ∧ ∃ dv lv, RunAt B rb g dv lv (dn ++ rem.take (firstV rem)) (rem.drop (firstV rem)).reverse w'
theorem _root_.Go.RunAt.drew {B rb : Nat} {g : GramD} {dv lv : Value} {dn lf : List Int} {w : World} (h : RunAt B rb g dv lv dn lf w) : RunAt B rb g dv lv dn lf w.drew :=
  h.next ⟨rfl, rfl, rfl, Nat.le_refl _, fun _ _ => rfl⟩
theorem rev_on (form : List Int) (lf : List Int) (k : Nat) (hk : k < form.length) : lf ++ (form.drop (k + 1)).reverse ++ [form[k]] = lf ++ (form.drop k).reverse := by
  rw [List.drop_eq_getElem_cons hk, List.reverse_cons, List.append_assoc]
theorem own_lies {v : Value} {g n cap H s : Nat} (hat : v.ownBlock = some g ∨ g = H) (hs : s ≤ H) : ∀ k, (Value.slice (some ⟨g, 0, none⟩) n cap).ownBlock = some k → v.ownBlock = some k ∨ s ≤ k := fun k hk => by
  simp [Value.ownBlock] at hk
  subst hk
  rcases hat with h | h
  · exact .inl h
  · exact .inr (by omega)
theorem own_row {w : World} {base : Nat} {v : Value} {n : Nat} {ys : List Int} {us : List Value} (h : w.ownsRow base 3 1 v n us) (hn : n = ys.length) (hu : us = ys.map (Value.int .i64)) : Own w base v ys := by
  subst hn hu; exact h
set_option maxRecDepth 100000 in
set_option maxHeartbeats 4000000 in
theorem lay_any {B rb : Nat} {g : GramD} {dv lv : Value} {dn lf : List Int} {w : World} (h : RunAt B rb g dv lv dn lf w) {a : Option Addr} {cap : Nat} {form : List Int} (hf : Ints w B a form) (hl : form.length + lf.length + dn.length ≤ 1000000) :
    Calls Try.prog 72 #[.pointer (some ⟨rb, 0, none⟩), .slice a form.length cap] w (LayPost B rb g dn (form ++ lf.reverse) w) := by
  have H := Lib.hid h
  have HF := Lib.hid hf
  obtain ⟨i0, hi0, hz0, hz1, hz2⟩ := info_parts info3
  clear h hf
  go_enter Try.func72, Try.ntmps72
  go_wp2
  go_loopw [4] (fun i wr => ∃ k lv, k ≤ form.length ∧ i = .int .i64 ((k : Int) - 1) ∧ Hid (RunAt B rb g dv lv dn (lf ++ (form.drop k).reverse) wr ∧ Below rb w wr)) (fun i _ => (intOf i + 1).toNat)
  case atStart => exact ⟨form.length, lv, by omega, rfl, by simpa using H.out, Below.refl _ _⟩
  case round =>
    obtain ⟨k, lv1, hk, rfl, hh⟩ := hrel
    cases k with
    | succ k =>
      have e1 : ((k + 1 : Nat) : Int) - 1 = (k : Int) := by omega
      rw [e1]
      have hki : (k : Int) < form.length := by omega
      have hk0 : (0 : Int) ≤ (k : Int) := by omega
      obtain ⟨b, off, rfl, hb, hc⟩ := (HF.out.below (hh.out.2.mono hh.out.1.low)) k (by omega)
      have hr := lt_of_block hh.out.1.blk
      have HE := Lib.hid (rev_on form lf k (by omega))
      have hLl : (lf ++ (form.drop (k + 1)).reverse).length ≤ 1000000 := by simp; omega
      generalize lf ++ (form.drop (k + 1)).reverse = L at *
      have gL := hh.out.1.cellL
      obtain ⟨la, lc, rfl, hln, hli, hlc, hlc2⟩ := hh.out.1.lown.shape
      have HR := Lib.hid hh.out.1
      have HB := Lib.hid hh.out.2
      clear hh hln hli hlc hlc2
      go_wp2
      have fL : wr.frozen? ⟨rb, 4, none⟩ = false := free_of_block HR.out.blk
      have hlow := HR.out.low
      have hbr : b ≠ rb := by omega
      have hbw : b < wr.heap.size := by omega
      go_region_law
        ((refine step_append_lies _ (by rfl) (.tmp 16) (.tmp 21) 26 (by rfl) (rb + 1) 3 i0 _ 1 8 Try.underlying26 hi0 hz0 hz1 hz2 rfl (by omega) (.slice la L.length lc) L.length _ (by rfl) ((HR.out.lown.alloc _).drew) ⟨wr.heap.size, 0, none⟩ 1 1 [.int .i64 form[k]] (by rfl) (by rfl) (World.news_of_block (cs := #[.int .i64 form[k]]) (t := 3) (fr := (0, 0)) (heap_alloc_new _ _)) (by simp [Value.oneCell']) (by omega) (by simp only [maxLen]; omega) (by omega) (by simp; omega) (wr.heap.size + 1) (by simp) ?_; intro gg cap' w1 hown1 hgrow hat hlt
          have hgL : w1.cell? ⟨rb, 4, none⟩ = some (.slice la L.length lc) := (hgrow.cell ((World.cell?_alloc_past _ _ _ hr).trans gL) (fun e => by have := own_ge HR.out.lown e.symm; simp only at this; omega))
          have hgF : w1.cell? ⟨b, off + k, none⟩ = some (.int .i64 form[k]) := (hgrow.cell ((World.cell?_alloc_past _ _ _ hbw).trans hc) (fun e => by have := own_ge HR.out.lown e.symm; simp only at this; omega))
          have fL2 : w1.frozen? ⟨rb, 4, none⟩ = false := ((hgrow.frozen_far _ (by simp; omega) (fun e => by have := own_ge HR.out.lown e.symm; simp only at this; omega)).trans ((World.frozen?_alloc_past _ _ _ hr).trans fL))))
      all_goals
        go_wp2
        go_roundw
        case rel =>
          have HA : Below wr.heap.size wr (wr.alloc (.cells #[.int .i64 form[k]] 3)).drew := ⟨rfl, rfl, rfl, by simp, fun k hk => Below.heap_alloc _ _ _ hk⟩
          refine ⟨k, .slice (some ⟨gg, 0, none⟩) (L.length + 1) cap', by omega, by go_num, ?_, HB.out.trans (run_grown HR.out.lown (by omega) HA hgrow)⟩
          exact HR.out.pushL HA hgrow (own_lies hat (by omega)) (own_row hown1 (by rw [← HE.out]; simp) (by rw [← HE.out]; simp))
        case measure => simp [intOf]
    | zero =>
      have e0 : ((0 : Nat) : Int) - 1 = -1 := by omega
      rw [e0]
      have HR := Lib.hid hh.out.1
      have HB := Lib.hid hh.out.2
      have hlow := HR.out.low
      have HQ := Lib.hid (show lf ++ (form.drop 0).reverse = (form ++ lf.reverse).reverse by simp)
      rw [HQ.out] at HR
      have hrl : (form ++ lf.reverse).length + dn.length ≤ 1000000 := by simp; omega
      clear hh HQ e0
      generalize form ++ lf.reverse = rem at *
      go_wp2
      go_loopg [] rem.length (fun m ws => ∃ j dv lv, j + m = rem.length ∧ Hid (j ≤ firstV rem ∧ RunAt B rb g dv lv (dn ++ rem.take j) (rem.drop j).reverse ws ∧ Below rb w ws))
      case atStart => exact ⟨0, dv, lv1, by omega, by simp, by simpa using HR.out, HB.out⟩
      case round =>
        clear HR HB
        obtain ⟨j, dv1, lv2, hj, hh2⟩ := hrel
        have hr := lt_of_block hh2.out.2.1.blk
        have fL : wr.frozen? ⟨rb, 4, none⟩ = false := free_of_block hh2.out.2.1.blk
        have fD : wr.frozen? ⟨rb, 3, none⟩ = false := free_of_block hh2.out.2.1.blk
        have gL := hh2.out.2.1.cellL
        have gD := hh2.out.2.1.cellD
        obtain ⟨la, lc, rfl, hln, hli, hlc, hlc2⟩ := hh2.out.2.1.lown.shape
        by_cases hj0 : j = rem.length
        · have hM : (rem.drop j).reverse.length = 0 := by simp; omega
          rw [hM] at gL
          have HE := Lib.hid (show firstV rem = j from Nat.le_antisymm (hj0 ▸ List.findIdx_le_length) hh2.out.1)
          have HP : Hid (Below rb w wr ∧ ∃ dv lv, RunAt B rb g dv lv (dn ++ rem.take (firstV rem)) (rem.drop (firstV rem)).reverse wr) := ⟨hh2.out.2.2, _, _, by rw [HE.out]; exact hh2.out.2.1⟩
          clear hh2 hln hli hM hlc hlc2
          go_wp2
          go_quiet (fail)
          go_wp2
          go_end0
          exact ⟨rfl, HP.out.1.trans ⟨rfl, rfl, rfl, Nat.le_refl _, fun _ _ => rfl⟩, _, _, HP.out.2.choose_spec.choose_spec.next ⟨rfl, rfl, rfl, Nat.le_refl _, fun _ _ => rfl⟩⟩
        · have hjl : j < rem.length := by omega
          obtain ⟨n, hn⟩ : ∃ n, rem.length - j = n + 1 := ⟨rem.length - j - 1, by omega⟩
          have hM : (rem.drop j).reverse.length = n + 1 := by simp; omega
          rw [hM] at gL
          have hx : (rem.drop j).reverse[n]'(by omega) = rem[j] := by
            rw [List.getElem_reverse, List.getElem_drop]
            congr 1
            simp only [List.length_drop]
            omega
          obtain ⟨lb, lo, rfl, hlb, hlx⟩ := hli n (by omega)
          rw [hx] at hlx
          have hn0 : (0 : Int) < ((n + 1 : Nat) : Int) := by omega
          have hn1 : ((n + 1 : Nat) : Int) - 1 = (n : Int) := by omega
          have hn2 : (n : Int) < ((n + 1 : Nat) : Int) := by omega
          have hn3 : (0 : Int) ≤ (n : Int) := by omega
          have HI := fun W => Lib.hid (isVar_any rem[j] W)
          cases hv : isv rem[j]
          · rw [hv] at HI
            have HF1 := Lib.hid (firstV_on hjl hh2.out.1 (by simpa [isv] using hv))
            have HT := Lib.hid (show dn ++ rem.take (j + 1) = dn ++ rem.take j ++ [rem[j]] by rw [List.take_succ_eq_append_getElem hjl, List.append_assoc])
            have HT2 := Lib.hid (show (rem.drop (j + 1)).reverse = (rem.drop j).reverse.take n by
              have e : (rem.drop j).reverse = (rem.drop (j + 1)).reverse ++ [rem[j]] := by rw [List.drop_eq_getElem_cons hjl, List.reverse_cons]
              have el : (rem.drop (j + 1)).reverse.length = n := by simp; omega
              rw [e, List.take_append_of_le_length (by omega), List.take_of_length_le (by omega)])
            have hdl : (dn ++ rem.take j).length ≤ 1000000 := by simp; omega
            rw [hM] at hh2
            have hnc : n + 1 ≤ lc := by omega
            have hn5 : (n : Int) < (n : Int) + 1 := by omega
            have hwr : IntKind.i64.wrap (n : Int) = (n : Int) := by have := hlc; simp only [maxLen] at this; simp [IntKind.wrap, IntKind.bits]; omega
            clear hx hli hln
            generalize dn ++ rem.take j = D at *
            clear hM hlc2
            generalize (rem.drop j).reverse = M at *
            generalize rem[j] = x at *
            have HR2 : ∀ m, Hid (RunAt B rb g dv1 (.slice (some ⟨lb, lo, none⟩) (n + 1) lc) D M (wr.drewN m)) := fun m => hh2.out.2.1.next ⟨rfl, rfl, rfl, Nat.le_refl _, fun _ _ => rfl⟩
            have HB2 : ∀ m, Hid (Below rb w (wr.drewN m)) := fun m => hh2.out.2.2.trans ⟨rfl, rfl, rfl, Nat.le_refl _, fun _ _ => rfl⟩
            obtain ⟨da, dc, rfl, hdn, hdi, hdc, hdc2⟩ := hh2.out.2.1.down.shape
            clear hh2 hlc hv hdn hdi
            go_wp2
            go_quiet (first | (go_at_call 49; exact Calls.quiet_of_same ((HI _).out.mono (fun _ _ h => ⟨h.1, h.2.symm⟩))))
            have HR3 := HR2 nq
            have HB3 := HB2 nq
            have hlx3 : (wr.drewN nq).cell? ⟨lb, lo + n, none⟩ = some (.int .i64 x) := hlx
            have hlb3 : lb < (wr.drewN nq).heap.size := hlb
            clear HR2 HB2 hlx hlb gL gD fL fD hr HI
            generalize wr.drewN nq = W2 at *
            have hr := lt_of_block HR3.out.blk
            have fL : W2.frozen? ⟨rb, 4, none⟩ = false := free_of_block HR3.out.blk
            have fD : W2.frozen? ⟨rb, 3, none⟩ = false := free_of_block HR3.out.blk
            have gL := HR3.out.cellL
            have gD := HR3.out.cellD
            go_wp2
            go_region_law
              ((refine step_append_lies _ (by rfl) (.tmp 51) (.tmp 64) 26 (by rfl) (rb + 1) 3 i0 _ 1 8 Try.underlying26 hi0 hz0 hz1 hz2 rfl (by omega) (.slice da D.length dc) D.length _ (by rfl) ((HR3.out.down.alloc _).drew) ⟨W2.heap.size, 0, none⟩ 1 1 [.int .i64 x] (by rfl) (by rfl) (World.news_of_block (cs := #[.int .i64 x]) (t := 3) (fr := (0, 0)) (heap_alloc_new _ _)) (by simp [Value.oneCell']) (by omega) (by simp only [maxLen]; omega) (by omega) (by simp; omega) (W2.heap.size + 1) (by simp) ?_; intro gg cap' w1 hown1 hgrow hat hlt
                have hgD : w1.cell? ⟨rb, 3, none⟩ = some (.slice da D.length dc) := (hgrow.cell ((World.cell?_alloc_past _ _ _ hr).trans gD) (fun e => by have := own_ge HR3.out.down e.symm; simp only at this; omega))
                have fD2 : w1.frozen? ⟨rb, 3, none⟩ = false := ((hgrow.frozen_far _ (by simp; omega) (fun e => by have := own_ge HR3.out.down e.symm; simp only at this; omega)).trans ((World.frozen?_alloc_past _ _ _ hr).trans fD))))
            all_goals
              have HA : Below W2.heap.size W2 (W2.alloc (.cells #[.int .i64 x] 3)).drew := ⟨rfl, rfl, rfl, by simp, fun k hk => Below.heap_alloc _ _ _ hk⟩
              have HR4 := Lib.hid (HR3.out.pushD HA hgrow (own_lies hat (by omega)) (own_row hown1 (ys := D ++ [x]) (by simp) (by simp)))
              have HB4 := Lib.hid (HB3.out.trans (run_grown (off := 3) (u := .slice (some ⟨gg, 0, none⟩) (D.length + 1) cap') HR3.out.down (by omega) HA hgrow))
              clear HA hgrow hat hown1 hlt hgD fD2 gL gD fL fD
              generalize w1.setCell ⟨rb, 3, none⟩ (.slice (some ⟨gg, 0, none⟩) (D.length + 1) cap') = W4 at *
              have gL := HR4.out.cellL
              have fL : W4.frozen? ⟨rb, 4, none⟩ = false := free_of_block HR4.out.blk
              have HZ : Hid (RunAt B rb g (.slice (some ⟨gg, 0, none⟩) (D.length + 1) cap') (.slice (some ⟨lb, lo, none⟩) n lc) (dn ++ rem.take (j + 1)) (rem.drop (j + 1)).reverse (W4.setCell ⟨rb, 4, none⟩ (.slice (some ⟨lb, lo, none⟩) n lc)).drew) := by
                rw [HT.out, HT2.out]
                exact HR4.out.pop.drew
              go_wp2
              go_region
              go_wp2
              go_roundg (rem.length - (j + 1))
              case rel =>
                exact ⟨j + 1, _, _, by omega, HF1.out, HZ.out, (HB4.out.trans (run_slot _)).drew⟩
              case measure => omega
          · rw [hv] at HI
            have HE := Lib.hid (firstV_at hjl hh2.out.1 (by simpa [isv] using hv))
            have HP : Hid (Below rb w wr ∧ ∃ dv lv, RunAt B rb g dv lv (dn ++ rem.take (firstV rem)) (rem.drop (firstV rem)).reverse wr) := ⟨hh2.out.2.2, _, _, by rw [HE.out]; exact hh2.out.2.1⟩
            clear hh2 hln hli hM hlc hlc2 hv hx
            generalize rem[j] = x at *
            go_wp2
            go_quiet (first | (go_at_call 49; exact Calls.quiet_of_same ((HI _).out.mono (fun _ _ h => ⟨h.1, h.2.symm⟩))))
            go_wp2
            go_end0
            exact ⟨rfl, HP.out.1.trans ⟨rfl, rfl, rfl, Nat.le_refl _, fun _ _ => rfl⟩, _, _, HP.out.2.choose_spec.choose_spec.next ⟨rfl, rfl, rfl, Nat.le_refl _, fun _ _ => rfl⟩⟩
end Go.Proofs.Ytmiiolgbjicocaa.Dv

namespace Go.Proofs.Ytmiiolgbjicocaa.Dv
open Go.RowKit
/-- The state that stands for a form. -/
def RunF (B rb : Nat) (g : GramD) (form : List Int) (w : World) : Prop := ∃ dv lv, RunAt B rb g dv lv (form.take (firstV form)) (form.drop (firstV form)).reverse w
theorem firstV_behind (a b : List Int) (h : ∀ x ∈ a, x < 0) : firstV (a ++ b) = a.length + firstV b := by
  induction a with
  | nil => simp [firstV]
  | cons x t ih =>
    have hx : isv x = false := by have := h x (by simp); simp [isv]; omega
    have ih' := ih (fun y hy => h y (by simp [hy]))
    unfold firstV at ih' ⊢
    rw [List.cons_append, List.findIdx_cons, hx]
    simp only [cond_false, List.length_cons]
    omega
theorem head_terms (form : List Int) : ∀ x ∈ form.take (firstV form), x < 0 := by
  intro x hx
  obtain ⟨i, hi, rfl⟩ := List.getElem_of_mem hx
  have h1 : i < firstV form := by simp at hi; omega
  rw [List.getElem_take]
  have := List.not_of_lt_findIdx (p := isv) (xs := form) h1
  simp [isv] at this
  exact this
theorem runF_of {B rb : Nat} {g : GramD} {dn rem form : List Int} {w : World} (hd : ∀ x ∈ dn, x < 0) (hf : form = dn ++ rem) (h : ∃ dv lv, RunAt B rb g dv lv (dn ++ rem.take (firstV rem)) (rem.drop (firstV rem)).reverse w) : RunF B rb g form w := by
  obtain ⟨dv, lv, h⟩ := h
  refine ⟨dv, lv, ?_⟩
  have e1 : dn.take (dn.length + firstV rem) = dn := List.take_of_length_le (by omega)
  have e2 : dn.drop (dn.length + firstV rem) = [] := List.drop_of_length_le (by omega)
  have e3 : dn.length + firstV rem - dn.length = firstV rem := by omega
  rw [hf, firstV_behind dn rem hd, List.take_append, List.drop_append, e1, e2, e3, List.nil_append]
  exact h
def StepRPost (B rb : Nat) (g : GramD) (r : List Int × Int) (w : World) (e : Ending) (w' : World) : Prop :=
  e = .returned (.int .i64 r.2) ∧ Below rb w w' ∧ (r.2 = 0 → RunF B rb g r.1 w')
theorem stepR_err {B rb : Nat} {g : GramD} {r : List Int × Int} {n : Int} {w w' : World} (h : r = ([], n)) (hn : n ≠ 0) (hb : Below rb w w') : StepRPost B rb g r w (.returned (.int .i64 n)) w' := by
  subst h
  exact ⟨rfl, hb, fun h => (hn h).elim⟩
set_option maxRecDepth 100000 in
set_option maxHeartbeats 4000000 in
theorem stepR_any {B rb : Nat} {g : GramD} {form : List Int} {w : World} (h : RunF B rb g form w) (hsm : Small g) (hl : form.length ≤ 400000) (rule : Int) :
    Calls Try.prog 47 #[.pointer (some ⟨rb, 0, none⟩), .int .i64 rule] w (StepRPost B rb g (stepS g form rule) w) := by
  obtain ⟨dv, lv, hr0⟩ := h
  have HR := Lib.hid hr0
  clear hr0
  have hlr : g.rules.length ≤ 24 := hsm.2.1
  have hrb := lt_of_block HR.out.blk
  have gG := HR.out.cellG
  by_cases c1 : rule < 0
  · have HE := Lib.hid (show stepS g form rule = ([], 12) by unfold stepS; rw [if_pos (.inl c1)])
    go_enter Try.func47, Try.ntmps47
    go_wp2
    go_ret
    exact stepR_err HE.out (by decide) (Below.refl _ _)
  by_cases c2 : (g.rules.length : Int) ≤ rule
  · have HE := Lib.hid (show stepS g form rule = ([], 12) by unfold stepS; rw [if_pos (.inr c2)])
    go_enter Try.func47, Try.ntmps47
    go_wp2
    go_ret
    exact stepR_err HE.out (by decide) (Below.refl _ _)
  obtain ⟨r, rfl⟩ : ∃ r : Nat, rule = r := ⟨rule.toNat, by omega⟩
  have hr : r < g.rules.length := by omega
  have hrn : decide (g.rules.length ≤ r) = false := by simp; omega
  have hrz : decide ((r : Int) < 0) = false := by simp
  by_cases c3 : firstV form < form.length
  · have HE := Lib.hid (show stepS g form r = if form[firstV form] = g.rules[r].left then (form.take (firstV form) ++ g.rules[r].right ++ form.drop (firstV form + 1), 0) else ([], 14) by
      unfold stepS; rw [if_neg (by omega), dif_pos ⟨c3, by simpa using hr⟩]; rfl)
    obtain ⟨n, hn⟩ : ∃ n, form.length - firstV form = n + 1 := ⟨form.length - firstV form - 1, by omega⟩
    have hM : (form.drop (firstV form)).reverse.length = n + 1 := by simp; omega
    have hx : (form.drop (firstV form)).reverse[n]'(by omega) = form[firstV form] := by
      rw [List.getElem_reverse, List.getElem_drop]
      congr 1
      simp only [List.length_drop]
      omega
    have HT2 := Lib.hid (show (form.drop (firstV form)).reverse.take n = (form.drop (firstV form + 1)).reverse by
      have e : (form.drop (firstV form)).reverse = (form.drop (firstV form + 1)).reverse ++ [form[firstV form]] := by rw [List.drop_eq_getElem_cons c3, List.reverse_cons]
      have el : (form.drop (firstV form + 1)).reverse.length = n := by simp; omega
      rw [e, List.take_append_of_le_length (by omega), List.take_of_length_le (by omega)])
    have HD := Lib.hid (head_terms form)
    obtain ⟨la, lc, rfl, hln, hli, hlc, hlc2⟩ := HR.out.lown.shape
    obtain ⟨lb, lo, rfl, hlb, hlx⟩ := hli n (by omega)
    rw [hx] at hlx
    have gL := HR.out.cellL
    rw [hM] at gL
    have fL : w.frozen? ⟨rb, 4, none⟩ = false := free_of_block HR.out.blk
    have hn0 : (0 : Int) < ((n + 1 : Nat) : Int) := by omega
    have hn1 : ((n + 1 : Nat) : Int) - 1 = (n : Int) := by omega
    have hn2 : (n : Int) < ((n + 1 : Nat) : Int) := by omega
    have hn3 : (0 : Int) ≤ (n : Int) := by omega
    have hn5 : (n : Int) < (n : Int) + 1 := by omega
    have hnc : n + 1 ≤ lc := by omega
    have hwr : IntKind.i64.wrap (n : Int) = (n : Int) := by have := hlc; simp only [maxLen] at this; simp [IntKind.wrap, IntKind.bits]; omega
    obtain ⟨b, off, hra, hb1, e1, e2, -, e4, -⟩ := HR.out.gram.rules r hr
    have HR0 : Hid (RunAt B rb g dv (.slice (some ⟨lb, lo, none⟩) (n + 1) lc) (form.take (firstV form)) (form.drop (firstV form)).reverse w) := by rw [← hM]; exact HR
    have hr8 := hsm.2.2 r hr
    have hri : (r : Int) < g.rules.length := by omega
    have hdl : (form.take (firstV form)).length ≤ form.length ∧ (form.drop (firstV form + 1)).reverse.length ≤ form.length := by simp; omega
    clear hM hx hln hli hlc hlc2 HR
    by_cases he : form[firstV form] = g.rules[r].left
    · have he' : (form[firstV form] != g.rules[r].left) = false := by simp [he]
      have HE2 := Lib.hid (HE.out.trans (if_pos he))
      obtain ⟨gta, gterms, gtc, gva, gvars, gvc, gra, rules, grc⟩ := g
      dsimp only at hra e1 e2 e4 hri hlr gG he' hr hrn hr8 HE2
      subst hra
      clear he HE
      have HQ := Lib.hid (show form.take (firstV form) ++ rules[r].right ++ form.drop (firstV form + 1) = form.take (firstV form) ++ (rules[r].right ++ (form.drop (firstV form + 1)).reverse.reverse) by rw [List.append_assoc, List.reverse_reverse])
      generalize form[firstV form] = x at *
      generalize rules[r].left = left at *
      generalize rules[r].right = rg at *
      generalize rules[r].ra = rga at *
      generalize rules[r].rc = rgc at *
      generalize form.take (firstV form) = dn at *
      generalize (form.drop (firstV form)).reverse = M at *
      go_enter Try.func47, Try.ntmps47
      go_wp2
      go_quiet (fail)
      have HR1 := Lib.hid (HR0.out.next (w' := w.drewN nq) ⟨rfl, rfl, rfl, Nat.le_refl _, fun _ _ => rfl⟩)
      have HB1 : Hid (Below rb w (w.drewN nq)) := ⟨rfl, rfl, rfl, Nat.le_refl _, fun _ _ => rfl⟩
      have e2' : (w.drewN nq).cell? ⟨b, off + r * 3 + 1, none⟩ = some (.slice rga rg.length rgc) := e2
      have E4 : Hid (Ints (w.drewN nq) B rga rg) := e4
      have gL' := HR1.out.cellL
      have fL' : (w.drewN nq).frozen? ⟨rb, 4, none⟩ = false := free_of_block HR1.out.blk
      have gG' := HR1.out.cellG
      have hrb' := lt_of_block HR1.out.blk
      clear e1 e2 e4 gL fL gG hrb hlx hlb he' HR0
      generalize w.drewN nq = W2 at *
      go_wp2
      go_region
      have HR3 := Lib.hid (HR1.out.pop.drew)
      have HB3 : Hid (Below rb w (W2.setCell ⟨rb, 4, none⟩ (.slice (some ⟨lb, lo, none⟩) n lc)).drew) := (HB1.out.trans (run_slot _)).drew
      have e3 : (W2.setCell ⟨rb, 4, none⟩ (.slice (some ⟨lb, lo, none⟩) n lc)).drew.cell? ⟨b, off + r * 3 + 1, none⟩ = some (.slice rga rg.length rgc) := by
        have := HR1.out.low
        have hbel : Below rb W2 (W2.setCell ⟨rb, 4, none⟩ (.slice (some ⟨lb, lo, none⟩) n lc)).drew := (run_slot _).drew
        rw [below_cell hbel (by omega)]; exact e2'
      have E5 : Hid (Ints (W2.setCell ⟨rb, 4, none⟩ (.slice (some ⟨lb, lo, none⟩) n lc)).drew B rga rg) := by
        have := HR1.out.low
        have hbel : Below rb W2 (W2.setCell ⟨rb, 4, none⟩ (.slice (some ⟨lb, lo, none⟩) n lc)).drew := (run_slot _).drew
        exact E4.out.below (hbel.mono (by omega))
      rw [HT2.out] at HR3
      clear e2' E4 gL' fL' gG' hrb' HR1 HB1
      generalize (W2.setCell ⟨rb, 4, none⟩ (.slice (some ⟨lb, lo, none⟩) n lc)).drew = W3 at *
      have gG := HR3.out.cellG
      generalize hdrop : (form.drop (firstV form + 1)).reverse = M2 at *
      clear hdrop
      go_wp2_with fail
      refine (lay_any HR3.out E5.out (by omega)).mono ?_
      rintro e w3 ⟨rfl, hb3, hrun⟩
      have HX := Lib.hid (And.intro hb3 hrun)
      clear hb3 hrun
      go_wp2
      go_ret
      refine ⟨by rw [HE2.out]; rfl, HB3.out.trans HX.out.1, fun _ => ?_⟩
      rw [HE2.out]
      exact runF_of HD.out HQ.out HX.out.2
    · have he' : (form[firstV form] != g.rules[r].left) = true := by simp [he]
      have HE2 := Lib.hid (HE.out.trans (if_neg he))
      obtain ⟨gta, gterms, gtc, gva, gvars, gvc, gra, rules, grc⟩ := g
      dsimp only at hra e1 e2 e4 hri hlr gG he' hr hrn
      subst hra
      clear he HE
      generalize form[firstV form] = x at *
      generalize rules[r].left = left at *
      go_enter Try.func47, Try.ntmps47
      go_wp2
      go_quiet (fail)
      go_wp2
      go_ret
      exact stepR_err HE2.out (by decide) ⟨rfl, rfl, rfl, Nat.le_refl _, fun _ _ => rfl⟩
  · have HE := Lib.hid (show stepS g form r = ([], 13) by unfold stepS; rw [if_neg (by omega), dif_neg (fun h => c3 h.1)])
    have hM : (form.drop (firstV form)).reverse.length = 0 := by simp; omega
    obtain ⟨la, lc, rfl, hln, hli, hlc, hlc2⟩ := HR.out.lown.shape
    have gL := HR.out.cellL
    rw [hM] at gL
    clear hln hli hlc hlc2
    go_enter Try.func47, Try.ntmps47
    go_wp2
    go_ret
    exact stepR_err HE.out (by decide) (Below.refl _ _)
end Go.Proofs.Ytmiiolgbjicocaa.Dv

namespace Go.Proofs.Ytmiiolgbjicocaa.Dv
open Go.RowKit
def BeginPost (B : Nat) (g : GramD) (form : List Int) (w : World) (e : Ending) (w' : World) : Prop :=
  ∃ rb, e = .returned (.pointer (some ⟨rb, 0, none⟩)) ∧ w.heap.size ≤ rb ∧ Below w.heap.size w w' ∧ RunF B rb g form w'
set_option maxHeartbeats 1000000 in
theorem begin_any {B : Nat} {g : GramD} {w : World} (h : GramAt w B g) (hB : B ≤ w.heap.size) {a : Option Addr} {cap : Nat} {form : List Int} (hf : Ints w B a form) (hl : form.length ≤ 1000000) :
    Calls Try.prog 46 #[GV g, .slice a form.length cap] w (BeginPost B g form w) := by
  have HS := Lib.hid (boxed_start h hB)
  have HF := Lib.hid hf
  clear h hf
  obtain ⟨gta, gterms, gtc, gva, gvars, gvc, gra, rules, grc⟩ := g
  unfold GV
  dsimp only
  go_enter Try.func46, Try.ntmps46
  go_wp2_with fail
  have HR := Lib.hid (show RunAt B (w.heap.size + 1) ⟨gta, gterms, gtc, gva, gvars, gvc, gra, rules, grc⟩ (.slice none 0 0) (.slice none 0 0) [] [] ((w.alloc (.cells #[.slice gta gterms.length gtc, .slice gva gvars.length gvc, .slice gra rules.length grc] 25)).alloc (.cells #[.slice gta gterms.length gtc, .slice gva gvars.length gvc, .slice gra rules.length grc, .slice none 0 0, .slice none 0 0] 123)) from
    ⟨by have := heap_alloc_this (w.alloc (.cells #[.slice gta gterms.length gtc, .slice gva gvars.length gvc, .slice gra rules.length grc] 25)) (.cells #[.slice gta gterms.length gtc, .slice gva gvars.length gvc, .slice gra rules.length grc, .slice none 0 0, .slice none 0 0] 123); simpa using this, own_nil _ _, own_nil _ _, (fun k hk => by simp [Value.ownBlock] at hk), HS.out.gram.below ((Below.refl _ _).alloc (by simp; omega) _), by omega⟩)
  have HB : Hid (Below w.heap.size w ((w.alloc (.cells #[.slice gta gterms.length gtc, .slice gva gvars.length gvc, .slice gra rules.length grc] 25)).alloc (.cells #[.slice gta gterms.length gtc, .slice gva gvars.length gvc, .slice gra rules.length grc, .slice none 0 0, .slice none 0 0] 123))) :=
    ((Below.refl _ _).alloc (Nat.le_refl _) _).alloc (by simp) _
  refine (lay_any HR.out (HF.out.below (HB.out.mono hB)) (by simpa using hl)).mono ?_
  rintro e w2 ⟨rfl, hb2, hr2⟩
  have HB2 := Lib.hid (HB.out.trans (hb2.mono (by omega)))
  have HR2 := Lib.hid hr2
  clear hb2 hr2
  go_wp2
  go_ret
  refine ⟨_, rfl, by omega, HB2.out, runF_of (dn := []) (by simp) (by simp) HR2.out⟩
def FormPost (form : List Int) (w : World) (e : Ending) (w' : World) : Prop :=
  ∃ v, e = .returned v ∧ Own w' w.heap.size v form ∧ Below w.heap.size w w'
set_option maxHeartbeats 1000000 in
theorem form_any {B rb : Nat} {g : GramD} {form : List Int} {w : World} (h : RunF B rb g form w) (hl : form.length ≤ 1000000) :
    Calls Try.prog 48 #[.pointer (some ⟨rb, 0, none⟩)] w (FormPost form w) := by
  obtain ⟨dv, lv, hr0⟩ := h
  have HR := Lib.hid hr0
  clear hr0
  have hrb := lt_of_block HR.out.blk
  have HQ := Lib.hid (show form.take (firstV form) ++ (form.drop (firstV form)).reverse.reverse = form by simp)
  have hd1 : (form.take (firstV form)).length ≤ 1000000 := by simp; omega
  have hd2 : (form.drop (firstV form)).reverse.length ≤ 1000000 := by simp; omega
  generalize form.take (firstV form) = dn at *
  generalize (form.drop (firstV form)).reverse = L at *
  have gL := HR.out.cellL
  have gD := HR.out.cellD
  obtain ⟨da, dc, rfl, hdn, hdi, hdc, hdc2⟩ := HR.out.down.shape
  obtain ⟨la, lc, rfl, hln, hli, hlc, hlc2⟩ := HR.out.lown.shape
  have HLI := Lib.hid hli
  have HDI := Lib.hid hdi
  have hdz : da = none → dc = 0 := fun h => (hdn h).1
  clear hli hdi hdn hln hdc2 hlc2 hlc hdc
  go_enter Try.func48, Try.ntmps48
  go_wp2_with (first
    | (at_builtin; (refine append_ints rfl (.const (.slice none 0 0)) (.tmp 8) 26 rfl Try.underlying26 info3 w.heap.size (.slice none 0 0) [] rfl (own_nil _ _) da dc dn.length dn rfl rfl hdz HDI.out.src (by simp only [List.length_nil]; omega) (by omega) ?_); intro v1 w1 hown1 hg1; have hb1 := below_grown (base := w.heap.size) (own_nil _ _) hg1 (Nat.le_refl _); have gL1 := (below_cell hb1 (by omega)).trans gL; have HG1 := Lib.hid (And.intro hown1 hb1); clear hown1 hb1 hg1))
  go_loopw [3, 4] (fun v i wr => ∃ k : Nat, k ≤ L.length ∧ i = .int .i64 ((k : Int) - 1) ∧ Hid (Own wr w.heap.size v (dn ++ (L.drop k).reverse) ∧ Below w.heap.size w wr)) (fun _ i _ => (intOf i + 1).toNat)
  case atStart => exact ⟨L.length, by omega, rfl, Lib.hid (by simpa using HG1.out)⟩
  case round =>
    obtain ⟨k, hk, rfl, hh⟩ := hrel
    cases k with
    | succ k =>
      have e1 : ((k + 1 : Nat) : Int) - 1 = (k : Int) := by omega
      rw [e1]
      have hki : (k : Int) < L.length := by omega
      have hk0 : (0 : Int) ≤ (k : Int) := by omega
      obtain ⟨b, off, rfl, hb, hc⟩ := (HLI.out.below hh.out.2) k (by omega)
      have gL2 := (below_cell hh.out.2 hrb).trans gL
      have hsz := hh.out.2.size
      have HE := Lib.hid (rev_on L dn k (by omega))
      have hLl : (dn ++ (L.drop (k + 1)).reverse).length ≤ 2000000 := by simp; omega
      generalize dn ++ (L.drop (k + 1)).reverse = O at *
      clear gL1 gL gD
      go_wp2_with (first
        | (at_builtin; (refine append_ints rfl _ _ 26 rfl Try.underlying26 info3 w.heap.size _ O rfl (hh.out.1.alloc _) (some ⟨_, 0, none⟩) 1 1 [L[k]] rfl rfl (fun h => by cases h) (src_one _ _ _) (by simp only [List.length_singleton]; omega) (by simp only [World.size_alloc]; omega) ?_); intro v' w4 hown hgrow))
      go_roundw
      case rel => exact ⟨k, by omega, by go_num, by rw [← HE.out]; exact hown, (hh.out.2.alloc hsz _).trans (below_grown (hh.out.1.alloc _) hgrow (by simp only [World.size_alloc]; omega))⟩
      case measure => simp [intOf]
    | zero =>
      have e0 : ((0 : Nat) : Int) - 1 = -1 := by omega
      rw [e0]
      clear gL1 gL gD
      go_wp2
      go_ret
      exact ⟨_, rfl, by rw [← HQ.out]; simpa using hh.out.1, hh.out.2⟩
end Go.Proofs.Ytmiiolgbjicocaa.Dv

namespace Go.Proofs.Ytmiiolgbjicocaa.Dv
open Go.RowKit
/-- The forms of a derivation; k steps were done. -/
def repS (g : GramD) : List Int → Nat → List Int → List Int × Nat × Int
  | form, _, [] => (form, 0, 0)
  | form, k, r :: rs => if (stepS g form r).2 = 0 then repS g (stepS g form r).1 (k + 1) rs else ([], k, (stepS g form r).2)
theorem stepS_len (g : GramD) (hsm : Small g) (form : List Int) (rule : Int) : (stepS g form rule).1.length ≤ form.length + 8 := by
  unfold stepS
  split
  · simp
  · split
    · rename_i h
      have := hsm.2.2 rule.toNat h.2
      split
      · simp; omega
      · simp
    · simp
theorem stepS_err (g : GramD) (form : List Int) (rule : Int) : (stepS g form rule).2 = 0 ∨ (stepS g form rule).2 = 12 ∨ (stepS g form rule).2 = 13 ∨ (stepS g form rule).2 = 14 := by
  unfold stepS
  split
  · simp
  · split
    · split <;> simp
    · simp
def ReplayPost (w : World) (r : List Int × Nat × Int) (e : Ending) (w' : World) : Prop :=
  ∃ v, e = .returned (.tuple #[v, .int .i64 r.2.1, .int .i64 r.2.2]) ∧ Own w' w.heap.size v r.1 ∧ Below w.heap.size w w'
set_option maxHeartbeats 1000000 in
theorem replay_any {B : Nat} {g : GramD} {w : World} (h : GramAt w B g) (hB : B ≤ w.heap.size) (hsm : Small g) {a : Option Addr} {cap : Nat} {form : List Int} (hf : Ints w B a form) {a2 : Option Addr} {cap2 : Nat} {rules : List Int} (hr : Ints w B a2 rules)
    (hl : form.length + 8 * rules.length ≤ 400000) (hrl : rules.length ≤ 4096) :
    Calls Try.prog 22 #[GV g, .slice a form.length cap, .slice a2 rules.length cap2] w (ReplayPost w (repS g form 0 rules)) := by
  have HS := Lib.hid (boxed_start h hB)
  have HF := Lib.hid (hf.below ((Below.refl _ _).alloc hB (.cells #[.slice g.ta g.terms.length g.tc, .slice g.va g.vars.length g.vc, .slice g.ra g.rules.length g.rc] 25)))
  have HR := Lib.hid hr
  have HGV := Lib.hid (show GV g = .agg #[.slice g.ta g.terms.length g.tc, .slice g.va g.vars.length g.vc, .slice g.ra g.rules.length g.rc] from rfl)
  have HBg := Lib.hid (begin_any (B := B) (a := a) (cap := cap) (form := form) HS.out.gram (by simp only [World.size_alloc]; omega) HF.out (by omega))
  rw [HGV.out] at HBg
  clear h hf hr
  have hrl' : ¬ (4096 : Int) < rules.length := by omega
  rw [HGV.out]
  go_enter Try.func22, Try.ntmps22
  go_wp2_with fail
  refine HBg.out.mono ?_
  rintro e w1 ⟨rb, rfl, hrb, hb1, hr1⟩
  have H1 := Lib.hid (And.intro (HS.out.below.trans (hb1.mono (by simp only [World.size_alloc]; omega))) hr1)
  simp only [World.size_alloc] at hrb
  clear hb1 hr1
  go_wp2
  go_loopw [21] (fun i wr => ∃ k : Nat, k ≤ rules.length ∧ i = .int .i64 k ∧ Hid (∃ fm, repS g form 0 rules = repS g fm k (rules.drop k) ∧ fm.length ≤ form.length + 8 * k ∧ Below w.heap.size w wr ∧ RunF B rb g fm wr)) (fun i _ => rules.length - (intOf i).toNat)
  case atStart => exact ⟨0, by omega, rfl, form, rfl, by omega, H1.out.1, H1.out.2⟩
  case round =>
    clear H1
    obtain ⟨k, hk, rfl, hh⟩ := hrel
    obtain ⟨fm, hq, hlm, hbw, hrf⟩ := hh.out
    have HH := Lib.hid (And.intro hq (And.intro hbw hrf))
    clear hh hq hbw hrf
    by_cases hlt : k < rules.length
    · have hki : (k : Int) < rules.length := by omega
      obtain ⟨b, off, rfl, hb, hc⟩ := (HR.out.below (HH.out.2.1.mono hB)) k hlt
      have HE := Lib.hid (show repS g form 0 rules = if (stepS g fm rules[k]).2 = 0 then repS g (stepS g fm rules[k]).1 (k + 1) (rules.drop (k + 1)) else ([], k, (stepS g fm rules[k]).2) by
        rw [HH.out.1, List.drop_eq_getElem_cons hlt]; rfl)
      have HSt := Lib.hid (stepR_any HH.out.2.2 hsm (by omega) rules[k])
      have HLn := Lib.hid (stepS_len g hsm fm rules[k])
      generalize rules[k] = rl at *
      generalize stepS g fm rl = st at *
      go_wp2_with fail
      refine HSt.out.mono ?_
      rintro e w2 ⟨rfl, hb2, hr2⟩
      have HX := Lib.hid (And.intro (HH.out.2.1.trans (hb2.mono (by omega))) hr2)
      clear hb2 hr2
      by_cases hz : st.2 = 0
      · have hz' : (st.2 != 0) = false := by simp [hz]
        have HE2 := Lib.hid (HE.out.trans (if_pos hz))
        have HR2 := Lib.hid (HX.out.2 hz)
        rw [hz] at *
        go_wp2
        go_roundw
        case rel => exact ⟨k + 1, by omega, by go_num, st.1, HE2.out, by have := HLn.out; omega, HX.out.1, HR2.out⟩
        case measure => simp [intOf]; omega
      · have hz' : (st.2 != 0) = true := by simp [hz]
        have HE2 := Lib.hid (HE.out.trans (if_neg hz))
        clear hz
        go_wp2
        go_ret3
        exact ⟨_, by rw [HE2.out]; rfl, by rw [HE2.out]; exact own_nil _ _, HX.out.1⟩
    · have hki : ¬ (k : Int) < rules.length := by omega
      have HE := Lib.hid (show repS g form 0 rules = (fm, 0, 0) by rw [HH.out.1, List.drop_of_length_le (by omega)]; rfl)
      go_wp2_with fail
      refine (form_any HH.out.2.2 (by omega)).mono ?_
      rintro e w2 ⟨v, rfl, hown, hb2⟩
      have HX := Lib.hid (And.intro (HH.out.2.1.trans (hb2.mono HH.out.2.1.size)) (own_mono hown HH.out.2.1.size))
      clear hown hb2
      go_wp2
      go_ret3
      exact ⟨_, by rw [HE.out]; rfl, by rw [HE.out]; exact HX.out.2, HX.out.1⟩
end Go.Proofs.Ytmiiolgbjicocaa.Dv

namespace Go.Proofs.Ytmiiolgbjicocaa.Dv
open Go.RowKit
def yieldS (g : GramD) (form rules : List Int) : List Int × Int :=
  if (repS g form 0 rules).2.2 ≠ 0 then ([], (repS g form 0 rules).2.2)
  else if firstV (repS g form 0 rules).1 < (repS g form 0 rules).1.length then ([], 13) else (leadL (repS g form 0 rules).1, 0)
theorem repS_len (g : GramD) (hsm : Small g) : ∀ (rules form : List Int) (k : Nat), (repS g form k rules).1.length ≤ form.length + 8 * rules.length
  | [], form, k => by simp [repS]
  | r :: rs, form, k => by
    unfold repS
    split
    · have h1 := repS_len g hsm rs (stepS g form r).1 (k + 1)
      have h2 := stepS_len g hsm form r
      simp only [List.length_cons]
      omega
    · simp
theorem stepPost_err' {w w' : World} {r : List Int × Int} {n : Int} (h : r = ([], n)) (hb : Below w.heap.size w w') : StepPost w r (.returned (.tuple #[.slice none 0 0, .int .i64 n])) w' := stepPost_err h hb
set_option maxHeartbeats 1000000 in
theorem yield_any {B : Nat} {g : GramD} {w : World} (h : GramAt w B g) (hB : B ≤ w.heap.size) (hsm : Small g) {a : Option Addr} {cap : Nat} {form : List Int} (hf : Ints w B a form) {a2 : Option Addr} {cap2 : Nat} {rules : List Int} (hr : Ints w B a2 rules)
    (hl : form.length + 8 * rules.length ≤ 400000) (hrl : rules.length ≤ 4096) :
    Calls Try.prog 21 #[GV g, .slice a form.length cap, .slice a2 rules.length cap2] w (StepPost w (yieldS g form rules)) := by
  have HS := Lib.hid (boxed_start h hB)
  have HGV := Lib.hid (show GV g = .agg #[.slice g.ta g.terms.length g.tc, .slice g.va g.vars.length g.vc, .slice g.ra g.rules.length g.rc] from rfl)
  have hb0 : Below B w (w.alloc (.cells #[.slice g.ta g.terms.length g.tc, .slice g.va g.vars.length g.vc, .slice g.ra g.rules.length g.rc] 25)) := (Below.refl _ _).alloc hB _
  have HRp := Lib.hid (replay_any (cap := cap) (cap2 := cap2) HS.out.gram (by simp only [World.size_alloc]; omega) hsm (hf.below hb0) (hr.below hb0) hl hrl)
  have HLn := Lib.hid (repS_len g hsm rules form 0)
  rw [HGV.out] at HRp
  clear h hf hr hb0
  rw [HGV.out]
  generalize hY : yieldS g form rules = Y at *
  generalize hq : repS g form 0 rules = r at *
  have HY := Lib.hid (show Y = if r.2.2 ≠ 0 then ([], r.2.2) else if firstV r.1 < r.1.length then ([], 13) else (leadL r.1, 0) by rw [← hY, ← hq]; rfl)
  clear hY hq
  go_enter Try.func21, Try.ntmps21
  go_wp2_with fail
  refine HRp.out.mono ?_
  rintro e w1 ⟨v, rfl, hown, hb1⟩
  have HX := Lib.hid (And.intro hown (HS.out.below.trans (hb1.mono (by simp only [World.size_alloc]; omega))))
  clear hown hb1
  by_cases hz : r.2.2 = 0
  · have hz' : (r.2.2 != 0) = false := by simp [hz]
    obtain ⟨va, vcap, rfl, -, hvi, -, -⟩ := HX.out.1.shape
    have HL := Lib.hid (lead_any (cap := vcap) hvi (Nat.le_refl _) (by have := HLn.out; omega))
    have HHZ := Lib.hid hz
    clear hvi hz
    go_wp2_with fail
    refine HL.out.mono ?_
    rintro e w2 ⟨v2, rfl, hown2, hb2⟩
    have HX2 := Lib.hid (And.intro (own_mono hown2 HX.out.2.size) (HX.out.2.trans (hb2.mono HX.out.2.size)))
    clear hown2 hb2
    by_cases c3 : firstV r.1 < r.1.length
    · have HA := Lib.hid (show atV r.1 = (firstV r.1 : Nat) by unfold atV; rw [if_pos c3])
      rw [HA.out]
      have hp0 : (0 : Int) ≤ (firstV r.1 : Nat) := by omega
      go_wp2
      go_ret2
      exact stepPost_err' (HY.out.trans ((if_neg (fun h => h HHZ.out)).trans (if_pos c3))) HX2.out.2
    · have HA := Lib.hid (show atV r.1 = -1 by unfold atV; rw [if_neg c3])
      rw [HA.out]
      go_wp2
      go_ret2
      have e := HY.out.trans ((if_neg (fun h => h HHZ.out)).trans (if_neg c3))
      exact ⟨_, by rw [e]; rfl, by rw [e]; exact HX2.out.1, HX2.out.2⟩
  · have hz' : (r.2.2 != 0) = true := by simp [hz]
    have HHZ := Lib.hid hz
    clear hz
    go_wp2
    go_ret2
    exact stepPost_err' (HY.out.trans (if_pos HHZ.out)) HX.out.2
end Go.Proofs.Ytmiiolgbjicocaa.Dv
