/- The functions as the laws call them: the grammar lies in the law's own variable. -/
import Derived.Test.YtfiafmhnmafnbaaPairs
import Derived.Test.YtfiafmhnmafnbaaSizeIn
import Derived.Test.YtfiafmhnmafnbaaSameIn
namespace Go.Proofs.Ytfiafmhnmafnbaa
open Go.RowKit
/-- All that was there stays. -/
def Grow (a b : World) : Prop := Below a.heap.size a b
theorem Grow.trans {a b c : World} (h : Grow a b) (k : Grow b c) : Grow a c := Below.trans h (Below.mono k h.size)
theorem Grow.refl (a : World) : Grow a a := Below.refl _ _
/-- A list that can be read in a world. -/
def Lst (w : World) (a : Option Addr) (xs : List Int) : Prop := Ints w w.heap.size a xs
theorem Lst.go {a b : World} {x : Option Addr} {xs : List Int} (h : Lst a x xs) (k : Grow a b) : Lst b x xs := Ints.mono (Ints.below h k) k.size
/-- The grammar in the law's variable. -/
def Box (w : World) (g : GramD) (wr : World) : Prop := Boxed w w.heap.size g wr
theorem Box.go {w wr w2 : World} {g : GramD} (h : Box w g wr) (k : Grow wr w2) : Box w g w2 := Boxed.next h (Nat.le_refl _) k
theorem Box.grow {w wr : World} {g : GramD} (h : Box w g wr) : Grow w wr := h.below
theorem Box.c0 {w wr : World} {g : GramD} (h : Box w g wr) : wr.cell? ⟨w.heap.size, 0, none⟩ = some (.slice g.ta g.terms.length g.tc) := cell_of_block h.blk
theorem Box.c1 {w wr : World} {g : GramD} (h : Box w g wr) : wr.cell? ⟨w.heap.size, 1, none⟩ = some (.slice g.va g.vars.length g.vc) := cell_of_block h.blk
theorem Box.c2 {w wr : World} {g : GramD} (h : Box w g wr) : wr.cell? ⟨w.heap.size, 2, none⟩ = some (.slice g.ra g.rules.length g.rc) := cell_of_block h.blk
theorem Box.gram' {w wr : World} {g : GramD} (h : Box w g wr) : GramAt wr wr.heap.size g := GramAt.mono h.gram (Nat.le_of_lt h.size)
/-- A list and a number. -/
def Res2 (wr : World) (r : List Int × Int) (e : Ending) (w' : World) : Prop :=
  ∃ a c, e = .returned (.tuple #[.slice a r.1.length c, .int .i64 r.2]) ∧ Lst w' a r.1 ∧ Grow wr w' ∧ r.1.length ≤ c ∧ c ≤ maxLen ∧ (a = none → c = 0)
def Res3 (wr : World) (r : List Int × Nat × Int) (e : Ending) (w' : World) : Prop :=
  ∃ a c, e = .returned (.tuple #[.slice a r.1.length c, .int .i64 r.2.1, .int .i64 r.2.2]) ∧ Lst w' a r.1 ∧ Grow wr w' ∧ r.1.length ≤ c ∧ c ≤ maxLen ∧ (a = none → c = 0)
theorem res2_of {w w' : World} {r : List Int × Int} {e : Ending} (h : StepPost w r e w') : Res2 w r e w' := by
  obtain ⟨v, rfl, hown, hb⟩ := h
  obtain ⟨a, c, rfl, hn, hi, hm, hl⟩ := hown.shape
  exact ⟨a, c, rfl, hi, hb, hl, hm, fun h => (hn h).1⟩
section
variable {w wr : World} {g : GramD}
theorem few_bx (h : Box w g wr) : Calls Try.prog 8 #[.agg #[.slice g.ta g.terms.length g.tc, .slice g.va g.vars.length g.vc, .slice g.ra g.rules.length g.rc]] wr fun e w' => ∃ b : Bool, e = .returned (.bool b) ∧ Grow wr w' ∧ (b = true → Small g) :=
  few_any h.gram' (Nat.le_refl _)
theorem right_bx (h : Box w g wr) : Calls Try.prog 9 #[.agg #[.slice g.ta g.terms.length g.tc, .slice g.va g.vars.length g.vc, .slice g.ra g.rules.length g.rc]] wr fun e w' => ∃ b : Bool, e = .returned (.bool b) ∧ Grow wr w' ∧ (b = true → GramOk g) :=
  right_any h.gram' (Nat.le_refl _)
variable {a : Option Addr} {cap : Nat} {form : List Int}

theorem rstep_bx (h : Box w g wr) (hsm : Small g) (hf : Lst wr a form) (hl : form.length ≤ 1000000) (rule : Int) :
    Calls Try.prog 49 #[.agg #[.slice g.ta g.terms.length g.tc, .slice g.va g.vars.length g.vc, .slice g.ra g.rules.length g.rc], .slice a form.length cap, .int .i64 rule] wr (Res2 wr (stepS g form rule)) :=
  (rstep_any h.gram' (Nat.le_refl _) hsm hf hl rule).mono (fun _ _ h => res2_of h)
theorem lead_bx (hf : Lst wr a form) (hl : form.length ≤ 1000000) : Calls Try.prog 48 #[.slice a form.length cap] wr (Res2 wr (leadL form, atV form)) :=
  (lead_any hf (Nat.le_refl _) hl).mono (fun _ _ h => res2_of h)
theorem rlead_bx (hf : Lst wr a form) (hl : form.length ≤ 1000000) : Calls Try.prog 33 #[.slice a form.length cap] wr fun e w' => ∃ b c, e = .returned (.slice b (leadL form).length c) ∧ Lst w' b (leadL form) ∧ Grow wr w' :=
  (rlead_any hf (Nat.le_refl _) hl).mono (fun _ w' h => by
    obtain ⟨v, rfl, hown, hb⟩ := h
    obtain ⟨a, c, rfl, hn, hi, hm, hl⟩ := hown.shape
    exact ⟨a, c, rfl, hi, hb⟩)
theorem same_bx {b : Option Addr} {cb : Nat} {ys : List Int} (hx : Lst wr a form) (hy : Lst wr b ys) (hl : form.length ≤ 1000000) (hl2 : ys.length ≤ 1000000) :
    Calls Try.prog 17 #[.slice a form.length cap, .slice b ys.length cb] wr fun e w' => e = .returned (.bool (decide (form = ys))) ∧ Grow wr w' :=
  (same_any hx hy (by omega) (by omega)).mono (fun _ w' h => ⟨h.1, by
    obtain ⟨n, h2⟩ := h.2
    rw [h2]
    exact ⟨rfl, rfl, rfl, Nat.le_refl _, fun _ _ => rfl⟩⟩)
variable {a2 : Option Addr} {cap2 : Nat} {rules : List Int}
theorem replay_bx (h : Box w g wr) (hsm : Small g) (hf : Lst wr a form) (hr : Lst wr a2 rules) (hl : form.length + 8 * rules.length ≤ 400000) (hrl : rules.length ≤ 4096) :
    Calls Try.prog 47 #[.agg #[.slice g.ta g.terms.length g.tc, .slice g.va g.vars.length g.vc, .slice g.ra g.rules.length g.rc], .slice a form.length cap, .slice a2 rules.length cap2] wr (Res3 wr (repS g form 0 rules)) :=
  (replay_any h.gram' (Nat.le_refl _) hsm hf hr hl hrl).mono (fun _ _ h => by
    obtain ⟨v, rfl, hown, hb⟩ := h
    obtain ⟨a, c, rfl, hn, hi, hm, hl⟩ := hown.shape
    exact ⟨a, c, rfl, hi, hb, hl, hm, fun h => (hn h).1⟩)
theorem rreplay_bx (h : Box w g wr) (hsm : Small g) (hf : Lst wr a form) (hr : Lst wr a2 rules) (hl : form.length + 8 * rules.length ≤ 400000) (hrl : rules.length ≤ 4096) :
    Calls Try.prog 31 #[.agg #[.slice g.ta g.terms.length g.tc, .slice g.va g.vars.length g.vc, .slice g.ra g.rules.length g.rc], .slice a form.length cap, .slice a2 rules.length cap2] wr fun e w' =>
      ∃ a c, e = .returned (.tuple #[.slice a (repS g form 0 rules).1.length c, .int .i64 (repS g form 0 rules).2.1, .int .i64 (repS g form 0 rules).2.2]) ∧ Lst w' a (repS g form 0 rules).1 ∧ Grow wr w' :=
  (rreplay_any h.gram' (Nat.le_refl _) hsm hf hr hl hrl)
theorem yield_bx (h : Box w g wr) (hsm : Small g) (hf : Lst wr a form) (hr : Lst wr a2 rules) (hl : form.length + 8 * rules.length ≤ 400000) (hrl : rules.length ≤ 4096) :
    Calls Try.prog 29 #[.agg #[.slice g.ta g.terms.length g.tc, .slice g.va g.vars.length g.vc, .slice g.ra g.rules.length g.rc], .slice a form.length cap, .slice a2 rules.length cap2] wr (Res2 wr (yieldS g form rules)) :=
  (yield_any h.gram' (Nat.le_refl _) hsm hf hr hl hrl).mono (fun _ _ h => res2_of h)
theorem ryield_bx (h : Box w g wr) (hsm : Small g) (hf : Lst wr a form) (hr : Lst wr a2 rules) (hl : form.length + 8 * rules.length ≤ 400000) (hrl : rules.length ≤ 4096) :
    Calls Try.prog 11 #[.agg #[.slice g.ta g.terms.length g.tc, .slice g.va g.vars.length g.vc, .slice g.ra g.rules.length g.rc], .slice a form.length cap, .slice a2 rules.length cap2] wr (Res2 wr (yieldS g form rules)) :=
  (ryield_any h.gram' (Nat.le_refl _) hsm hf hr hl hrl).mono (fun _ _ h => res2_of h)


end
/-- A tree in a world, in blocks from lo on. -/
def Tre (lo : Nat) (wr : World) (t : MT) : Prop := MT.At wr lo t
theorem Tre.go {lo : Nat} {a b : World} {t : MT} (h : Tre lo a t) (k : Grow a b) : Tre lo b t := MT.At.below h k
section
variable {w wr : World} {g : GramD} {lo : Nat} {t : MT}
theorem of_bx (h : Box w g wr) (hsm : Small g) (hok : GramOk g) {a : Option Addr} {cap : Nat} {rules : List Int} (hr : Lst wr a rules) (hcap : rules.length ≤ cap) (hcm : cap ≤ maxLen) (hrl : rules.length ≤ 4096) {v : Int} (hv : 0 ≤ v) :
    Calls Try.prog 10 #[.agg #[.slice g.ta g.terms.length g.tc, .slice g.va g.vars.length g.vc, .slice g.ra g.rules.length g.rc], .int .i64 v, .slice a rules.length cap] wr (OfPost g v rules wr) :=
  of_any h.gram' (Nat.le_refl _) hsm hok hr hcap (by simp only [maxLen] at hcm; omega) hrl hv
theorem valid_bx (h : Box w g wr) (hsm : Small g) (ht : Tre lo wr t) (hs : t.pt.size ≤ 10000) :
    Calls Try.prog 20 #[.pointer (some ⟨t.blk, 0, none⟩), .agg #[.slice g.ta g.terms.length g.tc, .slice g.va g.vars.length g.vc, .slice g.ra g.rules.length g.rc]] wr fun e w' => e = .returned (.bool (t.pt.valid g)) ∧ Grow wr w' :=
  valid_any hsm t h.gram' (Nat.le_refl _) ht (by omega)
theorem text_bx (h : Box w g wr) (hb : Brief g) (ht : Tre lo wr t) (hn : t.pt.named g) (hs : t.pt.size ≤ 10000) :
    Calls Try.prog 14 #[.pointer (some ⟨t.blk, 0, none⟩), .agg #[.slice g.ta g.terms.length g.tc, .slice g.va g.vars.length g.vc, .slice g.ra g.rules.length g.rc]] wr fun e w' => e = .returned (.string (strOf (t.pt.text g))) ∧ Grow wr w' :=
  text_any hb t h.gram' (Nat.le_refl _) ht hn hs
theorem size_bx (ht : Tre lo wr t) (hs : t.pt.size ≤ 10000) : Calls Try.prog 15 #[.pointer (some ⟨t.blk, 0, none⟩)] wr fun e w' => e = .returned (.int .i64 t.pt.size) ∧ Grow wr w' := size_any t ht (by omega)
theorem height_bx (ht : Tre lo wr t) (hs : t.pt.size ≤ 10000) : Calls Try.prog 16 #[.pointer (some ⟨t.blk, 0, none⟩)] wr fun e w' => e = .returned (.int .i64 t.pt.height) ∧ Grow wr w' :=
  (height_any t ht (by omega)).mono fun _ _ h => ⟨h.1, by rw [h.2]; exact Grow.refl _⟩
def ResL (wr : World) (xs : List Int) (e : Ending) (w' : World) : Prop := ∃ a c, e = .returned (.slice a xs.length c) ∧ Lst w' a xs ∧ Grow wr w' ∧ xs.length ≤ c ∧ c ≤ maxLen ∧ (a = none → c = 0)
theorem resL_of {xs : List Int} {e : Ending} {w' : World} (h : SlPost xs wr e w') : ResL wr xs e w' := by
  obtain ⟨v, rfl, hown, hb⟩ := h
  obtain ⟨a, c, rfl, hn, hi, hm, hl⟩ := hown.shape
  exact ⟨a, c, rfl, hi, hb, hl, hm, fun h => (hn h).1⟩
theorem word_bx (ht : Tre lo wr t) (hs : t.pt.size ≤ 10000) : Calls Try.prog 18 #[.pointer (some ⟨t.blk, 0, none⟩)] wr (ResL wr (t.pt.leaves.map nt)) :=
  (word_any t ht (by omega)).mono fun _ _ h => resL_of h
theorem rules_bx (ht : Tre lo wr t) (hs : t.pt.size ≤ 10000) : Calls Try.prog 19 #[.pointer (some ⟨t.blk, 0, none⟩)] wr (ResL wr t.pt.rules) :=
  (rules_any t ht (by omega)).mono fun _ _ h => resL_of h
theorem sameN_bx {u : MT} {lo2 : Nat} (ht : Tre lo wr t) (hu : Tre lo2 wr u) (hs : t.pt.size ≤ 10000) (hs2 : u.pt.size ≤ 10000) :
    Calls Try.prog 21 #[.pointer (some ⟨t.blk, 0, none⟩), .pointer (some ⟨u.blk, 0, none⟩)] wr fun e w' => e = .returned (.bool (eqb t.pt u.pt)) ∧ Grow wr w' :=
  (sameN_any t u ht hu (by omega) (by omega)).mono fun _ _ h => ⟨h.1, by
    obtain ⟨n, h2⟩ := h.2
    rw [h2]
    exact ⟨rfl, rfl, rfl, Nat.le_refl _, fun _ _ => rfl⟩⟩
end
theorem leaves_size (t : PT) : t.leaves.length ≤ t.size ∧ t.rules.length ≤ t.size := by
  induction t using PT.ind with | h s r kids ih => ?_
  have h2 : (PT.leavesL kids).length ≤ PT.sizeL kids ∧ (PT.rulesL kids).length ≤ PT.sizeL kids := by
    induction kids with
    | nil => simp [PT.leavesL, PT.rulesL, PT.sizeL]
    | cons k ks ih2 =>
      have h3 := ih k (by simp)
      have h4 := ih2 (fun x hx => ih x (by simp [hx]))
      simp only [PT.leavesL, PT.rulesL, PT.sizeL, List.length_append]
      omega
  simp only [PT.leaves, PT.rules, PT.size, List.length_append]
  split <;> simp <;> omega
theorem box_start {w : World} {g : GramD} (h : GramAt w w.heap.size g) : Box w g (w.alloc (.cells #[.slice g.ta g.terms.length g.tc, .slice g.va g.vars.length g.vc, .slice g.ra g.rules.length g.rc] 25)) := boxed_start h (Nat.le_refl _)
end Go.Proofs.Ytfiafmhnmafnbaa
