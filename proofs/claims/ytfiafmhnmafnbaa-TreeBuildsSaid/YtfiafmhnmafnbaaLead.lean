/- What stands at a form's beginning: the program's and the reference's. -/
import Derived.Test.YtfiafmhnmafnbaaNt
import Derived.Test.YtfiafmhnmafnbaaAppend
namespace Go.Proofs.Ytfiafmhnmafnbaa
open Go.RowKit
theorem info3 : (Try.prog.info? 3).map (fun i => (i.zero, i.size, i.bytes)) = some (some (.int .i64 0), 1, 8) := by kernel_rfl
def isv (s : Int) : Bool := decide (0 ≤ s)
def firstV (form : List Int) : Nat := form.findIdx isv
def atV (form : List Int) : Int := if firstV form < form.length then (firstV form : Nat) else -1
def leadL (form : List Int) : List Int := (form.take (firstV form)).map nt
theorem firstV_at {form : List Int} {k : Nat} (hk : k < form.length) (h : k ≤ firstV form) (hv : 0 ≤ form[k]) : firstV form = k := by
  refine Nat.le_antisymm (Nat.le_of_not_lt (fun hl => ?_)) h
  have := List.not_of_lt_findIdx hl
  simp [isv] at this
  omega
theorem firstV_on {form : List Int} {k : Nat} (hk : k < form.length) (h : k ≤ firstV form) (hv : form[k] < 0) : k + 1 ≤ firstV form := by
  rcases Nat.lt_or_ge k (firstV form) with hl | hl
  · exact hl
  · have e : firstV form = k := Nat.le_antisymm hl h
    have h2 := List.findIdx_getElem (w := by show firstV form < _; rw [e]; exact hk) (p := isv) (xs := form)
    have e' : form.findIdx isv = k := e
    simp only [e'] at h2
    simp [isv] at h2
    omega
theorem firstV_end {form : List Int} (h : form.length ≤ firstV form) : firstV form = form.length := Nat.le_antisymm List.findIdx_le_length h
theorem isVar_any (s : Int) (w : World) : Calls Try.prog 35 #[.int .i64 s] w fun e w' => e = .returned (.bool (isv s)) ∧ w = w' := by
  unfold isv
  go_enter Try.func35, Try.ntmps35
  go_wp2
  go_ret
  exact ⟨rfl, rfl⟩
theorem first_any {B : Nat} {a : Option Addr} {cap : Nat} {form : List Int} {w : World} (h : Ints w B a form) (hl : form.length ≤ 1000000) :
    Calls Try.prog 32 #[.slice a form.length cap] w fun e w' => e = .returned (.int .i64 (atV form)) ∧ w = w' := by
  have H := Lib.hid h
  clear h
  go_enter Try.func32, Try.ntmps32
  go_wp2
  go_loop [3] (fun i => ∃ k : Nat, k ≤ form.length ∧ i = .int .i64 k ∧ Hid (k ≤ firstV form)) (fun i => form.length - (intOf i).toNat)
  case atStart => exact ⟨0, by omega, rfl, Nat.zero_le _⟩
  case round =>
    obtain ⟨k, hk, rfl, hf⟩ := hrel
    by_cases hlt : k < form.length
    · obtain ⟨b, off, rfl, hb, hc⟩ := H.out k hlt
      by_cases hv : 0 ≤ form[k]
      · have HV := Lib.hid (firstV_at hlt hf.out hv)
        go_wp2
        go_ret
        exact ⟨by unfold atV; rw [HV.out, if_pos hlt]; rfl, rfl⟩
      · have HV := Lib.hid (firstV_on hlt hf.out (by omega))
        go_wp2
        go_round
        case rel => exact ⟨k + 1, by omega, by go_num, HV⟩
        case measure => simp [intOf]; omega
    · have HV := Lib.hid (show ¬ firstV form < form.length by have := hf.out; omega)
      go_wp2
      go_ret
      exact ⟨by unfold atV; rw [if_neg HV.out]; rfl, rfl⟩
def LeadPost (form : List Int) (w : World) (e : Ending) (w' : World) : Prop :=
  ∃ v, e = .returned (.tuple #[v, .int .i64 (atV form)]) ∧ OwnI w' w.heap.size v (leadL form) ∧ Below w.heap.size w w'
set_option maxHeartbeats 400000 in
theorem lead_any {B : Nat} {a : Option Addr} {cap : Nat} {form : List Int} {w : World} (h : Ints w B a form) (hB : B ≤ w.heap.size) (hl : form.length ≤ 1000000) :
    Calls Try.prog 48 #[.slice a form.length cap] w (LeadPost form w) := by
  have H := Lib.hid h
  clear h
  have hx := nt_run
  go_enter Try.func48, Try.ntmps48
  go_wp2
  go_loopw [4, 9] (fun v i wr => ∃ k : Nat, k ≤ form.length ∧ i = .int .i64 k ∧ Hid (k ≤ firstV form ∧ OwnI wr w.heap.size v ((form.take k).map nt) ∧ Below w.heap.size w wr)) (fun _ i _ => form.length - (intOf i).toNat)
  case atStart => exact ⟨0, by omega, rfl, Nat.zero_le _, own_nil _ _, Below.refl _ _⟩
  case round =>
    obtain ⟨k, hk, rfl, hf⟩ := hrel
    by_cases hlt : k < form.length
    · obtain ⟨b, off, rfl, hb, hc⟩ := (H.out.below (hf.out.2.2.mono hB)) k hlt
      by_cases hv : 0 ≤ form[k]
      · have hiv : isv form[k] = true := by simp [isv, hv]
        have HI := fun W => Lib.hid (isVar_any form[k] W)
        rw [hiv] at HI
        have HV := Lib.hid (firstV_at hlt hf.out.1 hv)
        clear hiv
        go_wp2_with (first | (go_at_call 35; refine (HI _).out.mono ?_; rintro e w' ⟨rfl, rfl⟩))
        go_ret2
        have e1 : atV form = (k : Int) := by unfold atV; rw [HV.out, if_pos hlt]
        have e2 : leadL form = (form.take k).map nt := by unfold leadL; rw [HV.out]
        exact ⟨_, by rw [e1]; rfl, by rw [e2]; exact hf.out.2.1, hf.out.2.2⟩
      · have hiv : isv form[k] = false := by simp [isv]; omega
        have HI := fun W => Lib.hid (isVar_any form[k] W)
        rw [hiv] at HI
        have HV := Lib.hid (firstV_on hlt hf.out.1 (by omega))
        have HT := Lib.hid (show (form.take (k + 1)).map nt = (form.take k).map nt ++ [nt form[k]] by rw [List.take_succ_eq_append_getElem hlt, List.map_append]; rfl)
        clear hiv
        have hszr := hf.out.2.2.size
        have hlk : ((form.take k).map nt).length ≤ 1000000 := by simp; omega
        go_wp2_with (first
          | (go_at_call 35; refine (HI _).out.mono ?_; rintro e w' ⟨rfl, rfl⟩)
          | (at_builtin; (refine append_ints rfl _ _ 26 rfl Try.underlying26 info3 w.heap.size _ ((form.take k).map nt) rfl (hf.out.2.1.alloc _) (some ⟨_, 0, none⟩) 1 1 [nt form[k]] rfl rfl (fun h => by cases h) (src_one _ _ _) (by simp only [List.length_singleton]; omega) (by simp only [World.size_alloc]; omega) ?_); intro v' w1 hown hgrow))
        go_roundw
        case rel => exact ⟨k + 1, by omega, by go_num, HV.out, by rw [HT.out]; exact hown, (hf.out.2.2.alloc hszr _).trans (below_grown (hf.out.2.1.alloc _) hgrow (by simp only [World.size_alloc]; omega))⟩
        case measure => simp [intOf]; omega
    · have HV := Lib.hid (firstV_end (by have := hf.out.1; omega : form.length ≤ firstV form))
      go_wp2
      go_ret2
      have e1 : atV form = -1 := by unfold atV; rw [HV.out, if_neg (by omega)]
      have e2 : leadL form = (form.take k).map nt := by unfold leadL; rw [HV.out, List.take_of_length_le (by omega), List.take_of_length_le (by omega)]
      exact ⟨_, by rw [e1]; rfl, by rw [e2]; exact hf.out.2.1, hf.out.2.2⟩
def RLeadPost (form : List Int) (w : World) (e : Ending) (w' : World) : Prop :=
  ∃ v, e = .returned v ∧ OwnI w' w.heap.size v (leadL form) ∧ Below w.heap.size w w'
set_option maxHeartbeats 400000 in
theorem rlead_any {B : Nat} {a : Option Addr} {cap : Nat} {form : List Int} {w : World} (h : Ints w B a form) (hB : B ≤ w.heap.size) (hl : form.length ≤ 1000000) :
    Calls Try.prog 33 #[.slice a form.length cap] w (RLeadPost form w) := by
  have H := Lib.hid h
  clear h
  have hx := nt_run
  go_enter Try.func33, Try.ntmps33
  go_wp2
  go_loopw [3, 4] (fun v i wr => ∃ k : Nat, k ≤ form.length ∧ i = .int .i64 k ∧ Hid (k ≤ firstV form ∧ OwnI wr w.heap.size v ((form.take k).map nt) ∧ Below w.heap.size w wr)) (fun _ i _ => form.length - (intOf i).toNat)
  case atStart => exact ⟨0, by omega, rfl, Nat.zero_le _, own_empty _ (Nat.le_refl _), (Below.refl _ _).alloc (Nat.le_refl _) _⟩
  case round =>
    obtain ⟨k, hk, rfl, hf⟩ := hrel
    by_cases hlt : k < form.length
    · obtain ⟨b, off, rfl, hb, hc⟩ := (H.out.below (hf.out.2.2.mono hB)) k hlt
      have hi1 : (k : Int) < form.length := by omega
      by_cases hv : form[k] < 0
      · have HV := Lib.hid (firstV_on hlt hf.out.1 hv)
        have HT := Lib.hid (show (form.take (k + 1)).map nt = (form.take k).map nt ++ [nt form[k]] by rw [List.take_succ_eq_append_getElem hlt, List.map_append]; rfl)
        have hszr := hf.out.2.2.size
        have hlk : ((form.take k).map nt).length ≤ 1000000 := by simp; omega
        go_wp2_with (first
          | (at_builtin; (refine append_ints rfl _ _ 26 rfl Try.underlying26 info3 w.heap.size _ ((form.take k).map nt) rfl (hf.out.2.1.alloc _) (some ⟨_, 0, none⟩) 1 1 [nt form[k]] rfl rfl (fun h => by cases h) (src_one _ _ _) (by simp only [List.length_singleton]; omega) (by simp only [World.size_alloc]; omega) ?_); intro v' w1 hown hgrow))
        go_roundw
        case rel => exact ⟨k + 1, by omega, by go_num, HV.out, by rw [HT.out]; exact hown, (hf.out.2.2.alloc hszr _).trans (below_grown (hf.out.2.1.alloc _) hgrow (by simp only [World.size_alloc]; omega))⟩
        case measure => simp [intOf]; omega
      · have HV := Lib.hid (firstV_at hlt hf.out.1 (by omega))
        go_wp2
        go_ret
        have e2 : leadL form = (form.take k).map nt := by unfold leadL; rw [HV.out]
        exact ⟨_, rfl, by rw [e2]; exact hf.out.2.1, hf.out.2.2⟩
    · have HV := Lib.hid (firstV_end (by have := hf.out.1; omega : form.length ≤ firstV form))
      have hi1 : ¬ (k : Int) < form.length := by omega
      go_wp2
      go_ret
      have e2 : leadL form = (form.take k).map nt := by unfold leadL; rw [HV.out, List.take_of_length_le (by omega), List.take_of_length_le (by omega)]
      exact ⟨_, rfl, by rw [e2]; exact hf.out.2.1, hf.out.2.2⟩
end Go.Proofs.Ytfiafmhnmafnbaa
