/- When two weights are the same. -/
import Derived.Test.YticdihfjnmjkmaaRefT
namespace Go.Proofs.Yticdihfjnmjkmaa
open Go.RowKit
def nanB (f : Nat) : Bool := (bits .and .u64 ((f : Int) / 4503599627370496) 2047 == 2047) && (IntKind.u64.wrap ((f : Int) * 4096) != 0)
def belowB (f : Nat) : Bool := ((f : Int) / 9223372036854775808 == 1)
def lessF (f g : Nat) : Bool := if nanB f || nanB g then !nanB f && nanB g else if belowB f != belowB g then belowB f else if belowB f then decide (g < f) else decide (f < g)
theorem nan_val (f : Nat) (w : World) : Calls Try.prog 52 #[.float .f64 f] w fun e w' => e = .returned (.bool (nanB f)) ∧ w = w' := by
  have hb := bits_run
  by_cases h : bits .and .u64 ((f : Int) / 4503599627370496) 2047 = 2047
  · have HN := Lib.hid (show nanB f = (IntKind.u64.wrap ((f : Int) * 4096) != 0) by unfold nanB; rw [h]; rfl)
    go_enter Try.func52, Try.ntmps52
    go_wp2
    go_ret
    exact ⟨by rw [HN.out]; rfl, rfl⟩
  · have HN := Lib.hid (show nanB f = false by unfold nanB; simp [h])
    go_enter Try.func52, Try.ntmps52
    go_wp2
    go_ret
    exact ⟨by rw [HN.out]; rfl, rfl⟩
theorem below_val (f : Nat) (w : World) : Calls Try.prog 53 #[.float .f64 f] w fun e w' => e = .returned (.bool (belowB f)) ∧ w = w' := by
  have hb := bits_run
  unfold belowB
  go_enter Try.func53, Try.ntmps53
  go_wp2
  go_ret
  exact ⟨rfl, rfl⟩
set_option maxHeartbeats 4000000 in
theorem fless_val (f g : Nat) (w : World) : Calls Try.prog 35 #[.float .f64 f, .float .f64 g] w fun e w' => e = .returned (.bool (lessF f g)) ∧ w = w' := by
  have hb := bits_run
  have HL := Lib.hid (show lessF f g = if nanB f || nanB g then !nanB f && nanB g else if belowB f != belowB g then belowB f else if belowB f then decide (g < f) else decide (f < g) from rfl)
  have HN := fun f W => Lib.hid (nan_val f W)
  have HB := fun f W => Lib.hid (below_val f W)
  generalize lessF f g = L at *
  cases h1 : nanB f <;> cases h2 : nanB g <;> cases h3 : belowB f <;> cases h4 : belowB g
  all_goals
    simp only [h1, h2, h3, h4] at HL
    go_enter Try.func35, Try.ntmps35
    go_wp2_with (first | (go_at_call 52; refine (HN _ _).out.mono ?_; rintro e w' ⟨rfl, rfl⟩) | (go_at_call 53; refine (HB _ _).out.mono ?_; rintro e w' ⟨rfl, rfl⟩))
    go_ret
    exact ⟨by rw [HL.out]; rfl, rfl⟩
def sameF (f g : Nat) : Bool := !lessF f g && !lessF g f
set_option maxHeartbeats 4000000 in
theorem fsame_val (f g : Nat) (w : World) : Calls Try.prog 18 #[.float .f64 f, .float .f64 g] w fun e w' => e = .returned (.bool (sameF f g)) ∧ w = w' := by
  have HL := Lib.hid (show sameF f g = (!lessF f g && !lessF g f) from rfl)
  have H := fun f g W => Lib.hid (fless_val f g W)
  generalize sameF f g = L at *
  cases h1 : lessF f g <;> cases h2 : lessF g f
  all_goals
    simp only [h1, h2] at HL
    go_enter Try.func18, Try.ntmps18
    go_wp2_with (first | (go_at_call 35; refine (H _ _ _).out.mono ?_; rintro e w' ⟨rfl, rfl⟩))
    go_ret
    exact ⟨by rw [HL.out]; rfl, rfl⟩
theorem sameF_self (f : Nat) : sameF f f = true := by
  unfold sameF lessF
  cases nanB f <;> cases belowB f <;> simp
end Go.Proofs.Yticdihfjnmjkmaa
