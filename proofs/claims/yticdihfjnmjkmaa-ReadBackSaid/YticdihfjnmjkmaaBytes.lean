/- The program's looks at single bytes. -/
import Derived.Test.YticdihfjnmjkmaaLexS
namespace Go.Proofs.Yticdihfjnmjkmaa
open Go.RowKit
theorem pletter_any (c : Int) (w : World) : Calls Try.prog 30 #[.int .u8 c] w fun e w' => e = .returned (.bool (letterB c)) ∧ w = w' := by
  by_cases a1 : 97 ≤ c
  all_goals by_cases a2 : c ≤ 122
  all_goals by_cases a3 : 65 ≤ c
  all_goals by_cases a4 : c ≤ 90
  all_goals first
    | (exfalso; omega)
    | (have HV := Lib.hid (show letterB c = (decide (97 ≤ c) && decide (c ≤ 122) || decide (65 ≤ c) && decide (c ≤ 90)) from rfl)
       simp only [a1, a2, a3, a4, decide_true, decide_false, Bool.and_true, Bool.and_false, Bool.or_true, Bool.or_false, Bool.and_self, Bool.or_self] at HV
       go_enter Try.func30, Try.ntmps30
       go_wp2
       go_ret
       exact ⟨by rw [HV.out]; rfl, rfl⟩)
theorem pdigit_any (c : Int) (w : World) : Calls Try.prog 31 #[.int .u8 c] w fun e w' => e = .returned (.bool (digitB c)) ∧ w = w' := by
  go_enter Try.func31, Try.ntmps31
  go_wp2
  all_goals go_ret
  all_goals exact ⟨by simp [digitB]; omega, rfl⟩
theorem w3_any (c : Int) (w : World) : Calls Try.prog 62 #[.int .u8 c] w fun e w' => e = .returned (.bool (quotableB c)) ∧ w = w' := by
  by_cases h : c = 39
  · subst h
    go_enter Try.func62, Try.ntmps62
    go_wp2
    all_goals go_ret
    all_goals exact ⟨by simp [quotableB], rfl⟩
  · have h1 : (c != 39) = true := by simp [h]
    have H := Lib.hid h
    clear h
    go_enter Try.func62, Try.ntmps62
    go_wp2
    all_goals go_ret
    all_goals exact ⟨by have := H.out; simp [quotableB]; omega, rfl⟩
theorem w0_any (c : Int) (w : World) : Calls Try.prog 44 #[.int .u8 c] w fun e w' => e = .returned (.bool (lineB c)) ∧ w = w' := by
  go_enter Try.func44, Try.ntmps44
  go_wp2
  all_goals go_ret
  all_goals exact ⟨by simp [lineB, bne]; rfl, rfl⟩
theorem w1_any (c : Int) (w : World) : Calls Try.prog 45 #[.int .u8 c] w fun e w' => e = .returned (.bool (innerB c)) ∧ w = w' := by
  have H1 := fun W => Lib.hid (pletter_any c W)
  have H2 := fun W => Lib.hid (pdigit_any c W)
  have HI := Lib.hid (show innerB c = (letterB c || digitB c || decide (c = 95)) from rfl)
  generalize innerB c = r at *
  generalize letterB c = x at *
  generalize digitB c = y at *
  by_cases h : c = 95
  all_goals
    have H := Lib.hid h
  · have h1 : (c == 95) = true := by simp [h]
    clear h
    cases x
    all_goals cases y
    all_goals
      go_enter Try.func45, Try.ntmps45
      go_wp2_with (first | (go_at_call 30; refine (H1 _).out.mono ?_; rintro e w' ⟨rfl, rfl⟩) | (go_at_call 31; refine (H2 _).out.mono ?_; rintro e w' ⟨rfl, rfl⟩))
      go_ret
      exact ⟨by rw [HI.out]; simp [H.out], rfl⟩
  · have h1 : (c == 95) = false := by simp [h]
    clear h
    cases x
    all_goals cases y
    all_goals
      go_enter Try.func45, Try.ntmps45
      go_wp2_with (first | (go_at_call 30; refine (H1 _).out.mono ?_; rintro e w' ⟨rfl, rfl⟩) | (go_at_call 31; refine (H2 _).out.mono ?_; rintro e w' ⟨rfl, rfl⟩))
      go_ret
      exact ⟨by rw [HI.out]; simp [H.out], rfl⟩
theorem w2_any (c : Int) (w : World) : Calls Try.prog 47 #[.int .u8 c] w fun e w' => e = .returned (.bool (weightB c)) ∧ w = w' := by
  have H1 := fun W => Lib.hid (pletter_any c W)
  have H2 := fun W => Lib.hid (pdigit_any c W)
  have HI := Lib.hid (show weightB c = (digitB c || letterB c || decide (c = 46) || decide (c = 45)) from rfl)
  generalize weightB c = r at *
  generalize letterB c = x at *
  generalize digitB c = y at *
  by_cases h : c = 46
  · subst h
    rw [decide_eq_true rfl, Bool.or_true, Bool.true_or] at HI
    cases x
    all_goals cases y
    all_goals
      go_enter Try.func47, Try.ntmps47
      go_wp2_with (first | (go_at_call 30; refine (H1 _).out.mono ?_; rintro e w' ⟨rfl, rfl⟩) | (go_at_call 31; refine (H2 _).out.mono ?_; rintro e w' ⟨rfl, rfl⟩))
      go_ret
      exact ⟨by rw [HI.out]; rfl, rfl⟩
  rw [decide_eq_false h, Bool.or_false] at HI
  by_cases h2 : c = 45
  · subst h2
    rw [decide_eq_true rfl, Bool.or_true] at HI
    cases x
    all_goals cases y
    all_goals
      go_enter Try.func47, Try.ntmps47
      go_wp2_with (first | (go_at_call 30; refine (H1 _).out.mono ?_; rintro e w' ⟨rfl, rfl⟩) | (go_at_call 31; refine (H2 _).out.mono ?_; rintro e w' ⟨rfl, rfl⟩))
      go_ret
      exact ⟨by rw [HI.out]; rfl, rfl⟩
  rw [decide_eq_false h2, Bool.or_false] at HI
  cases x
  all_goals cases y
  all_goals
    go_enter Try.func47, Try.ntmps47
    go_wp2_with (first | (go_at_call 30; refine (H1 _).out.mono ?_; rintro e w' ⟨rfl, rfl⟩) | (go_at_call 31; refine (H2 _).out.mono ?_; rintro e w' ⟨rfl, rfl⟩))
    go_ret
    exact ⟨by rw [HI.out]; first | rfl | simp [h2, h], rfl⟩
theorem psign_any (c : Int) (w : World) : Calls Try.prog 49 #[.int .u8 c] w fun e w' => e = .returned (.bool (signB c)) ∧ w = w' := by
  by_cases h1 : c = 61
  · subst h1; go_enter Try.func49, Try.ntmps49; go_wp2; go_ret; exact ⟨rfl, rfl⟩
  by_cases h2 : c = 59
  · subst h2; go_enter Try.func49, Try.ntmps49; go_wp2; go_ret; exact ⟨rfl, rfl⟩
  by_cases h3 : c = 124
  · subst h3; go_enter Try.func49, Try.ntmps49; go_wp2; go_ret; exact ⟨rfl, rfl⟩
  by_cases h4 : c = 40
  · subst h4; go_enter Try.func49, Try.ntmps49; go_wp2; go_ret; exact ⟨rfl, rfl⟩
  by_cases h5 : c = 41
  · subst h5; go_enter Try.func49, Try.ntmps49; go_wp2; go_ret; exact ⟨rfl, rfl⟩
  by_cases h6 : c = 63
  · subst h6; go_enter Try.func49, Try.ntmps49; go_wp2; go_ret; exact ⟨rfl, rfl⟩
  by_cases h7 : c = 42
  · subst h7; go_enter Try.func49, Try.ntmps49; go_wp2; go_ret; exact ⟨rfl, rfl⟩
  by_cases h8 : c = 43
  · subst h8; go_enter Try.func49, Try.ntmps49; go_wp2; go_ret; exact ⟨rfl, rfl⟩
  have HV := Lib.hid (show signB c = false by simp [signB, h1, h2, h3, h4, h5, h6, h7, h8])
  go_enter Try.func49, Try.ntmps49
  go_wp2
  go_ret
  exact ⟨by rw [HV.out]; rfl, rfl⟩
end Go.Proofs.Yticdihfjnmjkmaa
