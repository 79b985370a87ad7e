/- Runs of bytes, blanks and remarks: the program's. -/
import Derived.Test.YticdihfjnmjkmaaBytes
namespace Go.Proofs.Yticdihfjnmjkmaa
open Go.RowKit
theorem ret_nat {a b : Nat} (h : a = b) : Ending.returned (.int .i64 (a : Int)) = .returned (.int .i64 (b : Int)) := by rw [h]
theorem run0_any (s : ByteArray) (hs : s.size ≤ 9223372036854775807) (p : Nat) (hp : p ≤ s.size) (w : World) : Calls Try.prog 43 #[.string s, .int .i64 p, .func (.func 44) #[] #[]] w fun e w' => e = .returned (.int .i64 ((p + runA lineB s p : Nat) : Int)) ∧ w = w' := by
  go_enter Try.func43, Try.ntmps43
  go_wp2
  go_loop [1] (fun i => ∃ k : Nat, k ≤ s.size ∧ i = .int .i64 k ∧ Hid (k + runA lineB s k = p + runA lineB s p)) (fun i => s.size - (intOf i).toNat)
  case atStart => exact ⟨p, hp, rfl, rfl⟩
  case round =>
    obtain ⟨k, hk, rfl, ha⟩ := hrel
    by_cases hlt : k < s.size
    · have HI := fun W => Lib.hid (w0_any (s[k].toNat : Int) W)
      have HY := Lib.hid (fun h => runA_yes (f := lineB) (s := s) (p := k) hlt h)
      have HZ := Lib.hid (fun h => runA_no (f := lineB) (s := s) (p := k) hlt h)
      generalize lineB (s[k].toNat : Int) = x at *
      cases x
      · go_wp2_with (first | (go_at_call 44; refine (HI _).out.mono ?_; rintro e w' ⟨rfl, rfl⟩))
        go_ret
        exact ⟨ret_nat (show k = p + runA lineB s p by have := HZ.out trivial; have := ha.out; omega), rfl⟩
      · go_wp2_with (first | (go_at_call 44; refine (HI _).out.mono ?_; rintro e w' ⟨rfl, rfl⟩))
        go_round
        case rel => exact ⟨k + 1, by omega, by go_num, by have := HY.out trivial; have := ha.out; unfold Hid; omega⟩
        case measure => simp [intOf]; omega
    · have HE := Lib.hid (runA_end (f := lineB) (s := s) (p := k) (by omega))
      go_wp2
      go_ret
      exact ⟨ret_nat (show k = p + runA lineB s p by have := HE.out; have := ha.out; omega), rfl⟩
theorem run1_any (s : ByteArray) (hs : s.size ≤ 9223372036854775807) (p : Nat) (hp : p ≤ s.size) (w : World) : Calls Try.prog 43 #[.string s, .int .i64 p, .func (.func 45) #[] #[]] w fun e w' => e = .returned (.int .i64 ((p + runA innerB s p : Nat) : Int)) ∧ w = w' := by
  go_enter Try.func43, Try.ntmps43
  go_wp2
  go_loop [1] (fun i => ∃ k : Nat, k ≤ s.size ∧ i = .int .i64 k ∧ Hid (k + runA innerB s k = p + runA innerB s p)) (fun i => s.size - (intOf i).toNat)
  case atStart => exact ⟨p, hp, rfl, rfl⟩
  case round =>
    obtain ⟨k, hk, rfl, ha⟩ := hrel
    by_cases hlt : k < s.size
    · have HI := fun W => Lib.hid (w1_any (s[k].toNat : Int) W)
      have HY := Lib.hid (fun h => runA_yes (f := innerB) (s := s) (p := k) hlt h)
      have HZ := Lib.hid (fun h => runA_no (f := innerB) (s := s) (p := k) hlt h)
      generalize innerB (s[k].toNat : Int) = x at *
      cases x
      · go_wp2_with (first | (go_at_call 45; refine (HI _).out.mono ?_; rintro e w' ⟨rfl, rfl⟩))
        go_ret
        exact ⟨ret_nat (show k = p + runA innerB s p by have := HZ.out trivial; have := ha.out; omega), rfl⟩
      · go_wp2_with (first | (go_at_call 45; refine (HI _).out.mono ?_; rintro e w' ⟨rfl, rfl⟩))
        go_round
        case rel => exact ⟨k + 1, by omega, by go_num, by have := HY.out trivial; have := ha.out; unfold Hid; omega⟩
        case measure => simp [intOf]; omega
    · have HE := Lib.hid (runA_end (f := innerB) (s := s) (p := k) (by omega))
      go_wp2
      go_ret
      exact ⟨ret_nat (show k = p + runA innerB s p by have := HE.out; have := ha.out; omega), rfl⟩
theorem run2_any (s : ByteArray) (hs : s.size ≤ 9223372036854775807) (p : Nat) (hp : p ≤ s.size) (w : World) : Calls Try.prog 43 #[.string s, .int .i64 p, .func (.func 47) #[] #[]] w fun e w' => e = .returned (.int .i64 ((p + runA weightB s p : Nat) : Int)) ∧ w = w' := by
  go_enter Try.func43, Try.ntmps43
  go_wp2
  go_loop [1] (fun i => ∃ k : Nat, k ≤ s.size ∧ i = .int .i64 k ∧ Hid (k + runA weightB s k = p + runA weightB s p)) (fun i => s.size - (intOf i).toNat)
  case atStart => exact ⟨p, hp, rfl, rfl⟩
  case round =>
    obtain ⟨k, hk, rfl, ha⟩ := hrel
    by_cases hlt : k < s.size
    · have HI := fun W => Lib.hid (w2_any (s[k].toNat : Int) W)
      have HY := Lib.hid (fun h => runA_yes (f := weightB) (s := s) (p := k) hlt h)
      have HZ := Lib.hid (fun h => runA_no (f := weightB) (s := s) (p := k) hlt h)
      generalize weightB (s[k].toNat : Int) = x at *
      cases x
      · go_wp2_with (first | (go_at_call 47; refine (HI _).out.mono ?_; rintro e w' ⟨rfl, rfl⟩))
        go_ret
        exact ⟨ret_nat (show k = p + runA weightB s p by have := HZ.out trivial; have := ha.out; omega), rfl⟩
      · go_wp2_with (first | (go_at_call 47; refine (HI _).out.mono ?_; rintro e w' ⟨rfl, rfl⟩))
        go_round
        case rel => exact ⟨k + 1, by omega, by go_num, by have := HY.out trivial; have := ha.out; unfold Hid; omega⟩
        case measure => simp [intOf]; omega
    · have HE := Lib.hid (runA_end (f := weightB) (s := s) (p := k) (by omega))
      go_wp2
      go_ret
      exact ⟨ret_nat (show k = p + runA weightB s p by have := HE.out; have := ha.out; omega), rfl⟩
theorem run3_any (s : ByteArray) (hs : s.size ≤ 9223372036854775807) (p : Nat) (hp : p ≤ s.size) (w : World) : Calls Try.prog 43 #[.string s, .int .i64 p, .func (.func 62) #[] #[]] w fun e w' => e = .returned (.int .i64 ((p + runA quotableB s p : Nat) : Int)) ∧ w = w' := by
  go_enter Try.func43, Try.ntmps43
  go_wp2
  go_loop [1] (fun i => ∃ k : Nat, k ≤ s.size ∧ i = .int .i64 k ∧ Hid (k + runA quotableB s k = p + runA quotableB s p)) (fun i => s.size - (intOf i).toNat)
  case atStart => exact ⟨p, hp, rfl, rfl⟩
  case round =>
    obtain ⟨k, hk, rfl, ha⟩ := hrel
    by_cases hlt : k < s.size
    · have HI := fun W => Lib.hid (w3_any (s[k].toNat : Int) W)
      have HY := Lib.hid (fun h => runA_yes (f := quotableB) (s := s) (p := k) hlt h)
      have HZ := Lib.hid (fun h => runA_no (f := quotableB) (s := s) (p := k) hlt h)
      generalize quotableB (s[k].toNat : Int) = x at *
      cases x
      · go_wp2_with (first | (go_at_call 62; refine (HI _).out.mono ?_; rintro e w' ⟨rfl, rfl⟩))
        go_ret
        exact ⟨ret_nat (show k = p + runA quotableB s p by have := HZ.out trivial; have := ha.out; omega), rfl⟩
      · go_wp2_with (first | (go_at_call 62; refine (HI _).out.mono ?_; rintro e w' ⟨rfl, rfl⟩))
        go_round
        case rel => exact ⟨k + 1, by omega, by go_num, by have := HY.out trivial; have := ha.out; unfold Hid; omega⟩
        case measure => simp [intOf]; omega
    · have HE := Lib.hid (runA_end (f := quotableB) (s := s) (p := k) (by omega))
      go_wp2
      go_ret
      exact ⟨ret_nat (show k = p + runA quotableB s p by have := HE.out; have := ha.out; omega), rfl⟩
theorem blank_of {c : Int} (h : (c == 32) = true ∨ (c == 9) = true ∨ (c == 13) = true ∨ (c == 10) = true) : blankB c = true := by
  simp only [beq_iff_eq] at h
  rcases h with h | h | h | h <;> (subst h; rfl)
theorem nblank_of {c : Int} (h1 : (c == 32) = false) (h2 : (c == 9) = false) (h3 : (c == 13) = false) (h4 : (c == 10) = false) : blankB c = false := by
  simp only [beq_eq_false_iff_ne] at h1 h2 h3 h4
  simp [blankB, h1, h2, h3, h4]
theorem skip_any (s : ByteArray) (hs : s.size ≤ 9223372036854775807) (p : Nat) (hp : p ≤ s.size) (w : World) : Calls Try.prog 26 #[.string s, .int .i64 p] w fun e w' => e = .returned (.int .i64 ((p + skipA false s p : Nat) : Int)) ∧ w = w' := by
  go_enter Try.func26, Try.ntmps26
  go_wp2
  go_loop [1] (fun i => ∃ k : Nat, k ≤ s.size ∧ i = .int .i64 k ∧ Hid (k + skipA false s k = p + skipA false s p)) (fun i => s.size - (intOf i).toNat)
  case atStart => exact ⟨p, hp, rfl, rfl⟩
  case round =>
    obtain ⟨k, hk, rfl, ha⟩ := hrel
    by_cases hlt : k < s.size
    · have HB := Lib.hid (fun h => skipA_blank (s := s) (p := k) hlt h)
      have HH := Lib.hid (fun h => skipA_remark (s := s) (p := k) hlt h)
      have HW := Lib.hid (fun h => skipA_word (s := s) (p := k) hlt h)
      have HL := fun W => Lib.hid (run0_any s hs k hk W)
      have HRL := Lib.hid (runA_le lineB s k)
      have HR1 := Lib.hid (fun h => runA_yes (f := lineB) (s := s) (p := k) hlt h)
      go_wp2_with (first | (go_at_call 43; refine (HL _).out.mono ?_; rintro e w' ⟨rfl, rfl⟩))
      · go_round
        case rel => exact ⟨k + 1, by omega, by go_num, by have := HB.out (blank_of (.inl ‹_›)); have := ha.out; unfold Hid; omega⟩
        case measure => simp [intOf]; omega
      · go_round
        case rel => exact ⟨k + 1, by omega, by go_num, by have := HB.out (blank_of (.inr (.inl ‹_›))); have := ha.out; unfold Hid; omega⟩
        case measure => simp [intOf]; omega
      · go_round
        case rel => exact ⟨k + 1, by omega, by go_num, by have := HB.out (blank_of (.inr (.inr (.inl ‹_›)))); have := ha.out; unfold Hid; omega⟩
        case measure => simp [intOf]; omega
      · go_round
        case rel => exact ⟨k + 1, by omega, by go_num, by have := HB.out (blank_of (.inr (.inr (.inr ‹_›)))); have := ha.out; unfold Hid; omega⟩
        case measure => simp [intOf]; omega
      · have h35 : ((s[k].toNat : Int) == 35) = true := by assumption
        have e35 : (s[k].toNat : Int) = 35 := by simpa using h35
        have g1 := HH.out e35
        have g2 := HR1.out (by rw [e35]; rfl)
        have g3 := HRL.out
        have g4 := ha.out
        go_round
        case rel => exact ⟨k + runA lineB s k, by omega, by go_num, by unfold Hid; omega⟩
        case measure => simp [intOf]; omega
      · go_ret
        exact ⟨ret_nat (by
          have := HW.out (nblank_of ‹_› ‹_› ‹_› ‹_›) (by simpa using (‹((s[k].toNat : Int) == 35) = false› : ((s[k].toNat : Int) == 35) = false))
          have := ha.out
          omega), rfl⟩
    · have HE := Lib.hid (skipA_end (b := false) (s := s) (p := k) (by omega))
      go_wp2
      go_ret
      exact ⟨ret_nat (show k = p + skipA false s p by have := HE.out; have := ha.out; omega), rfl⟩
end Go.Proofs.Yticdihfjnmjkmaa
