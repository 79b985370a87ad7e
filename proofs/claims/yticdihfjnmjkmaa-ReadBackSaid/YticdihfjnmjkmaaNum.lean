/- Numbers in a text: their digits, their value. Plain, and the program's looks at digits. -/
import Derived.Test.YticdihfjnmjkmaaRun
import Derived.Laws.FloatArith
namespace Go.Proofs.Yticdihfjnmjkmaa
open Go.RowKit
/-- The number that digits tell, behind a. -/
def numA : Nat → List UInt8 → Nat
  | a, [] => a
  | a, c :: r => numA (10 * a + (c.toNat - 48)) r
def digC (c : UInt8) : Bool := digitB (c.toNat : Int)
theorem numA_append : ∀ (x y : List UInt8) (a : Nat), numA a (x ++ y) = numA (numA a x) y
  | [], _, _ => rfl
  | _ :: r, y, _ => numA_append r y _
theorem digC_iff {c : UInt8} : digC c = true ↔ 48 ≤ c.toNat ∧ c.toNat ≤ 57 := by
  unfold digC digitB
  simp
  omega
theorem numA_lt : ∀ (l : List UInt8) (a k : Nat), l.all digC = true → a < 10 ^ k → numA a l < 10 ^ (k + l.length)
  | [], a, k, _, h => h
  | c :: r, a, k, hd, h => by
    simp only [List.all_cons, Bool.and_eq_true] at hd
    have h1 := digC_iff.1 hd.1
    have h2 := numA_lt r (10 * a + (c.toNat - 48)) (k + 1) hd.2 (by rw [Nat.pow_succ]; omega)
    have e : k + 1 + r.length = k + (c :: r).length := by simp; omega
    rw [e] at h2
    exact h2
/-- Is a text made of digits, lo to hi of them? -/
def digsB (l : List UInt8) (lo hi : Int) : Bool := l.all digC && (decide (lo ≤ (l.length : Int)) && decide ((l.length : Int) ≤ hi))
theorem size_len (s : ByteArray) : s.data.toList.length = s.size := by simp
theorem tailL_zero (s : ByteArray) : tailL s 0 = s.data.toList := rfl
theorem all_tail {s : ByteArray} {k : Nat} (h : k < s.size) (f : UInt8 → Bool) : (tailL s k).all f = (f s[k] && (tailL s (k + 1)).all f) := by rw [tailL_cons h]; rfl
theorem all_tail_end {s : ByteArray} {k : Nat} (h : s.size ≤ k) (f : UInt8 → Bool) : (tailL s k).all f = true := by rw [tailL_end h]; rfl
theorem num_tail {s : ByteArray} {k : Nat} (h : k < s.size) (a : Nat) : numA a (tailL s k) = numA (10 * a + (s[k].toNat - 48)) (tailL s (k + 1)) := by rw [tailL_cons h]; rfl
theorem num_tail_end {s : ByteArray} {k : Nat} (h : s.size ≤ k) (a : Nat) : numA a (tailL s k) = a := by rw [tailL_end h]; rfl
theorem digits_any (s : ByteArray) (hs : s.size ≤ 9223372036854775807) (lo hi : Int) (w : World) : Calls Try.prog 67 #[.string s, .int .i64 lo, .int .i64 hi] w fun e w' => e = .returned (.bool (digsB s.data.toList lo hi)) ∧ w = w' := by
  have HD := Lib.hid (show digsB s.data.toList lo hi = ((tailL s 0).all digC && (decide (lo ≤ (s.size : Int)) && decide ((s.size : Int) ≤ hi))) by unfold digsB; rw [size_len, tailL_zero])
  generalize digsB s.data.toList lo hi = r at *
  go_enter Try.func67, Try.ntmps67
  go_wp2
  go_loop [7, 10] (fun _ i => ∃ k : Nat, k ≤ s.size ∧ i = .int .i64 k ∧ Hid ((tailL s k).all digC = (tailL s 0).all digC)) (fun _ i => s.size - (intOf i).toNat)
  case atStart => exact ⟨0, Nat.zero_le _, rfl, rfl⟩
  case round =>
    obtain ⟨k, hk, rfl, ha⟩ := hrel
    by_cases hlt : k < s.size
    · have HA := Lib.hid (all_tail hlt digC)
      by_cases hd : digC s[k] = true
      · obtain ⟨d1, d2⟩ := digC_iff.1 hd
        have d3 : (48 : Int) ≤ (s[k].toNat : Int) := by omega
        have d4 : (s[k].toNat : Int) ≤ 57 := by omega
        have HDD := Lib.hid hd
        clear hd d1 d2
        go_wp2
        go_round
        case rel => exact ⟨k + 1, by omega, by go_num, by have h1 := HA.out; rw [HDD.out, Bool.true_and] at h1; unfold Hid; rw [← h1]; exact ha.out⟩
        case measure => simp [intOf]; omega
      · have hn : ¬ (48 ≤ s[k].toNat ∧ s[k].toNat ≤ 57) := fun h => hd (digC_iff.2 h)
        have HF := Lib.hid (show r = false by
          have h1 := HA.out
          have h2 := ha.out
          rw [Bool.not_eq_true] at hd
          rw [hd, Bool.false_and] at h1
          rw [HD.out, ← h2, h1]; rfl)
        clear hd
        by_cases h48 : (s[k].toNat : Int) < 48
        · go_wp2
          go_ret
          exact ⟨by rw [HF.out]; rfl, rfl⟩
        · have h57 : (57 : Int) < (s[k].toNat : Int) := by omega
          go_wp2
          go_ret
          exact ⟨by rw [HF.out]; rfl, rfl⟩
    · have HT := Lib.hid (all_tail_end (s := s) (k := k) (by omega) digC)
      have HR := Lib.hid (show r = (decide (lo ≤ (s.size : Int)) && decide ((s.size : Int) ≤ hi)) by rw [HD.out, ← ha.out, HT.out, Bool.true_and])
      clear ha
      by_cases h1 : lo ≤ (s.size : Int)
      all_goals by_cases h2 : (s.size : Int) ≤ hi
      all_goals
        go_wp2
        go_ret
        exact ⟨by rw [HR.out]; simp [h1, h2], rfl⟩
theorem ret_fl {a b : Nat} (h : a = b) : Ending.returned (.float .f64 (floatOfInt .f64 (a : Int))) = .returned (.float .f64 (floatOfInt .f64 (b : Int))) := by rw [h]
theorem pow_le15 {k : Nat} (h : k ≤ 14) {x : Nat} (hx : x < 10 ^ k) : x ≤ 99999999999999 := by
  have h1 : 10 ^ k ≤ 10 ^ 14 := Nat.pow_le_pow_right (by omega) h
  have h2 : (10 : Nat) ^ 14 = 100000000000000 := by decide
  omega
theorem whole_any (s : ByteArray) (hs : s.size ≤ 15) (hd : s.data.toList.all digC = true) (w : World) : Calls Try.prog 68 #[.string s] w fun e w' => e = .returned (.float .f64 (floatOfInt .f64 (numA 0 s.data.toList : Nat))) ∧ w = w' := by
  have HD := Lib.hid (show (tailL s 0).all digC = true from hd)
  have HE := Lib.hid (show numA 0 s.data.toList = numA 0 (tailL s 0) from rfl)
  generalize numA 0 s.data.toList = r at *
  clear hd
  go_enter Try.func68, Try.ntmps68
  go_wp2
  go_loop [3, 4, 7] (fun n _ i => ∃ k x : Nat, k ≤ s.size ∧ i = .int .i64 k ∧ n = .int .i64 x ∧ Hid (x < 10 ^ k) ∧ Hid (numA x (tailL s k) = r) ∧ Hid ((tailL s k).all digC = true)) (fun _ _ i => s.size - (intOf i).toNat)
  case atStart => exact ⟨0, 0, Nat.zero_le _, rfl, rfl, by unfold Hid; decide, HE.out.symm, HD⟩
  case round =>
    obtain ⟨k, x, hk, rfl, rfl, hx, ha, hall⟩ := hrel
    by_cases hlt : k < s.size
    · have hA : digC s[k] = true ∧ (tailL s (k + 1)).all digC = true := by
        have h1 := all_tail hlt digC
        rw [hall.out] at h1
        simpa [Bool.and_eq_true] using h1.symm
      have HN := Lib.hid (num_tail hlt x)
      obtain ⟨d1, d2⟩ := digC_iff.1 hA.1
      have HT := Lib.hid hA.2
      have hx14 := pow_le15 (show k ≤ 14 by omega) hx.out
      clear hA
      go_wp2
      go_round
      case rel =>
        refine ⟨k + 1, 10 * x + (s[k].toNat - 48), by omega, by go_num, ?_, ?_, ?_, HT⟩
        · exact congrArg (Value.int .i64) (by omega)
        · have := hx.out; unfold Hid; rw [Nat.pow_succ]; omega
        · have := HN.out; unfold Hid; rw [← this]; exact ha.out
      case measure => simp [intOf]; omega
    · have HT := Lib.hid (num_tail_end (s := s) (k := k) (by omega) x)
      go_wp2
      go_ret
      exact ⟨ret_fl (by have h1 := HT.out; rw [ha.out] at h1; exact h1.symm), rfl⟩
end Go.Proofs.Yticdihfjnmjkmaa
