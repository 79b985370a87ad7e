/- The weight of a text: the sign's bit. Plain. -/
import Derived.Test.YticdihfjnmjkmaaRefN
import Derived.Laws.BitsAllLaws
namespace Go.Proofs.Yticdihfjnmjkmaa
open Go.RowKit
theorem or_sign (f : Nat) (hf : f < 2 ^ 64) : (f &&& (2 ^ 63 - 1)) ||| 2 ^ 63 = f ||| 2 ^ 63 := by
  apply Nat.eq_of_testBit_eq
  intro j
  simp only [Nat.testBit_or, Nat.testBit_and, Nat.testBit_two_pow_sub_one, Nat.testBit_two_pow]
  by_cases h1 : j < 63
  · simp [h1]
  · by_cases h2 : 63 = j
    · simp [h2]
    · have h3 : f.testBit j = false := Nat.testBit_lt_two_pow (Nat.lt_of_lt_of_le hf (Nat.pow_le_pow_right (by omega) (by omega)))
      rw [h3]
      simp
theorem setS_or (f : Nat) (hf : f < 18446744073709551616) : (bits .or .u64 (f : Int) 9223372036854775808).toNat = setS f := by
  have e1 := u64_or (f : Int) 9223372036854775808 (by omega) (by omega) (by omega) (by omega)
  have e2 := u64_andNot (f : Int) 9223372036854775808 (by omega) (by omega) (by omega) (by omega)
  have e3 := u64_and 13830554455654793216 9223372036854775808 (by omega) (by omega) (by omega) (by omega)
  unfold setS
  rw [e2, e3]
  have h4 : (f &&& (2 ^ 63 - 1)) < 2 ^ 64 := Nat.lt_of_le_of_lt Nat.and_le_left (by omega)
  have e4 := u64_or_nat (f &&& (2 ^ 63 - 1)) (2 ^ 63) h4 (by decide)
  rw [e1]
  have e5 : ((Int.toNat 13830554455654793216 &&& Int.toNat 9223372036854775808 : Nat)) = 2 ^ 63 := by decide
  rw [e5]
  have e6 : ((f : Int).toNat &&& (18446744073709551615 - Int.toNat 9223372036854775808)) = (f &&& (2 ^ 63 - 1)) := by
    rw [Int.toNat_natCast]
    congr 1
  rw [e6, e4, Int.toNat_natCast, Int.toNat_natCast, Int.toNat_natCast, or_sign f hf]
  rfl
theorem quoF_lt (a k : Nat) (hk : k ≤ 6) : quoF a (10 ^ k) < 18446744073709551616 := by
  have h := floatBits_wf (quoF_run a k hk)
  simpa [Lit.wf] using h
end Go.Proofs.Yticdihfjnmjkmaa
