/- The weight of a text: the reference's Read. -/
import Derived.Test.YticdihfjnmjkmaaRefS
namespace Go.Proofs.Yticdihfjnmjkmaa
open Go.RowKit
theorem rread_nan (w : World) : Calls Try.prog 42 #[.string ⟨#[110, 97, 110]⟩] w (ReadPost [110, 97, 110] w) := by
  have hb := from_run
  go_enter Try.func42, Try.ntmps42
  go_wp2
  go_ret2
  exact ⟨rfl, Below.refl _ _⟩
theorem rread_inf (w : World) : Calls Try.prog 42 #[.string ⟨#[105, 110, 102]⟩] w (ReadPost [105, 110, 102] w) := by
  have hb := from_run
  go_enter Try.func42, Try.ntmps42
  go_wp2
  go_ret2
  exact ⟨rfl, Below.refl _ _⟩
theorem rread_minf (w : World) : Calls Try.prog 42 #[.string ⟨#[45, 105, 110, 102]⟩] w (ReadPost [45, 105, 110, 102] w) := by
  have hb := from_run
  go_enter Try.func42, Try.ntmps42
  go_wp2
  go_ret2
  exact ⟨rfl, Below.refl _ _⟩
section
variable (s : ByteArray) (h1 : (s.toList == [110, 97, 110]) = false) (h2 : (s.toList == [105, 110, 102]) = false) (h3 : (s.toList == [45, 105, 110, 102]) = false) (w : World)
include h1 h2 h3
theorem rread_no (HP : ∀ W, Hid (Calls Try.prog 61 #[.string s] W fun e w' => e = .returned (.tuple #[.bool false, .string ⟨#[]⟩, .string ⟨#[]⟩, .bool false]) ∧ Below W.heap.size W w')) :
    Calls Try.prog 42 #[.string s] w fun e w' => e = .returned (.tuple #[.float .f64 0, .bool false]) ∧ Below w.heap.size w w' := by
  go_enter Try.func42, Try.ntmps42
  go_wp2_with (first | (go_at_call 61; refine (HP _).out.mono ?_; rintro e w1 ⟨rfl, hb⟩))
  go_ret2
  exact ⟨rfl, hb⟩
set_option maxHeartbeats 400000 in
theorem rread_yes (p : Bool) (H T : ByteArray) (hz : H.size ≤ 9) (ht : T.size ≤ 6) (hd : (H.data.toList ++ T.data.toList).all digC = true) (q : Nat)
    (hq : ∀ W, Hid ((binOp .quo 34 (.float .f64 (floatOfInt .f64 (numA 0 (H.data.toList ++ T.data.toList) : Nat))) (.float .f64 (floatOfInt .f64 (10 ^ T.size : Nat)))).run Try.prog W = .ok (.float .f64 q) W))
    (HP : ∀ W, Hid (Calls Try.prog 61 #[.string s] W fun e w' => e = .returned (.tuple #[.bool p, .string H, .string T, .bool true]) ∧ Below W.heap.size W w')) :
    Calls Try.prog 42 #[.string s] w fun e w' => e = .returned (.tuple #[.float .f64 (if p = true then (bits .or .u64 (q : Int) 9223372036854775808).toNat else q), .bool true]) ∧ Below w.heap.size w w' := by
  have hf := from_run
  have hbits := bits_run
  rw [List.all_append, Bool.and_eq_true] at hd
  have HDH := Lib.hid (show (tailL H 0).all digC = true from hd.1)
  have HDT := Lib.hid (show (tailL T 0).all digC = true from hd.2)
  have HE := Lib.hid (show numA 0 (H.data.toList ++ T.data.toList) = numA (numA 0 (tailL H 0)) (tailL T 0) by rw [numA_append]; rfl)
  have HB1 := Lib.hid (numA_lt (tailL H 0) 0 0 hd.1 (by decide))
  rw [tailL_len, Nat.sub_zero, Nat.zero_add] at HB1
  generalize numA 0 (H.data.toList ++ T.data.toList) = n at *
  clear hd
  go_enter Try.func42, Try.ntmps42
  go_wp2_with (first | (go_at_call 61; refine (HP _).out.mono ?_; rintro e w1 ⟨rfl, hb⟩))
  go_loop [8, 10] (fun n i => ∃ k x : Nat, k ≤ H.size ∧ i = .int .i64 k ∧ n = .int .i64 x ∧ Hid (x < 10 ^ k) ∧ Hid (numA x (tailL H k) = numA 0 (tailL H 0)) ∧ Hid ((tailL H k).all digC = true)) (fun _ i => H.size - (intOf i).toNat)
  case atStart => exact ⟨0, 0, Nat.zero_le _, rfl, rfl, by unfold Hid; decide, rfl, HDH⟩
  case round =>
    obtain ⟨k, x, hk, rfl, rfl, hx, ha, hall⟩ := hrel
    by_cases hlt : k < H.size
    · have hA : digC H[k] = true ∧ (tailL H (k + 1)).all digC = true := by
        have h1 := all_tail hlt digC
        rw [hall.out] at h1
        simpa [Bool.and_eq_true] using h1.symm
      have HN := Lib.hid (num_tail hlt x)
      obtain ⟨d1, d2⟩ := digC_iff.1 hA.1
      have HT := Lib.hid hA.2
      have hx14 := pow_le15 (show k ≤ 14 by omega) hx.out
      clear hA
      go_wp2
      go_round
      case rel =>
        refine ⟨k + 1, 10 * x + (H[k].toNat - 48), by omega, by go_num, ?_, ?_, ?_, HT⟩
        · exact congrArg (Value.int .i64) (by omega)
        · have := hx.out; unfold Hid; rw [Nat.pow_succ]; omega
        · have := HN.out; unfold Hid; rw [← this]; exact ha.out
      case measure => simp [intOf]; omega
    · obtain rfl : k = H.size := by omega
      have HT := Lib.hid (num_tail_end (s := H) (k := H.size) (by omega) x)
      have HX := Lib.hid (show numA x (tailL T 0) = n by rw [HE.out, ← ha.out, HT.out])
      clear ha hall hlt hk
      go_wp2
      go_loop [8, 9, 11] (fun n1 d i => ∃ j y : Nat, j ≤ T.size ∧ i = .int .i64 j ∧ n1 = .int .i64 y ∧ d = .int .i64 (10 ^ j : Nat) ∧ Hid (y < 10 ^ (H.size + j)) ∧ Hid (numA y (tailL T j) = n) ∧ Hid ((tailL T j).all digC = true)) (fun _ _ i => T.size - (intOf i).toNat)
      case atStart => exact ⟨0, x, Nat.zero_le _, rfl, rfl, rfl, hx, HX, HDT⟩
      case round =>
        obtain ⟨j, y, hj, rfl, rfl, rfl, hy, hb2, hall2⟩ := hrel
        by_cases hlt2 : j < T.size
        · have hA : digC T[j] = true ∧ (tailL T (j + 1)).all digC = true := by
            have h1 := all_tail hlt2 digC
            rw [hall2.out] at h1
            simpa [Bool.and_eq_true] using h1.symm
          have HN := Lib.hid (num_tail hlt2 y)
          obtain ⟨d1, d2⟩ := digC_iff.1 hA.1
          have HTT := Lib.hid hA.2
          have hy14 := pow_le15 (show H.size + j ≤ 14 by omega) hy.out
          have hp1 := pow_le15 (show j + 1 ≤ 14 by omega) (Nat.pow_lt_pow_right (show 1 < 10 by omega) (show j < j + 1 by omega))
          have HPW := Lib.hid (Nat.pow_succ 10 j)
          clear hA
          generalize 10 ^ j = d at *
          go_wp2
          go_round
          case rel =>
            refine ⟨j + 1, 10 * y + (T[j].toNat - 48), by omega, by go_num, ?_, ?_, ?_, ?_, HTT⟩
            · exact congrArg (Value.int .i64) (by omega)
            · have := HPW.out; exact congrArg (Value.int .i64) (by omega)
            · have := hy.out; unfold Hid; rw [show H.size + (j + 1) = H.size + j + 1 by omega, Nat.pow_succ]; omega
            · have := HN.out; unfold Hid; rw [← this]; exact hb2.out
          case measure => simp [intOf]; omega
        · obtain rfl : j = T.size := by omega
          have HT2 := Lib.hid (num_tail_end (s := T) (k := T.size) (by omega) y)
          obtain rfl : y = n := by rw [← HT2.out]; exact hb2.out
          have hq' := fun W => (hq W).out
          generalize 10 ^ T.size = d at *
          cases p
          all_goals
            go_wp2
            go_ret2
            exact ⟨rfl, hb⟩
end
end Go.Proofs.Yticdihfjnmjkmaa
