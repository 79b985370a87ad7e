/- The program's looks at names and quotes; the reference's blanks and signs. -/
import Derived.Test.YticdihfjnmjkmaaSame
namespace Go.Proofs.Yticdihfjnmjkmaa
open Go.RowKit
/-- Begins it with a letter? -/
def headB (s : ByteArray) : Bool := if h : 0 < s.size then letterB (s[0].toNat : Int) else false
theorem nameB_eq (s : ByteArray) : nameB s = (decide (1 ≤ s.size) && decide (s.size ≤ 24) && headB s && allB innerB s s.size) := rfl
theorem headB_pos {s : ByteArray} (h : 0 < s.size) : headB s = letterB (s[0].toNat : Int) := dif_pos h
theorem pname_any (s : ByteArray) (hs : s.size ≤ 9223372036854775807) (w : World) : Calls Try.prog 14 #[.string s] w fun e w' => e = .returned (.bool (nameB s)) ∧ w = w' := by
  have HN := Lib.hid (nameB_eq s)
  generalize nameB s = r at *
  go_enter Try.func14, Try.ntmps14
  go_wp2
  go_loop [3, 6] (fun _ i => ∃ k : Nat, k ≤ s.size ∧ i = .int .i64 k ∧ Hid (allB innerB s k = true) ∧ Hid (0 < k → headB s = true)) (fun _ i => s.size - (intOf i).toNat)
  case atStart => exact ⟨0, by omega, rfl, allB_zero _ _, Lib.hid (fun h => absurd h (by omega))⟩
  case round =>
    obtain ⟨k, hk, rfl, ha, hh⟩ := hrel
    by_cases hlt : k < s.size
    · have HS := Lib.hid (allB_succ innerB s k hlt)
      have HF := Lib.hid (fun h => allB_false innerB s k hlt h)
      have HL := fun W => Lib.hid (pletter_any (s[k].toNat : Int) W)
      have HD := fun W => Lib.hid (pdigit_any (s[k].toNat : Int) W)
      have HI := Lib.hid (show innerB (s[k].toNat : Int) = (letterB (s[k].toNat : Int) || digitB (s[k].toNat : Int) || decide ((s[k].toNat : Int) = 95)) from rfl)
      have HH := Lib.hid (show k = 0 → headB s = letterB (s[k].toNat : Int) by rintro rfl; exact headB_pos hlt)
      generalize innerB (s[k].toNat : Int) = i at *
      generalize letterB (s[k].toNat : Int) = x at *
      generalize digitB (s[k].toNat : Int) = y at *
      cases x
      · by_cases hk0 : k = 0
        · have hkb : ((k : Int) == 0) = true := by simp [hk0]
          have HR := Lib.hid (show r = false by rw [HN.out, HH.out hk0]; simp)
          clear hk0
          go_wp2_with (first | (go_at_call 30; refine (HL _).out.mono ?_; rintro e w' ⟨rfl, rfl⟩))
          go_ret
          exact ⟨by rw [HR.out]; rfl, rfl⟩
        · have hkb : ((k : Int) == 0) = false := by simp; omega
          have HK := Lib.hid (hh.out (by omega))
          cases y
          · by_cases h95 : (s[k].toNat : Int) = 95
            · have h1 : ((s[k].toNat : Int) != 95) = false := by simpa using h95
              have HY := Lib.hid (show allB innerB s (k + 1) = true by rw [HS.out, ha.out, HI.out]; simpa using h95)
              clear h95
              go_wp2_with (first | (go_at_call 30; refine (HL _).out.mono ?_; rintro e w' ⟨rfl, rfl⟩) | (go_at_call 31; refine (HD _).out.mono ?_; rintro e w' ⟨rfl, rfl⟩))
              go_round
              case rel => exact ⟨k + 1, by omega, by go_num, HY, Lib.hid (fun _ => HK.out)⟩
              case measure => simp [intOf]; omega
            · have h1 : ((s[k].toNat : Int) != 95) = true := by simpa using h95
              have HR := Lib.hid (show r = false by rw [HN.out, HF.out (by rw [HI.out]; simpa using h95)]; simp)
              clear h95
              go_wp2_with (first | (go_at_call 30; refine (HL _).out.mono ?_; rintro e w' ⟨rfl, rfl⟩) | (go_at_call 31; refine (HD _).out.mono ?_; rintro e w' ⟨rfl, rfl⟩))
              go_ret
              exact ⟨by rw [HR.out]; rfl, rfl⟩
          · have HY := Lib.hid (show allB innerB s (k + 1) = true by rw [HS.out, ha.out, HI.out]; simp)
            go_wp2_with (first | (go_at_call 30; refine (HL _).out.mono ?_; rintro e w' ⟨rfl, rfl⟩) | (go_at_call 31; refine (HD _).out.mono ?_; rintro e w' ⟨rfl, rfl⟩))
            go_round
            case rel => exact ⟨k + 1, by omega, by go_num, HY, Lib.hid (fun _ => HK.out)⟩
            case measure => simp [intOf]; omega
      · have HY := Lib.hid (show allB innerB s (k + 1) = true by rw [HS.out, ha.out, HI.out]; simp)
        have HK := Lib.hid (show headB s = true by
          rcases Nat.eq_zero_or_pos k with h | h
          · exact HH.out h
          · exact hh.out h)
        go_wp2_with (first | (go_at_call 30; refine (HL _).out.mono ?_; rintro e w' ⟨rfl, rfl⟩))
        go_round
        case rel => exact ⟨k + 1, by omega, by go_num, HY, Lib.hid (fun _ => HK.out)⟩
        case measure => simp [intOf]; omega
    · obtain rfl : k = s.size := by omega
      have HR := Lib.hid (show r = (decide (1 ≤ s.size) && decide (s.size ≤ 24)) by
        rw [HN.out, ha.out]
        rcases Nat.eq_zero_or_pos s.size with h | h
        · simp [h]
        · rw [hh.out h]; simp)
      clear hlt hk
      by_cases h1 : 1 ≤ (s.size : Int)
      all_goals by_cases h2 : (s.size : Int) ≤ 24
      all_goals
        go_wp2
        go_ret
        exact ⟨by rw [HR.out]; simp; omega, rfl⟩
theorem quotable_val (c : Int) (h0 : 0 ≤ c) : quotableB c = (!decide (c < 32) && !decide (126 < c) && !decide (c = 39)) := by
  unfold quotableB
  by_cases a : c < 32
  · simp [a]; omega
  · by_cases b : 126 < c
    · simp [a, b]; omega
    · by_cases d : c = 39
      · simp [d]
      · simp [a, b, d]; omega
theorem pquote_any (s : ByteArray) (hs : s.size ≤ 9223372036854775807) (w : World) : Calls Try.prog 16 #[.string s] w fun e w' => e = .returned (.bool (quoteB s)) ∧ w = w' := by
  have HN : Hid (quoteB s = (allB quotableB s s.size && decide (1 ≤ s.size) && decide (s.size ≤ 16))) := Lib.hid rfl
  generalize quoteB s = r at *
  go_enter Try.func16, Try.ntmps16
  go_wp2
  go_loop [3, 6] (fun _ i => ∃ k : Nat, k ≤ s.size ∧ i = .int .i64 k ∧ Hid (allB quotableB s k = true)) (fun _ i => s.size - (intOf i).toNat)
  case atStart => exact ⟨0, by omega, rfl, allB_zero _ _⟩
  case round =>
    obtain ⟨k, hk, rfl, ha⟩ := hrel
    by_cases hlt : k < s.size
    · have HS := Lib.hid (allB_succ quotableB s k hlt)
      have HF := Lib.hid (fun h => allB_false quotableB s k hlt h)
      have HQ := Lib.hid (quotable_val (s[k].toNat : Int) (by omega))
      by_cases a1 : (s[k].toNat : Int) < 32
      · have HR := Lib.hid (show r = false by rw [HN.out, HF.out (by rw [HQ.out]; simp [a1])]; simp)
        go_wp2
        go_ret
        exact ⟨by rw [HR.out]; rfl, rfl⟩
      by_cases a2 : 126 < (s[k].toNat : Int)
      · have HR := Lib.hid (show r = false by rw [HN.out, HF.out (by rw [HQ.out]; simp [a2])]; simp)
        go_wp2
        go_ret
        exact ⟨by rw [HR.out]; rfl, rfl⟩
      by_cases a3 : (s[k].toNat : Int) = 39
      · have HR := Lib.hid (show r = false by rw [HN.out, HF.out (by rw [HQ.out]; simp [a3])]; simp)
        have h1 : ((s[k].toNat : Int) == 39) = true := by simpa using a3
        clear a3
        go_wp2
        go_ret
        exact ⟨by rw [HR.out]; rfl, rfl⟩
      have HY := Lib.hid (show allB quotableB s (k + 1) = true by rw [HS.out, ha.out, HQ.out]; simp [a3]; omega)
      have h1 : ((s[k].toNat : Int) == 39) = false := by simpa using a3
      clear a3
      go_wp2
      go_round
      case rel => exact ⟨k + 1, by omega, by go_num, HY⟩
      case measure => simp [intOf]; omega
    · obtain rfl : k = s.size := by omega
      have HR := Lib.hid (show r = (decide (1 ≤ s.size) && decide (s.size ≤ 16)) by rw [HN.out, ha.out]; simp)
      clear hlt hk
      by_cases h1 : 1 ≤ (s.size : Int)
      all_goals by_cases h2 : (s.size : Int) ≤ 16
      all_goals
        go_wp2
        go_ret
        exact ⟨by rw [HR.out]; simp; omega, rfl⟩
end Go.Proofs.Yticdihfjnmjkmaa
