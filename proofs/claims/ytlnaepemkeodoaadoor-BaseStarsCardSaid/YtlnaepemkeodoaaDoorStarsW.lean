/- What a star makes known: the walk. -/
import Derived.Test.YtlnaepemkeodoaaDoorStars
import Derived.Test.YtlnaepemkeodoaaDoorBackW
namespace Go.Proofs.YtlnaepemkeodoaaDoor
open Go.RowKit
theorem word_bad {l : List UInt8} {c : UInt8} (h : c ∈ l) (hc : letB c = false) : wordB l = false := by
  rw [Bool.eq_false_iff]
  intro hw
  unfold wordB at hw
  rw [Bool.and_eq_true, Bool.and_eq_true, List.all_eq_true] at hw
  rw [hw.1.1 c h] at hc
  cases hc
set_option maxHeartbeats 1000000 in
theorem word_any (s : ByteArray) (hs : s.size ≤ maxLen) (w : World) : Calls Tryd.prog 10 #[.string s] w fun e w' => e = .returned (.bool (wordB s.data.toList)) ∧ w' = w := by
  have h63 : s.size ≤ 9223372036854775807 := hs
  clear hs
  have HB := Lib.hid (fun k (hk : k < s.size) (h : letB s[k] = false) => word_bad (l := s.data.toList) (c := s[k]) (by
    have : s[k] = s.data.toList[k]'(by simpa using hk) := rfl
    rw [this]; exact List.getElem_mem _) h)
  have HS := Lib.hid (fun k (hk : k < s.size) => byteSplit s k hk)
  have HE := Lib.hid (fun (h : ∀ c ∈ s.data.toList.take s.size, letB c = true) => show wordB s.data.toList = (decide (1 ≤ s.size) && decide (s.size ≤ 20)) from by
    have hl : s.data.toList.length = s.size := by simp
    rw [List.take_of_length_le (by omega)] at h
    unfold wordB
    rw [List.all_eq_true.2 h, hl, Bool.true_and])
  generalize wordB s.data.toList = R at *
  go_enter Tryd.func10, Tryd.ntmps10
  go_wp2
  go_loop [6] (fun i => ∃ k : Nat, k ≤ s.size ∧ i = .int .i64 k ∧ Hid (∀ c ∈ s.data.toList.take k, letB c = true)) (fun i => s.size - (intOf i).toNat)
  case atStart => exact ⟨0, by omega, rfl, Lib.hid (fun c hc => by simp at hc)⟩
  case round =>
    obtain ⟨k, hk, rfl, hr⟩ := hrel
    by_cases hlt : k < s.size
    · have hki : (k : Int) < s.size := by omega
      have HSk := Lib.hid (HS.out k hlt)
      by_cases h1 : (s[k].toNat : Int) < 97
      · have hR := HB.out k hlt (by unfold letB; rw [decide_eq_true h1]; rfl)
        go_wp2
        all_goals (first | exact ⟨rfl, rfl⟩ | (go_ret; exact ⟨rfl, rfl⟩))
      · by_cases h2 : 122 < (s[k].toNat : Int)
        · have hR := HB.out k hlt (by unfold letB; rw [decide_eq_true h2, Bool.or_true]; rfl)
          go_wp2
          all_goals (first | exact ⟨rfl, rfl⟩ | (go_ret; exact ⟨rfl, rfl⟩))
        · have hlb : letB s[k] = true := by unfold letB; rw [decide_eq_false h1, decide_eq_false h2]; rfl
          go_wp2
          go_round
          case rel =>
            refine ⟨k + 1, by omega, by go_num, Lib.hid (fun c hc => ?_)⟩
            rw [HSk.out, List.mem_append] at hc
            rcases hc with hc | hc
            · exact hr.out c hc
            · rw [List.mem_singleton] at hc
              rw [hc]; exact hlb
          case measure => simp [intOf]; omega
    · obtain rfl : k = s.size := by omega
      have hR := HE.out hr.out
      by_cases h1 : 1 ≤ s.size
      · have h1i : (1 : Int) ≤ s.size := by omega
        by_cases h2 : s.size ≤ 20
        · have h2i : (s.size : Int) ≤ 20 := by omega
          rw [decide_eq_true h1, decide_eq_true h2] at hR
          go_wp2
          all_goals (first | exact ⟨rfl, rfl⟩ | (go_ret; exact ⟨rfl, rfl⟩))
        · have h2i : ¬ (s.size : Int) ≤ 20 := by omega
          rw [decide_eq_true h1, decide_eq_false h2] at hR
          go_wp2
          all_goals (first | exact ⟨rfl, rfl⟩ | (go_ret; exact ⟨rfl, rfl⟩))
      · have h1i : ¬ (1 : Int) ≤ s.size := by omega
        rw [decide_eq_false h1] at hR
        go_wp2
        all_goals (first | exact ⟨rfl, rfl⟩ | (go_ret; exact ⟨rfl, rfl⟩))
theorem bytes_eq {a b : ByteArray} (h : a.data.toList = b.data.toList) : a = b := by rw [← bOf_self a, ← bOf_self b, h]
end Go.Proofs.YtlnaepemkeodoaaDoor
