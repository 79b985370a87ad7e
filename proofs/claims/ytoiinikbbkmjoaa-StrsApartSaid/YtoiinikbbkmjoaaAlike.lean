/- Whether two lists of words are alike. -/
import Derived.Test.YtoiinikbbkmjoaaAll
import Derived.Test.YtoiinikbbkmjoaaQuietTail
namespace Go.Proofs.Ytoiinikbbkmjoaa
open Go.RowKit
theorem lst_drewN {w : World} {a : Option Addr} {xs : List Int} (h : Lst w a xs) (n : Nat) : Lst (w.drewN n) a xs := h
set_option maxHeartbeats 1000000 in
theorem alike_any {a b : Option Addr} {ca cb : Nat} {A B : List (List Int)} {w : World} (ha : Lsts w a A) (hb : Lsts w b B) (hA : Short A) (hB : Short B) (hn : A.length ≤ 10000) (hn2 : B.length ≤ 10000) :
    Calls Try.prog 24 #[.slice a A.length ca, .slice b B.length cb] w fun e w' => e = .returned (.bool (decide (A = B))) ∧ Grow w w' := by
  have HA := Lib.hid ha
  have HB := Lib.hid hb
  have hdg : ∀ n, Grow w (w.drewN n) := fun n => ⟨rfl, rfl, rfl, Nat.le_refl _, fun _ _ => rfl⟩
  have HDG := Lib.hid hdg
  clear ha hb hdg
  by_cases hlen : A.length = B.length
  · have hne : ((A.length : Int) != (B.length : Int)) = false := by simp [hlen]
    go_enter Try.func24, Try.ntmps24
    go_wp2
    go_loopw [5] (fun i wr => ∃ k : Nat, k ≤ A.length ∧ i = .int .i64 k ∧ Hid (A.take k = B.take k) ∧ ∃ n, wr = w.drewN n) (fun i _ => A.length - (intOf i).toNat)
    case atStart => exact ⟨0, by omega, rfl, Lib.hid (by simp), 0, rfl⟩
    case round =>
      obtain ⟨k, hk, rfl, hf, n, rfl⟩ := hrel
      by_cases hlt : k < A.length
      · have hlt2 : k < B.length := by omega
        have hki : (k : Int) < A.length := by omega
        have hki2 : (k : Int) < B.length := by omega
        have hk0 : (0 : Int) ≤ k := by omega
        obtain ⟨b1, o1, a1, d1, rfl, hb1, hc1, hx1, -, -⟩ := HA.out k hlt
        obtain ⟨b2, o2, a2, d2, rfl, hb2, hc2, hx2, -, -⟩ := HB.out k hlt2
        have h1 := hA _ (List.getElem_mem hlt)
        have h2 := hB _ (List.getElem_mem hlt2)
        have HS := fun m => Lib.hid (same_any (ca := d1) (cb := d2) (w := w.drewN m) (lst_drewN hx1 m) (lst_drewN hx2 m) (by omega) (by omega))
        clear hx1 hx2 hlen
        by_cases he : A[k] = B[k]
        · have HT := Lib.hid (show A.take (k + 1) = B.take (k + 1) by rw [List.take_succ_eq_append_getElem hlt, List.take_succ_eq_append_getElem hlt2, hf.out, he])
          rw [decide_eq_true he] at HS
          clear he
          generalize A[k] = x at *
          generalize B[k] = y at *
          go_wp2
          go_quiet ((go_at_call 11; exact quiet_add (HS _).out))
          go_wp2
          go_roundw
          case rel => exact ⟨k + 1, by omega, by go_num, HT, _, rfl⟩
          case measure => simp [intOf]; omega
        · have HN : Hid (decide (A = B) = false) := Lib.hid (decide_eq_false (fun h => he (by subst h; rfl)))
          rw [decide_eq_false he] at HS
          clear he
          generalize A[k] = x at *
          generalize B[k] = y at *
          go_wp2
          go_quiet ((go_at_call 11; exact quiet_add (HS _).out))
          go_wp2
          go_ret
          exact ⟨by rw [HN.out]; rfl, ⟨rfl, rfl, rfl, Nat.le_refl _, fun _ _ => rfl⟩⟩
      · have hki : ¬ (k : Int) < A.length := by omega
        have HN : Hid (decide (A = B) = true) := Lib.hid (decide_eq_true (by
          have h := hf.out
          rwa [List.take_of_length_le (by omega), List.take_of_length_le (by omega)] at h))
        go_wp2
        go_ret
        exact ⟨by rw [HN.out]; rfl, HDG.out _⟩
  · have hne : ((A.length : Int) != (B.length : Int)) = true := by simp; omega
    have HN : Hid (decide (A = B) = false) := Lib.hid (decide_eq_false (fun h => hlen (by rw [h])))
    clear hlen
    go_enter Try.func24, Try.ntmps24
    go_wp2
    go_ret
    exact ⟨by rw [HN.out]; rfl, HDG.out 0⟩
end Go.Proofs.Ytoiinikbbkmjoaa
