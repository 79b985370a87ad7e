/- The reference's order of words, and when two are the same. -/
import Derived.Test.YtfiafmhnmafnbaaProg
import Derived.Test.YtfiafmhnmafnbaaLib
namespace Go.Proofs.Ytfiafmhnmafnbaa
open Go.RowKit
def lessL : List Int → List Int → Bool
  | [], [] => false
  | [], _ :: _ => true
  | _ :: _, [] => false
  | x :: xs, y :: ys => if x = y then lessL xs ys else decide (x < y)
theorem lessL_drop : ∀ (k : Nat) (xs ys : List Int), k ≤ xs.length → k ≤ ys.length → xs.take k = ys.take k → lessL xs ys = lessL (xs.drop k) (ys.drop k)
  | 0, _, _, _, _, _ => rfl
  | k + 1, x :: xs, y :: ys, hx, hy, h => by
    simp only [List.take_succ_cons, List.cons.injEq] at h
    rw [lessL, if_pos h.1, List.drop_succ_cons, List.drop_succ_cons]
    exact lessL_drop k xs ys (by simpa using hx) (by simpa using hy) h.2
theorem lessL_at {k : Nat} {xs ys : List Int} (hx : k < xs.length) (hy : k < ys.length) (h : xs.take k = ys.take k) (hne : xs[k] ≠ ys[k]) : lessL xs ys = decide (xs[k] < ys[k]) := by
  rw [lessL_drop k xs ys (by omega) (by omega) h, List.drop_eq_getElem_cons hx, List.drop_eq_getElem_cons hy]
  simp [lessL, hne]
theorem lessL_end {xs ys : List Int} {k : Nat} (hx : k ≤ xs.length) (hy : k ≤ ys.length) (h : xs.take k = ys.take k) (he : k = xs.length ∨ k = ys.length) : lessL xs ys = decide (xs.length < ys.length) := by
  rw [lessL_drop k xs ys hx hy h]
  rcases he with rfl | rfl
  · rw [List.drop_length]
    cases hd : ys.drop xs.length with
    | nil => have := congrArg List.length hd; simp at this; simp [lessL]; omega
    | cons y t => have := congrArg List.length hd; simp at this; simp [lessL]; omega
  · rw [List.drop_length]
    cases hd : xs.drop ys.length with
    | nil => have := congrArg List.length hd; simp at this; simp [lessL]; omega
    | cons y t => have := congrArg List.length hd; simp at this; simp [lessL]; omega
theorem lessL_same : ∀ xs ys : List Int, (!lessL xs ys && !lessL ys xs) = decide (xs = ys)
  | [], [] => by simp [lessL]
  | [], _ :: _ => by simp [lessL]
  | _ :: _, [] => by simp [lessL]
  | x :: xs, y :: ys => by
    have := lessL_same xs ys
    by_cases h : x = y
    · subst h; simp [lessL, this]
    · have h' : ¬ y = x := fun e => h e.symm
      simp only [lessL, h, h', if_false, List.cons.injEq, false_and, decide_false]
      simp; omega
theorem less_any {B : Nat} {a b : Option Addr} {ca cb : Nat} {xs ys : List Int} {w : World} (ha : Ints w B a xs) (hb : Ints w B b ys) (hx : xs.length ≤ 9223372036854775807) (hy : ys.length ≤ 9223372036854775807) :
    Calls Try.prog 39 #[.slice a xs.length ca, .slice b ys.length cb] w fun e w' => e = .returned (.bool (lessL xs ys)) ∧ ∃ n, w' = w.drewN n := by
  have HA := Lib.hid ha
  have HB := Lib.hid hb
  clear ha hb
  go_enter Try.func39, Try.ntmps39
  go_wp2
  go_loopw [5] (fun i wr => ∃ k n : Nat, k ≤ xs.length ∧ k ≤ ys.length ∧ xs.take k = ys.take k ∧ i = .int .i64 k ∧ wr = w.drewN n) (fun i _ => xs.length - (intOf i).toNat)
  case atStart => exact ⟨0, 0, by omega, by omega, rfl, rfl, rfl⟩
  case round =>
    obtain ⟨k, n, hk, hk2, ht, rfl, rfl⟩ := hrel
    have HT := Lib.hid ht
    clear ht
    by_cases hlt : k < xs.length
    · by_cases hlt2 : k < ys.length
      · obtain ⟨b1, o1, rfl, hb1, hc1⟩ := HA.out k hlt
        obtain ⟨b2, o2, rfl, hb2, hc2⟩ := HB.out k hlt2
        have hi1 : (k : Int) < xs.length := by omega
        have hi2 : (k : Int) < ys.length := by omega
        by_cases he : xs[k] = ys[k]
        · have he' : (xs[k] != ys[k]) = false := by simp [he]
          have HE := Lib.hid he
          clear he
          go_wp2
          go_quiet (fail)
          go_wp2
          go_roundw
          case rel => exact ⟨k + 1, _, by omega, by omega, by rw [List.take_succ_eq_append_getElem hlt, List.take_succ_eq_append_getElem hlt2, HT.out, HE.out], by go_num, rfl⟩
          case measure => simp [intOf]; omega
        · have he' : (xs[k] != ys[k]) = true := by simp [he]
          have HL := Lib.hid (lessL_at hlt hlt2 HT.out he)
          clear he
          go_wp2
          go_quiet (fail)
          go_wp2
          go_quiet (fail)
          go_wp2
          go_ret
          exact ⟨by rw [HL.out]; rfl, _, by rw [World.drewN_drewN, World.drewN_drewN]⟩
      · have HL := Lib.hid (lessL_end hk hk2 HT.out (.inr (by omega)))
        have hi1 : (k : Int) < xs.length := by omega
        have hi2 : ¬ (k : Int) < ys.length := by omega
        go_wp2
        go_ret
        exact ⟨by rw [HL.out]; simp, _, rfl⟩
    · have HL := Lib.hid (lessL_end hk hk2 HT.out (.inl (by omega)))
      have hi1 : ¬ (k : Int) < xs.length := by omega
      go_wp2
      go_ret
      exact ⟨by rw [HL.out]; simp, _, rfl⟩
theorem ints_drewN {w : World} {B : Nat} {a : Option Addr} {xs : List Int} (h : Ints w B a xs) (n : Nat) : Ints (w.drewN n) B a xs := h
theorem same_any {B : Nat} {a b : Option Addr} {ca cb : Nat} {xs ys : List Int} {w : World} (ha : Ints w B a xs) (hb : Ints w B b ys) (hx : xs.length ≤ 9223372036854775807) (hy : ys.length ≤ 9223372036854775807) :
    Calls Try.prog 17 #[.slice a xs.length ca, .slice b ys.length cb] w fun e w' => e = .returned (.bool (decide (xs = ys))) ∧ ∃ n, w' = w.drewN n := by
  have HA := Lib.hid (less_any (ca := ca) (cb := cb) ha hb hx hy)
  have HB := fun n => Lib.hid (less_any (ca := cb) (cb := ca) (ints_drewN hb n) (ints_drewN ha n) hy hx)
  have HS := Lib.hid (lessL_same xs ys)
  clear ha hb
  generalize lessL xs ys = p at *
  generalize lessL ys xs = q at *
  cases p
  · go_enter Try.func17, Try.ntmps17
    go_wp2_with fail
    refine HA.out.mono ?_
    rintro e w' ⟨rfl, n, rfl⟩
    go_wp2_with fail
    refine (HB n).out.mono ?_
    rintro e w' ⟨rfl, m, rfl⟩
    go_wp2
    go_ret
    exact ⟨by rw [← HS.out]; simp, _, rfl⟩
  · go_enter Try.func17, Try.ntmps17
    go_wp2_with fail
    refine HA.out.mono ?_
    rintro e w' ⟨rfl, n, rfl⟩
    go_wp2
    go_ret
    exact ⟨by rw [← HS.out]; simp, _, rfl⟩
end Go.Proofs.Ytfiafmhnmafnbaa
