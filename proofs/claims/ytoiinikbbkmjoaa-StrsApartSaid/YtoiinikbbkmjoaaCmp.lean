/- How two words stand, by the library's own text; when they are equal. -/
import Derived.Test.YtoiinikbbkmjoaaWords
namespace Go.Proofs.Ytoiinikbbkmjoaa
open Go.RowKit
def cmpL (xs ys : List Int) : Int := if lessL xs ys then -1 else if xs = ys then 0 else 1
theorem isNaN_any (x : Int) (w : World) : Calls Try.prog 44 #[.int .i64 x] w fun e w' => e = .returned (.bool false) ∧ w = w' := by
  have h : (x != x) = false := by simp
  go_enter Try.func44, Try.ntmps44
  go_wp2
  go_ret
  exact ⟨rfl, rfl⟩
theorem cmp_any (x y : Int) (w : World) : Calls Try.prog 39 #[.int .i64 x, .int .i64 y] w fun e w' => e = .returned (.int .i64 (if x < y then -1 else if y < x then 1 else 0)) ∧ w = w' := by
  by_cases h1 : x < y
  · rw [if_pos h1]
    go_enter Try.func39, Try.ntmps39
    go_wp2_with (first | (go_at_call 44; refine (isNaN_any _ _).mono ?_; rintro e w' ⟨rfl, rfl⟩))
    go_ret
    exact ⟨rfl, rfl⟩
  · by_cases h2 : y < x
    · rw [if_neg h1, if_pos h2]
      go_enter Try.func39, Try.ntmps39
      go_wp2_with (first | (go_at_call 44; refine (isNaN_any _ _).mono ?_; rintro e w' ⟨rfl, rfl⟩))
      go_ret
      exact ⟨rfl, rfl⟩
    · rw [if_neg h1, if_neg h2]
      go_enter Try.func39, Try.ntmps39
      go_wp2_with (first | (go_at_call 44; refine (isNaN_any _ _).mono ?_; rintro e w' ⟨rfl, rfl⟩))
      go_ret
      exact ⟨rfl, rfl⟩
theorem cmp_self (x : Int) (w : World) : Calls Try.prog 39 #[.int .i64 x, .int .i64 x] w fun e w' => e = .returned (.int .i64 0) ∧ w = w' := by
  have h := cmp_any x x w
  rw [if_neg (by omega), if_neg (by omega)] at h
  exact h
theorem scmp_any {B : Nat} {a b : Option Addr} {ca cb : Nat} {xs ys : List Int} {w : World} (ha : Ints w B a xs) (hb : Ints w B b ys) (hx : xs.length ≤ 9223372036854775807) (hy : ys.length ≤ 9223372036854775807) :
    Calls Try.prog 32 #[.slice a xs.length ca, .slice b ys.length cb] w fun e w' => e = .returned (.int .i64 (cmpL xs ys)) ∧ w = w' := by
  have HA := Lib.hid ha
  have HB := Lib.hid hb
  clear ha hb
  go_enter Try.func32, Try.ntmps32
  go_wp2
  go_loop [11] (fun i => ∃ k : Nat, k ≤ xs.length ∧ k ≤ ys.length ∧ i = .int .i64 k ∧ Hid (xs.take k = ys.take k)) (fun i => xs.length - (intOf i).toNat)
  case atStart => exact ⟨0, by omega, by omega, rfl, Lib.hid (by simp)⟩
  case round =>
    obtain ⟨k, hk, hk2, rfl, hf⟩ := hrel
    by_cases hlt : k < xs.length
    · have hki : (k : Int) < xs.length := by omega
      obtain ⟨b1, o1, rfl, h1, hc1⟩ := HA.out k hlt
      by_cases hlt2 : k < ys.length
      · have hki2 : (k : Int) < ys.length := by omega
        have hki3 : ¬ (ys.length : Int) ≤ k := by omega
        obtain ⟨b2, o2, rfl, h2, hc2⟩ := HB.out k hlt2
        by_cases he : xs[k] = ys[k]
        · have HT := Lib.hid (show xs.take (k + 1) = ys.take (k + 1) by rw [List.take_succ_eq_append_getElem hlt, List.take_succ_eq_append_getElem hlt2, hf.out, he])
          rw [he] at hc1
          have HC := fun W => Lib.hid (cmp_self ys[k] W)
          clear he
          generalize ys[k] = y at *
          go_wp2_with (first | (go_at_call 39; refine (HC _).out.mono ?_; rintro e w' ⟨rfl, rfl⟩))
          go_round
          case rel => exact ⟨k + 1, by omega, by omega, by go_num, HT⟩
          case measure => simp [intOf]; omega
        · have HL := Lib.hid (lessL_at hlt hlt2 hf.out he)
          have HN : Hid (xs ≠ ys) := Lib.hid (fun h => he (by subst h; rfl))
          have HV : Hid (cmpL xs ys = if xs[k] < ys[k] then -1 else if ys[k] < xs[k] then 1 else 0) := Lib.hid (by
            unfold cmpL
            rw [HL.out]
            by_cases h3 : xs[k] < ys[k]
            · simp [h3]
            · rw [if_neg (by simpa using h3), if_neg h3, if_neg HN.out, if_pos (by omega)])
          have HC := fun W => Lib.hid (cmp_any xs[k] ys[k] W)
          rw [← HV.out] at HC
          have hnz : (cmpL xs ys != 0) = true := by
            rw [HV.out]
            by_cases h3 : xs[k] < ys[k]
            · simp [h3]
            · rw [if_neg h3, if_pos (by omega)]; rfl
          clear he
          go_wp2_with (first | (go_at_call 39; refine (HC _).out.mono ?_; rintro e w' ⟨rfl, rfl⟩))
          go_ret
          exact ⟨rfl, rfl⟩
      · have hki3 : (ys.length : Int) ≤ k := by omega
        have HV : Hid (cmpL xs ys = 1) := Lib.hid (by
          have hl := lessL_end hk hk2 hf.out (.inr (by omega))
          unfold cmpL
          rw [hl, if_neg (by simp; omega), if_neg (fun h => by subst h; omega)])
        go_wp2
        go_ret
        exact ⟨by rw [HV.out]; rfl, rfl⟩
    · have hki : ¬ (k : Int) < xs.length := by omega
      have hl := Lib.hid (lessL_end hk hk2 hf.out (.inl (by omega)))
      by_cases hlt2 : xs.length < ys.length
      · have HV : Hid (cmpL xs ys = -1) := Lib.hid (by unfold cmpL; rw [hl.out, if_pos (by simpa using hlt2)])
        have hki2 : (xs.length : Int) < ys.length := by omega
        go_wp2
        go_ret
        exact ⟨by rw [HV.out]; rfl, rfl⟩
      · have HV : Hid (cmpL xs ys = 0) := Lib.hid (by
          have e : xs = ys := by
            have h := hf.out
            rwa [List.take_of_length_le (by omega), List.take_of_length_le (by omega)] at h
          unfold cmpL
          rw [hl.out, if_neg (by simpa using hlt2), if_pos e])
        have hki2 : ¬ (xs.length : Int) < ys.length := by omega
        go_wp2
        go_ret
        exact ⟨by rw [HV.out]; rfl, rfl⟩
theorem compare_any {B : Nat} {a b : Option Addr} {ca cb : Nat} {xs ys : List Int} {w : World} (ha : Ints w B a xs) (hb : Ints w B b ys) (hx : xs.length ≤ 9223372036854775807) (hy : ys.length ≤ 9223372036854775807) :
    Calls Try.prog 10 #[.slice a xs.length ca, .slice b ys.length cb] w fun e w' => e = .returned (.int .i64 (cmpL xs ys)) ∧ w = w' := by
  have H := fun W => Lib.hid (fun h1 h2 => scmp_any (B := B) (ca := ca) (cb := cb) (w := W) (a := a) (b := b) (xs := xs) (ys := ys) h1 h2 hx hy)
  have HA := Lib.hid ha
  have HB := Lib.hid hb
  clear ha hb
  go_enter Try.func10, Try.ntmps10
  go_wp2_with (first | (go_at_call 32; refine ((H _).out HA.out HB.out).mono ?_; rintro e w' ⟨rfl, rfl⟩))
  go_ret
  exact ⟨rfl, rfl⟩
theorem equal_any {B : Nat} {a b : Option Addr} {ca cb : Nat} {xs ys : List Int} {w : World} (ha : Ints w B a xs) (hb : Ints w B b ys) (hx : xs.length ≤ 9223372036854775807) (hy : ys.length ≤ 9223372036854775807) :
    Calls Try.prog 35 #[.slice a xs.length ca, .slice b ys.length cb] w fun e w' => e = .returned (.bool (decide (xs = ys))) ∧ ∃ n, w' = w.drewN n := by
  have HA := Lib.hid ha
  have HB := Lib.hid hb
  clear ha hb
  by_cases hlen : xs.length = ys.length
  · have hne : ((xs.length : Int) != (ys.length : Int)) = false := by simp [hlen]
    go_enter Try.func35, Try.ntmps35
    go_wp2
    go_loopw [13] (fun i wr => ∃ k : Nat, k ≤ xs.length ∧ i = .int .i64 k ∧ Hid (xs.take k = ys.take k) ∧ ∃ n, wr = w.drewN n) (fun i _ => xs.length - (intOf i).toNat)
    case atStart => exact ⟨0, by omega, rfl, Lib.hid (by simp), 0, rfl⟩
    case round =>
      obtain ⟨k, hk, rfl, hf, n, rfl⟩ := hrel
      by_cases hlt : k < xs.length
      · have hlt2 : k < ys.length := by omega
        have hki : (k : Int) < xs.length := by omega
        have hki2 : (k : Int) < ys.length := by omega
        have hk0 : (0 : Int) ≤ k := by omega
        obtain ⟨b1, o1, rfl, h1, hc1⟩ := HA.out k hlt
        obtain ⟨b2, o2, rfl, h2, hc2⟩ := HB.out k hlt2
        by_cases he : xs[k] = ys[k]
        · have HT := Lib.hid (show xs.take (k + 1) = ys.take (k + 1) by rw [List.take_succ_eq_append_getElem hlt, List.take_succ_eq_append_getElem hlt2, hf.out, he])
          have he' : (xs[k] != ys[k]) = false := by simp [he]
          clear he hlen
          generalize xs[k] = x at *
          generalize ys[k] = y at *
          go_wp2
          go_quiet (fail)
          go_wp2
          go_roundw
          case rel => exact ⟨k + 1, by omega, by go_num, HT, _, rfl⟩
          case measure => simp [intOf]; omega
        · have he' : (xs[k] != ys[k]) = true := by simp [he]
          have HN : Hid (decide (xs = ys) = false) := Lib.hid (decide_eq_false (fun h => he (by subst h; rfl)))
          clear he hlen
          generalize xs[k] = x at *
          generalize ys[k] = y at *
          go_wp2
          go_quiet (fail)
          go_wp2
          go_ret
          exact ⟨by rw [HN.out]; rfl, _, by rw [World.drewN_drewN]⟩
      · have hki : ¬ (k : Int) < xs.length := by omega
        have HN : Hid (decide (xs = ys) = true) := Lib.hid (decide_eq_true (by
          have h := hf.out
          rwa [List.take_of_length_le (by omega), List.take_of_length_le (by omega)] at h))
        go_wp2
        go_ret
        exact ⟨by rw [HN.out]; rfl, n, rfl⟩
  · have hne : ((xs.length : Int) != (ys.length : Int)) = true := by simp; omega
    have HN : Hid (decide (xs = ys) = false) := Lib.hid (decide_eq_false (fun h => hlen (by rw [h])))
    clear hlen
    go_enter Try.func35, Try.ntmps35
    go_wp2
    go_ret
    exact ⟨by rw [HN.out]; rfl, 0, rfl⟩
end Go.Proofs.Ytoiinikbbkmjoaa
