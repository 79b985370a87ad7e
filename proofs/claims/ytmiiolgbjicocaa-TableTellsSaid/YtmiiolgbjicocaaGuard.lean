/- The reference's looks at bytes and names: what they answer. -/
import Derived.Test.YtmiiolgbjicocaaProg
import Derived.Test.YtmiiolgbjicocaaLib
namespace Go.Proofs.Ytmiiolgbjicocaa
open Go.RowKit
def letterB (c : Int) : Bool := (decide (97 ≤ c) && decide (c ≤ 122)) || (decide (65 ≤ c) && decide (c ≤ 90))
def digitB (c : Int) : Bool := decide (48 ≤ c) && decide (c ≤ 57)
def innerB (c : Int) : Bool := letterB c || digitB c || decide (c = 95)
def quotableB (c : Int) : Bool := decide (32 ≤ c) && decide (c ≤ 126) && decide (c ≠ 39)
theorem letter_any (c : Int) (w : World) : Calls Try.prog 73 #[.int .u8 c] w fun e w' => e = .returned (.bool (letterB c)) ∧ w = w' := by
  by_cases a1 : 97 ≤ c
  all_goals by_cases a2 : c ≤ 122
  all_goals by_cases a3 : 65 ≤ c
  all_goals by_cases a4 : c ≤ 90
  all_goals first
    | (exfalso; omega)
    | (have HV := Lib.hid (show letterB c = (decide (97 ≤ c) && decide (c ≤ 122) || decide (65 ≤ c) && decide (c ≤ 90)) from rfl)
       simp only [a1, a2, a3, a4, decide_true, decide_false, Bool.and_true, Bool.and_false, Bool.or_true, Bool.or_false, Bool.and_self, Bool.or_self] at HV
       go_enter Try.func73, Try.ntmps73
       go_wp2
       go_ret
       exact ⟨by rw [HV.out]; rfl, rfl⟩)
theorem digit_any (c : Int) (w : World) : Calls Try.prog 86 #[.int .u8 c] w fun e w' => e = .returned (.bool (digitB c)) ∧ w = w' := by
  go_enter Try.func86, Try.ntmps86
  go_wp2
  all_goals go_ret
  all_goals exact ⟨by simp [digitB]; omega, rfl⟩
theorem quotable_any (c : Int) (w : World) : Calls Try.prog 75 #[.int .u8 c] w fun e w' => e = .returned (.bool (quotableB c)) ∧ w = w' := by
  by_cases h : c = 39
  · subst h
    go_enter Try.func75, Try.ntmps75
    go_wp2
    all_goals go_ret
    all_goals exact ⟨by simp [quotableB], rfl⟩
  · have h1 : (c != 39) = true := by simp [h]
    have H := Lib.hid h
    clear h
    go_enter Try.func75, Try.ntmps75
    go_wp2
    all_goals go_ret
    all_goals exact ⟨by have := H.out; simp [quotableB]; omega, rfl⟩
theorem inner_any (c : Int) (w : World) : Calls Try.prog 74 #[.int .u8 c] w fun e w' => e = .returned (.bool (innerB c)) ∧ w = w' := by
  have H1 := fun W => Lib.hid (letter_any c W)
  have H2 := fun W => Lib.hid (digit_any c W)
  have HI := Lib.hid (show innerB c = (letterB c || digitB c || decide (c = 95)) from rfl)
  generalize innerB c = r at *
  generalize letterB c = x at *
  generalize digitB c = y at *
  by_cases h : c = 95
  all_goals
    have H := Lib.hid h
  · have h1 : (c == 95) = true := by simp [h]
    clear h
    cases x
    all_goals cases y
    all_goals
      go_enter Try.func74, Try.ntmps74
      go_wp2_with (first | (go_at_call 73; refine (H1 _).out.mono ?_; rintro e w' ⟨rfl, rfl⟩) | (go_at_call 86; refine (H2 _).out.mono ?_; rintro e w' ⟨rfl, rfl⟩))
      go_ret
      exact ⟨by rw [HI.out]; simp [H.out], rfl⟩
  · have h1 : (c == 95) = false := by simp [h]
    clear h
    cases x
    all_goals cases y
    all_goals
      go_enter Try.func74, Try.ntmps74
      go_wp2_with (first | (go_at_call 73; refine (H1 _).out.mono ?_; rintro e w' ⟨rfl, rfl⟩) | (go_at_call 86; refine (H2 _).out.mono ?_; rintro e w' ⟨rfl, rfl⟩))
      go_ret
      exact ⟨by rw [HI.out]; simp [H.out], rfl⟩
/-- All of the first k bytes. -/
def allB (p : Int → Bool) (s : ByteArray) (k : Nat) : Bool := (s.data.toList.take k).all fun c => p (c.toNat : Int)
theorem allB_zero (p : Int → Bool) (s : ByteArray) : allB p s 0 = true := rfl
theorem allB_succ (p : Int → Bool) (s : ByteArray) (k : Nat) (h : k < s.size) : allB p s (k + 1) = (allB p s k && p (s[k].toNat : Int)) := by
  unfold allB
  rw [List.take_succ_eq_append_getElem (by simpa using h), List.all_append]
  simp; rfl
theorem allB_false (p : Int → Bool) (s : ByteArray) (k : Nat) (h : k < s.size) (hp : p (s[k].toNat : Int) = false) : allB p s s.size = false := by
  unfold allB
  rw [List.all_eq_false]
  refine ⟨s[k], ?_, by simp [hp]⟩
  rw [List.take_of_length_le (by simp)]
  exact List.getElem_mem (l := s.data.toList) (by simpa using h)
def nameB (s : ByteArray) : Bool := decide (1 ≤ s.size) && decide (s.size ≤ 24) && (if h : 0 < s.size then letterB (s[0].toNat : Int) else false) && allB innerB s s.size
def quoteB (s : ByteArray) : Bool := allB quotableB s s.size && decide (1 ≤ s.size) && decide (s.size ≤ 16)
theorem isName_any (s : ByteArray) (hs : s.size ≤ 9223372036854775807) (w : World) : Calls Try.prog 50 #[.string s] w fun e w' => e = .returned (.bool (nameB s)) ∧ w = w' := by
  by_cases h0 : s.size < 1
  · have h0' : (s.size : Int) < 1 := by omega
    go_enter Try.func50, Try.ntmps50
    go_wp2
    go_ret
    exact ⟨by simp [nameB]; omega, rfl⟩
  by_cases h1 : 24 < s.size
  · have h0' : ¬ (s.size : Int) < 1 := by omega
    have h1' : (24 : Int) < s.size := by omega
    go_enter Try.func50, Try.ntmps50
    go_wp2
    go_ret
    exact ⟨by simp [nameB]; omega, rfl⟩
  have h0' : ¬ (s.size : Int) < 1 := by omega
  have h1' : ¬ (24 : Int) < s.size := by omega
  have hp : 0 < s.size := by omega
  have HN : Hid (nameB s = (letterB (s[0].toNat : Int) && allB innerB s s.size)) := Lib.hid (by unfold nameB; rw [dif_pos hp, decide_eq_true (show 1 ≤ s.size by omega), decide_eq_true (show s.size ≤ 24 by omega)]; rfl)
  have HL := fun W => Lib.hid (letter_any (s[0].toNat : Int) W)
  generalize letterB (s[0].toNat : Int) = x at *
  generalize nameB s = r at *
  cases x
  all_goals
    go_enter Try.func50, Try.ntmps50
    go_wp2_with (first | (go_at_call 73; refine (HL _).out.mono ?_; rintro e w' ⟨rfl, rfl⟩))
  · go_ret
    exact ⟨by rw [HN.out]; rfl, rfl⟩
  go_loop [3] (fun i => ∃ k : Nat, k ≤ s.size ∧ i = .int .i64 k ∧ Hid (allB innerB s k = true)) (fun i => s.size - (intOf i).toNat)
  case atStart => exact ⟨0, by omega, rfl, allB_zero _ _⟩
  case round =>
    obtain ⟨k, hk, rfl, ha⟩ := hrel
    by_cases hlt : k < s.size
    · have HS := Lib.hid (allB_succ innerB s k hlt)
      have HF' := allB_false innerB s k hlt
      have HI := fun W => Lib.hid (inner_any (s[k].toNat : Int) W)
      generalize hgx : innerB (s[k].toNat : Int) = x at *
      clear hgx
      cases x
      · have HF := HF' rfl
        have HFh := Lib.hid HF
        clear HF HF'
        go_wp2_with (first | (go_at_call 74; refine (HI _).out.mono ?_; rintro e w' ⟨rfl, rfl⟩))
        go_ret
        exact ⟨by rw [HN.out, HFh.out]; rfl, rfl⟩
      · clear HF'
        go_wp2_with (first | (go_at_call 74; refine (HI _).out.mono ?_; rintro e w' ⟨rfl, rfl⟩))
        go_round
        case rel => exact ⟨k + 1, by omega, by go_num, by rw [HS.out, ha.out]; rfl⟩
        case measure => simp [intOf]; omega
    · have HE := Lib.hid (show allB innerB s s.size = true from (show k = s.size by omega) ▸ ha.out)
      go_wp2
      go_ret
      exact ⟨by rw [HN.out, HE.out]; rfl, rfl⟩
theorem isQuote_any (s : ByteArray) (hs : s.size ≤ 9223372036854775807) (w : World) : Calls Try.prog 52 #[.string s] w fun e w' => e = .returned (.bool (quoteB s)) ∧ w = w' := by
  have HN : Hid (quoteB s = (allB quotableB s s.size && decide (1 ≤ s.size) && decide (s.size ≤ 16))) := Lib.hid rfl
  generalize quoteB s = r at *
  go_enter Try.func52, Try.ntmps52
  go_wp2
  go_loop [3] (fun i => ∃ k : Nat, k ≤ s.size ∧ i = .int .i64 k ∧ Hid (allB quotableB s k = true)) (fun i => s.size - (intOf i).toNat)
  case atStart => exact ⟨0, by omega, rfl, allB_zero _ _⟩
  case round =>
    obtain ⟨k, hk, rfl, ha⟩ := hrel
    by_cases hlt : k < s.size
    · have HS := Lib.hid (allB_succ quotableB s k hlt)
      have HF' := allB_false quotableB s k hlt
      have HI := fun W => Lib.hid (quotable_any (s[k].toNat : Int) W)
      generalize hgx : quotableB (s[k].toNat : Int) = x at *
      clear hgx
      cases x
      · have HF := HF' rfl
        have HFh := Lib.hid HF
        clear HF HF'
        go_wp2_with (first | (go_at_call 75; refine (HI _).out.mono ?_; rintro e w' ⟨rfl, rfl⟩))
        go_ret
        exact ⟨by rw [HN.out, HFh.out]; rfl, rfl⟩
      · clear HF'
        go_wp2_with (first | (go_at_call 75; refine (HI _).out.mono ?_; rintro e w' ⟨rfl, rfl⟩))
        go_round
        case rel => exact ⟨k + 1, by omega, by go_num, by rw [HS.out, ha.out]; rfl⟩
        case measure => simp [intOf]; omega
    · have HE := Lib.hid (show allB quotableB s s.size = true from (show k = s.size by omega) ▸ ha.out)
      by_cases a1 : (1 : Int) ≤ s.size
      all_goals by_cases a2 : (s.size : Int) ≤ 16
      all_goals
        have HV := Lib.hid (show r = (decide ((1 : Int) ≤ s.size) && decide ((s.size : Int) ≤ 16)) by
          rw [HN.out, HE.out, Bool.true_and]; congr 2 <;> (apply propext; omega))
        simp only [a1, a2, decide_true, decide_false, Bool.and_true, Bool.and_false, Bool.and_self] at HV
        go_wp2
        go_ret
        exact ⟨by rw [HV.out]; rfl, rfl⟩
def placeI (ss : List ByteArray) (s : ByteArray) : Int := if ss.findIdx (fun t => t.toList == s.toList) < ss.length then (ss.findIdx (fun t => t.toList == s.toList) : Nat) else -1
theorem gplace_any {B : Nat} {a : Option Addr} {cap : Nat} {ss : List ByteArray} {w : World} (h : StrsAt w B a ss) (hl : ss.length ≤ 9223372036854775807) (s : ByteArray) :
    Calls Try.prog 51 #[.slice a ss.length cap, .string s] w fun e w' => e = .returned (.int .i64 (placeI ss s)) ∧ w = w' := by
  have H := Lib.hid h
  clear h
  go_enter Try.func51, Try.ntmps51
  go_wp2
  go_loop [5] (fun i => ∃ k : Nat, k ≤ ss.length ∧ i = .int .i64 k ∧ Hid (k ≤ ss.findIdx (fun t => t.toList == s.toList))) (fun i => ss.length - (intOf i).toNat)
  case atStart => exact ⟨0, by omega, rfl, Nat.zero_le _⟩
  case round =>
    obtain ⟨k, hk, rfl, hf⟩ := hrel
    by_cases hlt : k < ss.length
    · obtain ⟨b, off, rfl, hb, hc, hs⟩ := H.out k hlt
      by_cases he : (ss[k].toList == s.toList) = true
      · have HE := Lib.hid (show ss.findIdx (fun t => t.toList == s.toList) = k from Nat.le_antisymm (Nat.le_of_not_lt (fun h => by have h2 := List.not_of_lt_findIdx h; exact absurd he (by simpa using h2))) hf.out)
        go_wp2
        go_ret
        exact ⟨by unfold placeI; rw [HE.out, if_pos hlt]; rfl, rfl⟩
      · have he' : (ss[k].toList == s.toList) = false := by simpa using he
        have HE := Lib.hid (show k + 1 ≤ ss.findIdx (fun t => t.toList == s.toList) by
          rcases Nat.lt_or_ge k (ss.findIdx (fun t => t.toList == s.toList)) with h | h
          · exact h
          · have e := Nat.le_antisymm h hf.out
            have := List.findIdx_getElem (w := by rw [e]; exact hlt) (p := fun t => t.toList == s.toList) (xs := ss)
            simp only [e] at this
            exact absurd this he)
        clear he
        go_wp2
        go_round
        case rel => exact ⟨k + 1, by omega, by go_num, HE⟩
        case measure => simp [intOf]; omega
    · have HE := Lib.hid (show ¬ ss.findIdx (fun t => t.toList == s.toList) < ss.length by have := hf.out; omega)
      go_wp2
      go_ret
      exact ⟨by unfold placeI; rw [if_neg HE.out]; rfl, rfl⟩
end Go.Proofs.Ytmiiolgbjicocaa
