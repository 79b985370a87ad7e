/- What a star makes known. No program in sight. -/
import Derived.Test.YtlnaepemkeodoaaDoorBack
import Derived.Test.YtlnaepemkeodoaaDoorText
namespace Go.Proofs.YtlnaepemkeodoaaDoor
def Clean (w : List UInt8) : Prop := ∀ c ∈ w, c ≠ 32 ∧ c ≠ 39
theorem wordsF_clean {w : List UInt8} (h : Clean w) (cur r : List UInt8) : wordsF false cur (w ++ r) = wordsF false (cur ++ w) r := by
  induction w generalizing cur with
  | nil => simp
  | cons c w ih =>
    have hc := h c (by simp)
    rw [List.cons_append, wordsF, if_neg hc.2, if_neg (fun e => hc.1 e.1), ih (fun d hd => h d (by simp [hd]))]
    simp
theorem joinTail_cons (y : List UInt8) (r : List (List UInt8)) : Lib.joinTail [32] (y :: r) = 32 :: (y ++ Lib.joinTail [32] r) := by simp [Lib.joinTail]
theorem words_tail (ws : List (List UInt8)) : ∀ (w cur : List UInt8), Clean w → (∀ x ∈ ws, Clean x) → wordsF false cur (w ++ Lib.joinTail [32] ws) = (cur ++ w) :: ws := by
  induction ws with
  | nil =>
    intro w cur h _
    rw [wordsF_clean h]
    rfl
  | cons y r ih =>
    intro w cur h hr
    rw [wordsF_clean h, joinTail_cons, wordsF, if_neg (by decide), if_pos ⟨rfl, rfl⟩, ih y [] (hr y (by simp)) (fun x hx => hr x (by simp [hx]))]
    rfl
theorem words_join {ws : List (List UInt8)} (hne : ws ≠ []) (h : ∀ x ∈ ws, Clean x) : wordsL (Lib.join ws [32]) = ws := by
  cases ws with
  | nil => exact absurd rfl hne
  | cons w r =>
    unfold wordsL
    rw [Lib.join_cons, words_tail r w [] (h w (by simp)) (fun x hx => h x (by simp [hx]))]
    rfl
theorem join_inj {ws us : List (List UInt8)} (hw : ws ≠ []) (hu : us ≠ []) (h1 : ∀ x ∈ ws, Clean x) (h2 : ∀ x ∈ us, Clean x) (h : Lib.join ws [32] = Lib.join us [32]) : ws = us := by
  rw [← words_join hw h1, h, words_join hu h2]
theorem mem_join {c : UInt8} {ws : List (List UInt8)} (h : c ∈ Lib.join ws [32]) : c = 32 ∨ ∃ w ∈ ws, c ∈ w := by
  cases ws with
  | nil => simp [Lib.join_nil] at h
  | cons w r =>
    rw [Lib.join_cons, List.mem_append] at h
    rcases h with h | h
    · exact .inr ⟨w, by simp, h⟩
    · unfold Lib.joinTail at h
      obtain ⟨l, hl, hc⟩ := List.mem_flatten.1 h
      obtain ⟨x, hx, rfl⟩ := List.mem_map.1 hl
      rcases List.mem_append.1 hc with hc | hc
      · exact .inl (by simpa using hc)
      · exact .inr ⟨x, by simp [hx], hc⟩
theorem line_join {w : List UInt8} {r : List (List UInt8)} (h : ∀ x ∈ w :: r, Clean x) (hne : ∀ x ∈ w :: r, x ≠ []) (hk : w ∈ kindsL) (hl : (Lib.join (w :: r) [32]).length ≤ 1024) (ho : ∀ x ∈ w :: r, ∀ c ∈ x, oddC c = false) : lineE (Lib.join (w :: r) [32]) = 0 := by
  unfold lineE
  rw [if_neg (by omega), if_neg, if_neg, if_pos]
  · rw [words_join (by simp) h]; exact hk
  · rw [words_join (by simp) h]
    intro h2
    exact hne _ h2 rfl
  · intro h2
    obtain ⟨c, hc, hoc⟩ := List.any_eq_true.1 h2
    rcases mem_join hc with rfl | ⟨x, hx, hcx⟩
    · exact absurd hoc (by decide)
    · rw [ho x hx c hcx] at hoc; cases hoc
def cycW : List UInt8 := [99, 121, 99, 108, 101]
def useW : List UInt8 := [117, 115, 101, 108, 101, 115, 115]
def conW : List UInt8 := [99, 111, 110, 102, 108, 105, 99, 116]
def letB (c : UInt8) : Bool := !(decide ((c.toNat : Int) < 97) || decide (122 < (c.toNat : Int)))
def wordB (l : List UInt8) : Bool := l.all letB && decide (1 ≤ l.length) && decide (l.length ≤ 20)
structure Word (l : List UInt8) : Prop where
  ch : ∀ c ∈ l, 97 ≤ c.toNat ∧ c.toNat ≤ 122
  lo : 1 ≤ l.length
  hi : l.length ≤ 20
theorem word_iff (l : List UInt8) : wordB l = true ↔ Word l := by
  unfold wordB
  rw [Bool.and_eq_true, Bool.and_eq_true, List.all_eq_true]
  have hc : ∀ c, letB c = true ↔ 97 ≤ c.toNat ∧ c.toNat ≤ 122 := fun c => by unfold letB; simp; omega
  constructor
  · rintro ⟨⟨h1, h2⟩, h3⟩
    exact ⟨fun c h => (hc c).1 (h1 c h), by simpa using h2, by simpa using h3⟩
  · rintro ⟨h1, h2, h3⟩
    exact ⟨⟨fun c h => (hc c).2 (h1 c h), by simpa using h2⟩, by simpa using h3⟩
theorem clean_of {l : List UInt8} (h : ∀ c ∈ l, 97 ≤ c.toNat ∧ c.toNat ≤ 122) : Clean l := fun c hc => by
  have h1 := h c hc
  refine ⟨?_, ?_⟩
  · rintro rfl; exact absurd h1.1 (by decide)
  · rintro rfl; exact absurd h1.1 (by decide)
theorem odd_of {l : List UInt8} (h : ∀ c ∈ l, 97 ≤ c.toNat ∧ c.toNat ≤ 122) : ∀ c ∈ l, oddC c = false := fun c hc => by
  have h1 := h c hc
  unfold oddC
  simp
  omega
theorem cycW_l : ∀ c ∈ cycW, 97 ≤ c.toNat ∧ c.toNat ≤ 122 := by decide
theorem useW_l : ∀ c ∈ useW, 97 ≤ c.toNat ∧ c.toNat ≤ 122 := by decide
theorem conW_l : ∀ c ∈ conW, 97 ≤ c.toNat ∧ c.toNat ≤ 122 := by decide
/-- What a base of a star and a mark holds. -/
theorem stars_has {A : List UInt8} {ws : List (List UInt8)} (hA : Word A) (hne : ws ≠ []) (h : ∀ x ∈ ws, Clean x) :
    hasS [Lib.join [useW, A] [32]] [Lib.join [cycW, A] [32]] (Lib.join ws [32]) = (decide (ws = [useW, A]) || decide (ws.take 2 = [cycW, A])) := by
  have hu : ∀ x ∈ [useW, A], Clean x := fun x hx => by
    simp at hx
    rcases hx with rfl | rfl
    · exact clean_of useW_l
    · exact clean_of hA.ch
  have hc : ∀ x ∈ [cycW, A], Clean x := fun x hx => by
    simp at hx
    rcases hx with rfl | rfl
    · exact clean_of cycW_l
    · exact clean_of hA.ch
  unfold hasS
  rw [words_join hne h]
  congr 1
  · apply decide_eq_decide.2
    rw [List.mem_singleton]
    exact ⟨fun e => join_inj hne (by simp) h hu e, fun e => by rw [e]⟩
  · rw [Bool.eq_iff_iff, List.any_eq_true, decide_eq_true_iff]
    constructor
    · rintro ⟨n, hn, hj⟩
      have hj := List.mem_singleton.1 (of_decide_eq_true hj)
      have ht : ws.take n = [cycW, A] := by
        by_cases h0 : ws.take n = []
        · rw [h0, Lib.join_nil] at hj
          have := congrArg List.length hj
          rw [Lib.join_cons] at this
          simp [cycW] at this
        · exact join_inj h0 (by simp) (fun x hx => h x (List.mem_of_mem_take hx)) hc hj
      have hl := congrArg List.length ht
      simp at hl
      by_cases h2 : n ≤ 2
      · obtain rfl : n = 2 := by omega
        exact ht
      · have : ws.length = 2 := by omega
        rw [List.take_of_length_le (by omega)] at ht
        rw [ht]; rfl
    · intro ht
      have hl := congrArg List.length ht
      simp at hl
      exact ⟨2, List.mem_range.2 (by omega), decide_eq_true (by rw [ht]; simp)⟩
def starT (A : List UInt8) : List UInt8 := Lib.join [cycW, A, [42]] [32] ++ 10 :: (Lib.join [useW, A] [32] ++ 10 :: [])
theorem no10 {ws : List (List UInt8)} (h : ∀ x ∈ ws, ∀ c ∈ x, c ≠ 10) : ∀ c ∈ Lib.join ws [32], c ≠ 10 := fun c hc => by
  rcases mem_join hc with rfl | ⟨w, hw, hcw⟩
  · decide
  · exact h w hw c hcw
theorem no10_of {l : List UInt8} (h : ∀ c ∈ l, 97 ≤ c.toNat ∧ c.toNat ≤ 122) : ∀ c ∈ l, c ≠ 10 := fun c hc => by
  rintro rfl; exact absurd (h _ hc).1 (by decide)
theorem star_read {A : List UInt8} (hA : Word A) : readS (starT A) = ⟨[Lib.join [useW, A] [32]], [Lib.join [cycW, A] [32]], []⟩ := by
  have hAne : A ≠ [] := fun e => by have := hA.lo; rw [e] at this; simp at this
  have hs : splitL (starT A) = [Lib.join [cycW, A, [42]] [32], Lib.join [useW, A] [32], []] := by
    unfold starT
    rw [splitL_line (no10 (fun x hx => ?_)), splitL_line (no10 (fun x hx => ?_))]
    · rfl
    · simp at hx
      rcases hx with rfl | rfl
      · exact no10_of useW_l
      · exact no10_of hA.ch
    · simp at hx
      rcases hx with rfl | rfl | rfl
      · exact no10_of cycW_l
      · exact no10_of hA.ch
      · intro c hc; simp at hc; rw [hc]; decide
  have e1 : Lib.join [cycW, A, [42]] [32] = Lib.join [cycW, A] [32] ++ starL := by
    rw [Lib.join_cons, Lib.join_cons]
    simp [Lib.joinTail, starL]
  have l1 : lineE (Lib.join [cycW, A, [42]] [32]) = 0 := by
    refine line_join (fun x hx => ?_) (fun x hx => ?_) (by decide) ?_ (fun x hx => ?_)
    · simp at hx
      rcases hx with rfl | rfl | rfl
      · exact clean_of cycW_l
      · exact clean_of hA.ch
      · intro c hc; simp at hc; rw [hc]; decide
    · simp at hx
      rcases hx with rfl | rfl | rfl
      · decide
      · exact hAne
      · decide
    · have := hA.hi
      rw [Lib.join_cons]
      simp [Lib.joinTail, cycW]
      omega
    · simp at hx
      rcases hx with rfl | rfl | rfl
      · exact odd_of cycW_l
      · exact odd_of hA.ch
      · intro c hc; simp at hc; rw [hc]; decide
  have l2 : lineE (Lib.join [useW, A] [32]) = 0 := by
    refine line_join (fun x hx => ?_) (fun x hx => ?_) (by decide) ?_ (fun x hx => ?_)
    · simp at hx
      rcases hx with rfl | rfl
      · exact clean_of useW_l
      · exact clean_of hA.ch
    · simp at hx
      rcases hx with rfl | rfl
      · decide
      · exact hAne
    · have := hA.hi
      rw [Lib.join_cons]
      simp [Lib.joinTail, useW]
      omega
    · simp at hx
      rcases hx with rfl | rfl
      · exact odd_of useW_l
      · exact odd_of hA.ch
  have s1 : skipB (Lib.join [cycW, A, [42]] [32]) = false := by rw [Lib.join_cons]; rfl
  have s2 : skipB (Lib.join [useW, A] [32]) = false := by rw [Lib.join_cons]; rfl
  have st1 : Lib.hasSuffix (Lib.join [cycW, A, [42]] [32]) starL = true := (suffix_iff _).2 ⟨_, e1⟩
  have st2 : Lib.hasSuffix (Lib.join [useW, A] [32]) starL = false := by
    rw [Bool.eq_false_iff]
    intro h
    obtain ⟨x, hx⟩ := (suffix_iff _).1 h
    obtain ⟨B, z, rfl⟩ : ∃ B z, A = B ++ [z] := ⟨A.dropLast, A.getLast hAne, (List.dropLast_concat_getLast hAne).symm⟩
    have e2 : Lib.join [useW, B ++ [z]] [32] = (useW ++ 32 :: B) ++ [z] := by
      rw [Lib.join_cons]; simp [Lib.joinTail]
    have e3 : x ++ starL = (x ++ [32]) ++ [42] := by simp [starL]
    rw [e2, e3] at hx
    have hz := (List.append_inj' hx rfl).2
    have := (hA.ch z (by simp)).1
    injection hz with hz _
    rw [hz] at this
    exact absurd this (by decide)
  have h0 : headOf (Lib.join [cycW, A, [42]] [32]) = Lib.join [cycW, A] [32] := by rw [e1, headOf_star]
  unfold readS
  rw [hs]
  have f1 : stepS ⟨[], [], []⟩ 0 (Lib.join [cycW, A, [42]] [32]) = ⟨[], [Lib.join [cycW, A] [32]], []⟩ := by
    unfold stepS errOf there addM addH
    simp [s1, l1, st1, h0, putL, posL, putAt]
  have f2 : stepS ⟨[], [Lib.join [cycW, A] [32]], []⟩ 1 (Lib.join [useW, A] [32]) = ⟨[Lib.join [useW, A] [32]], [Lib.join [cycW, A] [32]], []⟩ := by
    unfold stepS errOf there addM addH
    simp [s2, l2, st2, putL, posL, putAt]
  rw [foldS, f1, foldS, f2, foldS, foldS]
  rfl
end Go.Proofs.YtlnaepemkeodoaaDoor
