/- Lines, words, sorted lists; a base's text read again. No program in sight. -/
import Derived.Lib.SplitLaws
import Derived.Lib.Join
import Derived.Lib.Strings
import Derived.Lib.Bytealg
namespace Go.Proofs.YtlnaepemkeodoaaDoor
/-- A text's lines. -/
def splitL : List UInt8 → List (List UInt8)
  | [] => [[]]
  | c :: r => if c = 10 then [] :: splitL r else match splitL r with
    | [] => [[c]]
    | h :: t => (c :: h) :: t
theorem splitK_lines : ∀ l : List UInt8, Lib.splitK [10] 0 (Lib.count l [10]) l = splitL l
  | [] => by rw [Lib.count_miss (by simp [Lib.index])]; rfl
  | c :: r => by
    by_cases h : c = 10
    · subst h
      have hix : Lib.index (10 :: r) [10] = 0 := by rw [Lib.index]; simp [List.isPrefixOf]
      rw [Lib.count_cons_eq, Nat.add_comm, Lib.splitK, hix, if_neg (by decide), splitL, if_pos rfl, ← splitK_lines r]
      rfl
    · have ih := splitK_lines r
      rw [Lib.count_cons_ne c 10 r h, splitL, if_neg h, ← ih]
      have hp : ([10] : List UInt8).isPrefixOf (c :: r) = false := by simp [List.isPrefixOf, Ne.symm h]
      have hix : Lib.index (c :: r) [10] = if Lib.index r [10] == -1 then -1 else Lib.index r [10] + 1 := by rw [Lib.index, hp]; simp
      have hge := Lib.index_ge r [10]
      by_cases hm : Lib.index r [10] = -1
      · rw [Lib.count_miss hm]; rfl
      · obtain ⟨j, hj⟩ : ∃ j : Nat, Lib.index r [10] = j := ⟨(Lib.index r [10]).toNat, by omega⟩
        have hix' : Lib.index (c :: r) [10] = ((j + 1 : Nat) : Int) := by rw [hix, if_neg (fun e => hm (beq_iff_eq.1 e)), hj]; omega
        rw [Lib.count_hit (by simp) hj, Nat.add_comm, Lib.splitK, Lib.splitK, hix', hj, if_neg (by simp; omega), if_neg (by simp)]
        simp
theorem splitL_ne (l : List UInt8) : splitL l ≠ [] := by
  cases l with
  | nil => simp [splitL]
  | cons c r =>
    rw [splitL]
    split
    · simp
    · split <;> simp
theorem splitL_line {m : List UInt8} (h : ∀ c ∈ m, c ≠ 10) (r : List UInt8) : splitL (m ++ 10 :: r) = m :: splitL r := by
  induction m with
  | nil => rw [List.nil_append, splitL, if_pos rfl]
  | cons c m ih =>
    rw [List.cons_append, splitL, if_neg (h c (by simp)), ih (fun d hd => h d (by simp [hd]))]
theorem splitL_len : ∀ l : List UInt8, ((splitL l).map fun x => x.length + 1).sum = l.length + 1
  | [] => rfl
  | c :: r => by
    have ih := splitL_len r
    rw [splitL]
    split
    · simp only [List.map_cons, List.sum_cons, List.length_nil, List.length_cons]; omega
    · cases h : splitL r with
      | nil => exact absurd h (splitL_ne r)
      | cons x t =>
        rw [h] at ih
        simp only [List.map_cons, List.sum_cons, List.length_cons] at ih ⊢
        omega
/-- What stands between blanks; blanks in quotes are none. -/
def wordsF : Bool → List UInt8 → List UInt8 → List (List UInt8)
  | _, cur, [] => [cur]
  | q, cur, c :: r => if c = 39 then wordsF (!q) (cur ++ [c]) r else if c = 32 ∧ q = false then cur :: wordsF q [] r else wordsF q (cur ++ [c]) r
def wordsL (l : List UInt8) : List (List UInt8) := wordsF false [] l
theorem wordsF_ne (q : Bool) (cur l : List UInt8) : wordsF q cur l ≠ [] := by
  induction l generalizing q cur with
  | nil => simp [wordsF]
  | cons c r ih =>
    rw [wordsF]
    split
    · exact ih _ _
    · split
      · simp
      · exact ih _ _
theorem wordsF_len (q : Bool) (cur l : List UInt8) : (wordsF q cur l).length ≤ l.length + 1 := by
  induction l generalizing q cur with
  | nil => simp [wordsF]
  | cons c r ih =>
    rw [wordsF]
    split
    · have := ih (!q) (cur ++ [c]); simp only [List.length_cons]; omega
    · split
      · have := ih q []; simp only [List.length_cons]; omega
      · have := ih q (cur ++ [c]); simp only [List.length_cons]; omega
def kindsL : List (List UInt8) := [[97, 109, 98, 105, 103, 117, 111, 117, 115], [99, 111, 110, 102, 108, 105, 99, 116], [99, 121, 99, 108, 101], [117, 115, 101, 108, 101, 115, 115]]
def oddC (c : UInt8) : Bool := decide ((c.toNat : Int) < 32) || decide (126 < (c.toNat : Int))
/-- What is wrong with a line. -/
def lineE (l : List UInt8) : Int :=
  if 1024 < l.length then 1 else if l.any oddC = true then 2 else if [] ∈ wordsL l then 17 else if (wordsL l).headD [] ∈ kindsL then 0 else 19
def starL : List UInt8 := [32, 42]
abbrev lt (a b : List UInt8) : Bool := Op.bytesLess a b
theorem lt_irrefl : ∀ a : List UInt8, lt a a = false
  | [] => rfl
  | x :: a => by simp [lt, Op.bytesLess]; exact lt_irrefl a
theorem lt_trans : ∀ a b c : List UInt8, lt a b = true → lt b c = true → lt a c = true
  | _, _, [], _, h => by simp [lt, Op.bytesLess] at h
  | _, [], _ :: _, h, _ => by simp [lt, Op.bytesLess] at h
  | [], _ :: _, _ :: _, _, _ => by simp [lt, Op.bytesLess]
  | x :: a, y :: b, z :: c, h, h' => by
    simp only [lt, Op.bytesLess, Bool.or_eq_true, decide_eq_true_eq, Bool.and_eq_true, beq_iff_eq] at h h' ⊢
    rcases h with h | ⟨rfl, h⟩
    · rcases h' with h' | ⟨rfl, h'⟩
      · exact .inl (UInt8.lt_trans h h')
      · exact .inl h
    · rcases h' with h' | ⟨rfl, h'⟩
      · exact .inl h'
      · exact .inr ⟨rfl, lt_trans a b c h h'⟩
theorem lt_total : ∀ a b : List UInt8, lt a b = true ∨ a = b ∨ lt b a = true
  | [], [] => .inr (.inl rfl)
  | [], _ :: _ => .inl rfl
  | _ :: _, [] => .inr (.inr rfl)
  | x :: a, y :: b => by
    simp only [lt, Op.bytesLess, Bool.or_eq_true, decide_eq_true_eq, Bool.and_eq_true, beq_iff_eq, List.cons.injEq]
    rcases UInt8.lt_or_lt_of_ne (a := x) (b := y) |> fun f => (Decidable.em (x = y)).imp id f with rfl | h | h
    · rcases lt_total a b with h | rfl | h
      · exact .inl (.inr ⟨rfl, h⟩)
      · exact .inr (.inl ⟨rfl, rfl⟩)
      · exact .inr (.inr (.inr ⟨rfl, h⟩))
    · exact .inl (.inl h)
    · exact .inr (.inr (.inl h))
def Sorted (L : List (List UInt8)) : Prop := L.Pairwise fun a b => lt a b = true
/-- Where something stands, or would stand. -/
def PlaceOK (L : List (List UInt8)) (x : List UInt8) (p : Nat) : Prop := p ≤ L.length ∧ (∀ i (h : i < L.length), i < p → lt L[i] x = true) ∧ (∀ i (h : i < L.length), p ≤ i → lt L[i] x = false)
def putAt (L : List (List UInt8)) (x : List UInt8) (p : Nat) : List (List UInt8) := L.take p ++ [x] ++ L.drop p
theorem place_mem {L : List (List UInt8)} {x : List UInt8} {p : Nat} (hs : Sorted L) (hp : PlaceOK L x p) : L[p]? = some x ↔ x ∈ L := by
  constructor
  · intro h; exact List.mem_of_getElem? h
  · intro h
    obtain ⟨i, hi, rfl⟩ := List.getElem_of_mem h
    have h1 : ¬ i < p := fun hlt => by have := hp.2.1 i hi hlt; rw [lt_irrefl] at this; cases this
    have h2 : i ≤ p := by
      rcases Nat.lt_or_ge p i with hpi | hpi
      · have h3 := hp.2.2 p (by omega) (Nat.le_refl _)
        have h4 := List.pairwise_iff_getElem.1 hs p i (by omega) hi hpi
        rw [h3] at h4; cases h4
      · exact hpi
    obtain rfl : i = p := by omega
    exact List.getElem?_eq_getElem hi
theorem place_unique {L : List (List UInt8)} {x : List UInt8} {p q : Nat} (hp : PlaceOK L x p) (hq : PlaceOK L x q) : p = q := by
  rcases Nat.lt_trichotomy p q with h | h | h
  · have h1 := hp.2.2 p (by have := hq.1; omega) (Nat.le_refl _)
    have h2 := hq.2.1 p (by have := hq.1; omega) h
    rw [h1] at h2; cases h2
  · exact h
  · have h1 := hq.2.2 q (by have := hp.1; omega) (Nat.le_refl _)
    have h2 := hp.2.1 q (by have := hp.1; omega) h
    rw [h1] at h2; cases h2
theorem ins_mem {L : List (List UInt8)} {x : List UInt8} {p : Nat} (y : List UInt8) : y ∈ putAt L x p ↔ y = x ∨ y ∈ L := by
  unfold putAt
  rw [List.mem_append, List.mem_append, List.mem_singleton]
  constructor
  · rintro ((h | h) | h)
    · exact .inr (List.mem_of_mem_take h)
    · exact .inl h
    · exact .inr (List.mem_of_mem_drop h)
  · rintro (h | h)
    · exact .inl (.inr h)
    · rw [← List.take_append_drop p L] at h
      rcases List.mem_append.1 h with h | h
      · exact .inl (.inl h)
      · exact .inr h
theorem ins_len {L : List (List UInt8)} {x : List UInt8} {p : Nat} : (putAt L x p).length = L.length + 1 := by unfold putAt; simp; omega
theorem ins_sorted {L : List (List UInt8)} {x : List UInt8} {p : Nat} (hs : Sorted L) (hp : PlaceOK L x p) (hx : x ∉ L) : Sorted (putAt L x p) := by
  unfold Sorted putAt
  have h1 : ∀ a ∈ L.take p, lt a x = true := fun a ha => by
    obtain ⟨i, hi, rfl⟩ := List.getElem_of_mem ha
    rw [List.getElem_take]
    simp only [List.length_take] at hi
    exact hp.2.1 i (by omega) (by omega)
  have h2 : ∀ a ∈ L.drop p, lt x a = true := fun a ha => by
    obtain ⟨i, hi, rfl⟩ := List.getElem_of_mem ha
    simp only [List.length_drop] at hi
    have h3 := hp.2.2 (p + i) (by omega) (by omega)
    rw [List.getElem_drop]
    rcases lt_total x L[p + i] with h | h | h
    · exact h
    · exact absurd (h ▸ List.getElem_mem _) hx
    · rw [h3] at h; cases h
  have h3 : (L.take p ++ L.drop p).Pairwise fun a b => lt a b = true := by rw [List.take_append_drop]; exact hs
  rw [List.pairwise_append] at h3
  rw [List.append_assoc, List.pairwise_append]
  refine ⟨h3.1, ?_, ?_⟩
  · rw [List.singleton_append, List.pairwise_cons]
    exact ⟨h2, h3.2.1⟩
  · intro a ha b hb
    rw [List.singleton_append, List.mem_cons] at hb
    rcases hb with rfl | hb
    · exact h1 a ha
    · exact h3.2.2 a ha b hb
theorem ins_end {L : List (List UInt8)} {x : List UInt8} {p : Nat} (hs : Sorted (L ++ [x])) (hp : PlaceOK L x p) : putAt L x p = L ++ [x] ∧ x ∉ L := by
  have h := (List.pairwise_append.1 hs).2.2
  have hpl : p = L.length := by
    rcases Nat.lt_or_ge p L.length with h1 | h1
    · have h2 := hp.2.2 p h1 (Nat.le_refl _)
      have h3 := h L[p] (List.getElem_mem _) x (by simp)
      rw [h2] at h3; cases h3
    · have := hp.1; omega
  subst hpl
  refine ⟨by unfold putAt; rw [List.take_of_length_le (Nat.le_refl _), List.drop_of_length_le (Nat.le_refl _), List.append_nil], fun hx => ?_⟩
  have := h x hx x (by simp)
  rw [lt_irrefl] at this; cases this
/-- The place, found by going through. -/
def posL : List (List UInt8) → List UInt8 → Nat
  | [], _ => 0
  | a :: L, x => if lt a x = true then posL L x + 1 else 0
theorem posL_ok {L : List (List UInt8)} (hs : Sorted L) (x : List UInt8) : PlaceOK L x (posL L x) := by
  induction L with
  | nil => exact ⟨Nat.le_refl _, fun i h => by simp at h, fun i h => by simp at h⟩
  | cons a L ih =>
    obtain ⟨ha, hs'⟩ := List.pairwise_cons.1 hs
    obtain ⟨i1, i2, i3⟩ := ih hs'
    rw [posL]
    split
    · rename_i hax
      refine ⟨by simp only [List.length_cons]; omega, fun i h hi => ?_, fun i h hi => ?_⟩
      · cases i with
        | zero => exact hax
        | succ i => exact i2 i (by simpa using h) (by omega)
      · cases i with
        | zero => omega
        | succ i => exact i3 i (by simpa using h) (by omega)
    · rename_i hax
      have hax : lt a x = false := by simpa using hax
      refine ⟨Nat.zero_le _, fun i h hi => by omega, fun i h hi => ?_⟩
      cases i with
      | zero => exact hax
      | succ i =>
        have hiL : i < L.length := by simpa using h
        show lt L[i] x = false
        cases hl : lt L[i] x
        · rfl
        · have := lt_trans a L[i] x (ha _ (List.getElem_mem _)) hl
          rw [hax] at this; cases this
end Go.Proofs.YtlnaepemkeodoaaDoor
