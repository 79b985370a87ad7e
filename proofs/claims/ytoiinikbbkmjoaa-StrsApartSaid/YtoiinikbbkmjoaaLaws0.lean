/- Sets of words in plain lists; the functions as the laws call them. -/
import Derived.Test.YtoiinikbbkmjoaaSame
namespace Go.Proofs.Ytoiinikbbkmjoaa
open Go.RowKit
theorem sorted_tail {a : List Int} {s : List (List Int)} (h : Sorted (a :: s)) : (∀ x ∈ s, lessL a x = true) ∧ Sorted s := by
  constructor
  · intro x hx
    obtain ⟨i, hi, rfl⟩ := List.getElem_of_mem hx
    exact h 0 (i + 1) a s[i] (by omega) rfl (by rw [List.getElem?_cons_succ, List.getElem?_eq_getElem hi])
  · intro i j x y hij hx hy
    exact h (i + 1) (j + 1) x y (by omega) (by rw [List.getElem?_cons_succ]; exact hx) (by rw [List.getElem?_cons_succ]; exact hy)
theorem sorted_unique : ∀ {A B : List (List Int)}, Sorted A → Sorted B → (∀ x, x ∈ A ↔ x ∈ B) → A = B
  | [], [], _, _, _ => rfl
  | [], b :: _, _, _, h => by have := (h b).2 (by simp); simp at this
  | a :: _, [], _, _, h => by have := (h a).1 (by simp); simp at this
  | a :: s, b :: t, hA, hB, h => by
    obtain ⟨ha, hs⟩ := sorted_tail hA
    obtain ⟨hb, ht⟩ := sorted_tail hB
    have e : a = b := by
      rcases List.mem_cons.1 ((h a).1 (by simp)) with h1 | h1
      · exact h1
      · rcases List.mem_cons.1 ((h b).2 (by simp)) with h2 | h2
        · exact h2.symm
        · have := lessL_trans (hb a h1) (ha b h2); rw [lessL_irr] at this; simp at this
    subst e
    have := sorted_unique hs ht (fun x => ⟨fun hx => by
      rcases List.mem_cons.1 ((h x).1 (by simp [hx])) with h1 | h1
      · subst h1; have := ha x hx; rw [lessL_irr] at this; simp at this
      · exact h1, fun hx => by
      rcases List.mem_cons.1 ((h x).2 (by simp [hx])) with h1 | h1
      · subst h1; have := hb x hx; rw [lessL_irr] at this; simp at this
      · exact h1⟩)
    rw [this]
theorem mem_timesL {A B : List (List Int)} {k : Int} {x : List Int} : x ∈ timesL A B k ↔ ∃ a ∈ A, ∃ b ∈ B, joinL a b k = x := by
  unfold timesL timesP
  rw [mem_ofL, List.mem_flatMap]
  constructor
  · rintro ⟨a, ha, h⟩
    obtain ⟨b, hb, h⟩ := List.mem_map.1 h
    exact ⟨a, ha, b, hb, h⟩
  · rintro ⟨a, ha, b, hb, h⟩
    exact ⟨a, ha, List.mem_map.2 ⟨b, hb, h⟩⟩
theorem timesL_sorted (A B : List (List Int)) (k : Int) : Sorted (timesL A B k) := ofL_sorted _
theorem timesL_len (A B : List (List Int)) (k : Int) : (timesL A B k).length ≤ A.length * B.length := by
  have := ofL_len (timesP A B k)
  rw [timesP_len] at this
  exact this
theorem joinL_le (a b : List Int) {k : Int} (h : k ≤ 15) : (joinL a b k).length ≤ 15 := by unfold joinL; simp; omega
theorem timesL_short {A B : List (List Int)} {k : Int} (h : k ≤ 15) : ∀ y ∈ timesL A B k, y.length ≤ 15 := fun y hy => by
  obtain ⟨a, _, b, _, rfl⟩ := mem_timesL.1 hy
  exact joinL_le a b h
theorem joinL_assoc (a b c : List Int) (k : Int) : joinL (joinL a b k) c k = joinL a (joinL b c k) k := by
  unfold joinL
  have h1 : ∀ (n : Nat) (X Y : List Int), (X.take n ++ Y).take n = (X ++ Y).take n := fun n X Y => by
    rw [List.take_append, List.take_append, List.take_take, Nat.min_self]
    congr 2
    simp only [List.length_take]
    omega
  have h2 : ∀ (n : Nat) (X Y : List Int), (X ++ Y.take n).take n = (X ++ Y).take n := fun n X Y => by
    rw [List.take_append, List.take_append, List.take_take]
    congr 2
    omega
  rw [h1, h2, List.append_assoc]
theorem timesL_assoc (A B C : List (List Int)) (k : Int) : timesL (timesL A B k) C k = timesL A (timesL B C k) k := by
  refine sorted_unique (timesL_sorted _ _ _) (timesL_sorted _ _ _) (fun x => ?_)
  rw [mem_timesL, mem_timesL]
  constructor
  · rintro ⟨y, hy, c, hc, rfl⟩
    obtain ⟨a, ha, b, hb, rfl⟩ := mem_timesL.1 hy
    exact ⟨a, ha, _, mem_timesL.2 ⟨b, hb, c, hc, rfl⟩, (joinL_assoc a b c k).symm⟩
  · rintro ⟨a, ha, y, hy, rfl⟩
    obtain ⟨b, hb, c, hc, rfl⟩ := mem_timesL.1 hy
    exact ⟨_, mem_timesL.2 ⟨a, ha, b, hb, rfl⟩, c, hc, joinL_assoc a b c k⟩
theorem timesL_nil (A : List (List Int)) (k : Int) : timesL A [] k = [] := by
  have h : timesP A [] k = [] := by unfold timesP; simp
  unfold timesL
  rw [h]; rfl
theorem nil_timesL (B : List (List Int)) (k : Int) : timesL [] B k = [] := rfl
theorem timesL_one (A : List (List Int)) (k : Int) : timesL A [[]] k = timesL [[]] A k := by
  refine sorted_unique (timesL_sorted _ _ _) (timesL_sorted _ _ _) (fun x => ?_)
  rw [mem_timesL, mem_timesL]
  constructor
  · rintro ⟨a, ha, b, hb, rfl⟩
    have : b = [] := by simpa using hb
    subst this
    exact ⟨[], by simp, a, ha, by unfold joinL; simp⟩
  · rintro ⟨b, hb, a, ha, rfl⟩
    have : b = [] := by simpa using hb
    subst this
    exact ⟨a, ha, [], by simp, by unfold joinL; simp⟩
theorem timesL_one_short {A : List (List Int)} {k : Int} (hk : 0 ≤ k) : ∀ y ∈ timesL A [[]] k, (y.length : Int) ≤ k := fun y hy => by
  obtain ⟨a, _, b, _, rfl⟩ := mem_timesL.1 hy
  unfold joinL
  simp only [List.length_take]
  omega
theorem mem_meetL {A B : List (List Int)} {x : List Int} : x ∈ meetL A B ↔ x ∈ A ∧ x ∈ B := by
  unfold meetL meetP
  rw [mem_ofL, List.mem_filter]
  simp
theorem meetL_self {A : List (List Int)} (h : Sorted A) : meetL A A = A := sorted_unique (ofL_sorted _) h (fun x => by rw [mem_meetL]; simp)
theorem meetL_comm (A B : List (List Int)) : meetL A B = meetL B A := sorted_unique (ofL_sorted _) (ofL_sorted _) (fun x => by rw [mem_meetL, mem_meetL]; exact And.comm)
/-- A set, wherever. -/
def SetE (sb : Nat) (L : List (List Int)) (w : World) : Prop := ∃ base, SetB base sb L w
theorem SetE.go {sb : Nat} {L : List (List Int)} {w w' : World} (h : SetE sb L w) (k : Grow w w') : SetE sb L w' := by
  obtain ⟨b, h⟩ := h
  exact ⟨b, h.go k⟩
theorem SetE.sorted {sb : Nat} {L : List (List Int)} {w : World} (h : SetE sb L w) : Sorted L := by
  obtain ⟨_, _, _, _, h, _⟩ := h
  exact h
def PtrPost (L : List (List Int)) (w : World) (e : Ending) (w' : World) : Prop := ∃ ob, e = .returned (.pointer (some ⟨ob, 0, none⟩)) ∧ SetE ob L w' ∧ Grow w w'
section
variable {w : World} {sb tb : Nat} {A B : List (List Int)}
theorem of_e {a : Option Addr} {c : Nat} (h : Lsts w a A) (hn : A.length ≤ 10000) (hL : Short A) : Calls Try.prog 17 #[.slice a A.length c] w (PtrPost (ofL A) w) :=
  (of_any h hn hL).mono (fun _ _ h => by obtain ⟨sb, h1, h2, h3⟩ := h; exact ⟨sb, h1, ⟨_, h2⟩, h3⟩)
theorem times_e (hs : SetE sb A w) (ht : SetE tb B w) (hA : ∀ y ∈ A, y.length ≤ 5000) (hB : ∀ y ∈ B, y.length ≤ 5000) (hn : A.length ≤ 100) (hn2 : B.length ≤ 100) (k : Int) (hk : -9223372036854775808 ≤ k ∧ k ≤ 9223372036854775807) :
    Calls Try.prog 21 #[.pointer (some ⟨sb, 0, none⟩), .pointer (some ⟨tb, 0, none⟩), .int .i64 k] w (PtrPost (timesL A B k) w) := by
  obtain ⟨b1, hs⟩ := hs
  obtain ⟨b2, ht⟩ := ht
  exact (times_any hs ht hA hB hn hn2 k hk).mono (fun _ _ h => by obtain ⟨sb, h1, h2, h3⟩ := h; exact ⟨sb, h1, ⟨_, h2⟩, h3⟩)
theorem meet_e (hs : SetE sb A w) (ht : SetE tb B w) (hA : Short A) (hB : Short B) (hn : A.length ≤ 10000) (hn2 : B.length ≤ 10000) :
    Calls Try.prog 22 #[.pointer (some ⟨sb, 0, none⟩), .pointer (some ⟨tb, 0, none⟩)] w (PtrPost (meetL A B) w) := by
  obtain ⟨b1, hs⟩ := hs
  obtain ⟨b2, ht⟩ := ht
  exact (meet_any hs ht hA hB hn hn2).mono (fun _ _ h => by obtain ⟨sb, h1, h2, h3⟩ := h; exact ⟨sb, h1, ⟨_, h2⟩, h3⟩)
theorem len_e (h : SetE sb A w) : Calls Try.prog 20 #[.pointer (some ⟨sb, 0, none⟩)] w fun e w' => e = .returned (.int .i64 (A.length : Nat)) ∧ w = w' := by
  obtain ⟨b1, h⟩ := h
  exact len_any h
theorem same_e (hs : SetE sb A w) (ht : SetE tb B w) (hA : Short A) (hB : Short B) (hn : A.length ≤ 10000) (hn2 : B.length ≤ 10000) :
    Calls Try.prog 19 #[.pointer (some ⟨sb, 0, none⟩), .pointer (some ⟨tb, 0, none⟩)] w fun e w' => e = .returned (.bool (decide (A = B))) ∧ Grow w w' := by
  obtain ⟨b1, hs⟩ := hs
  obtain ⟨b2, ht⟩ := ht
  exact setsame_any hs ht hA hB hn hn2
theorem all_e (hs : SetE sb A w) (hA : Short A) (hn : A.length ≤ 10000) : Calls Try.prog 18 #[.pointer (some ⟨sb, 0, none⟩)] w fun e w' => ∃ a c, e = .returned (.slice a A.length c) ∧ Lsts w' a A ∧ Grow w w' := by
  obtain ⟨b1, hs⟩ := hs
  exact (all_any hs hA hn).mono (fun _ _ h => by
    obtain ⟨v, h1, h2, h3⟩ := h
    obtain ⟨a, c, rfl, h4, -, -⟩ := h2.lsts
    exact ⟨a, c, h1, h4, h3⟩)
theorem has_e {a : Option Addr} {c : Nat} {xs : List Int} (hs : SetE sb A w) (hx : Lst w a xs) (hxl : xs.length ≤ 10000) (hL : Short A) (hn : A.length ≤ 10000) :
    Calls Try.prog 25 #[.pointer (some ⟨sb, 0, none⟩), .slice a xs.length c] w fun e w' => e = .returned (.bool (decide (xs ∈ A))) ∧ Grow w w' := by
  obtain ⟨b1, hs⟩ := hs
  exact has_set hs hx hxl hL hn
end
end Go.Proofs.Ytoiinikbbkmjoaa
