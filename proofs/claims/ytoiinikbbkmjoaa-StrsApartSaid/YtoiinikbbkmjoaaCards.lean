/- How many words two sets hold together; what a set keeps while another is turned. -/
import Derived.Test.YtoiinikbbkmjoaaTake
namespace Go.Proofs.Ytoiinikbbkmjoaa
open Go.RowKit
theorem sorted_cons {a : List Int} {s : List (List Int)} (h1 : ∀ x ∈ s, lessL a x = true) (h2 : Sorted s) : Sorted (a :: s) := by
  intro i j x y hij hx hy
  match i, j, hij with
  | 0, j + 1, _ =>
    simp only [List.getElem?_cons_zero, Option.some.injEq] at hx
    rw [List.getElem?_cons_succ] at hy
    subst hx
    exact h1 y (List.mem_of_getElem? hy)
  | i + 1, j + 1, h =>
    rw [List.getElem?_cons_succ] at hx hy
    exact h2 i j x y (by omega) hx hy
theorem sorted_filter (p : List Int → Bool) : ∀ {L : List (List Int)}, Sorted L → Sorted (L.filter p)
  | [], h => h
  | a :: s, h => by
    obtain ⟨h1, h2⟩ := sorted_tail h
    rw [List.filter_cons]
    split
    · exact sorted_cons (fun x hx => h1 x (List.mem_filter.1 hx).1) (sorted_filter p h2)
    · exact sorted_filter p h2
theorem sorted_nomem {a : List Int} {s : List (List Int)} (h : Sorted (a :: s)) : a ∉ s := fun hm => by
  have := (sorted_tail h).1 a hm
  rw [lessL_irr] at this
  simp at this
theorem foldl_count : ∀ {B : List (List Int)} (A : List (List Int)), Sorted B → (B.foldl rAdd A).length + (B.filter (fun x => decide (x ∈ A))).length = A.length + B.length
  | [], A, _ => by simp
  | b :: t, A, h => by
    have ht := (sorted_tail h).2
    have hn := sorted_nomem h
    have ih := foldl_count (B := t) (rAdd A b) ht
    rw [List.foldl_cons]
    have he : t.filter (fun x => decide (x ∈ rAdd A b)) = t.filter (fun x => decide (x ∈ A)) := by
      apply List.filter_congr
      intro x hx
      have hxb : x ≠ b := fun e => hn (e ▸ hx)
      simp [mem_rAdd, hxb]
    rw [he] at ih
    by_cases hb : b ∈ A
    · have hr : rAdd A b = A := by unfold rAdd; rw [if_pos hb]
      rw [hr] at ih ⊢
      rw [List.filter_cons, if_pos (by simpa using hb)]
      simp only [List.length_cons]
      omega
    · have hr := rAdd_new hb
      rw [List.filter_cons, if_neg (by simpa using hb)]
      rw [hr] at ih
      simp only [List.length_cons]
      omega
theorem meetL_filter {A B : List (List Int)} (hB : Sorted B) : meetL A B = B.filter (fun x => decide (x ∈ A)) :=
  sorted_unique (ofL_sorted _) (sorted_filter _ hB) (fun x => by
    rw [mem_meetL, List.mem_filter]
    simp [and_comm])
theorem cards {A B : List (List Int)} (hB : Sorted B) : (B.foldl rAdd A).length + (meetL A B).length = A.length + B.length := by
  rw [meetL_filter hB]
  exact foldl_count A hB
theorem meet_union {A B : List (List Int)} (hB : Sorted B) : meetL (B.foldl rAdd A) B = B :=
  sorted_unique (ofL_sorted _) hB (fun x => by
    rw [mem_meetL, foldl_mem]
    exact ⟨fun h => h.2, fun h => ⟨.inr h, h⟩⟩)
theorem has_meet (A B : List (List Int)) (x : List Int) : decide (x ∈ meetL A B) = (decide (x ∈ A) && decide (x ∈ B)) := by
  rw [Bool.eq_iff_iff]; simp [mem_meetL]
theorem has_union (A B : List (List Int)) (x : List Int) : decide (x ∈ B.foldl rAdd A) = (decide (x ∈ A) || decide (x ∈ B)) := by
  rw [Bool.eq_iff_iff]; simp [foldl_mem]
theorem short_union {A B : List (List Int)} (hA : Short A) (hB : Short B) : Short (B.foldl rAdd A) := by
  have := short_fold hA hB B.length
  rwa [List.take_length] at this
theorem short_meet {A B : List (List Int)} (hA : Short A) : Short (meetL A B) := fun y hy => hA y (mem_meetL.1 hy).1
/-- Two sets in blocks of their own, and what is made of them. -/
structure Two (w0 : World) (xb yb mb : Nat) (slv tlv : Value) (svs tvs : List Value) (X Y M : List (List Int)) (w : World) : Prop where
  s : SetAt xb slv svs X w
  t : SetAt yb tlv tvs Y w
  m : SetE mb M w
  b : Below w0.heap.size w0 w
theorem Two.go {w0 w w' : World} {xb yb mb : Nat} {slv tlv : Value} {svs tvs : List Value} {X Y M : List (List Int)} (h : Two w0 xb yb mb slv tlv svs tvs X Y M w) (k : Grow w w') : Two w0 xb yb mb slv tlv svs tvs X Y M w' :=
  ⟨h.s.grow k, h.t.grow k, h.m.go k, Grow.trans h.b k⟩
theorem SetAt.e {sb : Nat} {lv : Value} {vs : List Value} {L : List (List Int)} {w : World} (h : SetAt sb lv vs L w) (hs : Sorted L) : SetE sb L w := ⟨0, lv, vs, h, hs, Nat.zero_le _, fun _ _ => Nat.zero_le _⟩
end Go.Proofs.Ytoiinikbbkmjoaa
