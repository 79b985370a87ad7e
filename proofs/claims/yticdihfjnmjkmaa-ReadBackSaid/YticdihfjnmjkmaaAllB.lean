/- The words of a text, as both tell them. -/
import Derived.Test.YticdihfjnmjkmaaAlive
import Derived.Test.YticdihfjnmjkmaaSameT
namespace Go.Proofs.Yticdihfjnmjkmaa
open Go.RowKit
theorem LexL.len {p : Nat} {l : List UInt8} {ts : List Tok} {e : Int} {a : Nat} (h : LexL p l ts e a) : ts.length ≤ l.length + 1 := by
  induction h with
  | fin p => simp
  | err p l h1 h2 => simp
  | tok p l ts e a h1 h2 _ ih =>
    obtain ⟨h3, h4⟩ := stepL_le h2
    rw [List.length_drop] at ih
    simp only [List.length_cons]; omega
theorem LexL.zero {p : Nat} {l : List UInt8} {ts : List Tok} {e : Int} {a : Nat} (h : LexL p l ts e a) : e = 0 → a = 0 := by
  induction h with
  | fin p => exact fun _ => rfl
  | err p l h1 h2 => exact fun h => absurd h h2
  | tok p l ts e a h1 h2 _ ih => exact ih
theorem LexT.len {l : List UInt8} {ts : List Tok} {e : Int} {a : Nat} (h : LexT l ts e a) : ts.length ≤ l.length + 1 := by
  have := LexL.len h
  rw [List.length_drop] at this
  omega
theorem toksAt_nil (w : World) (B : Nat) (a : Option Addr) : ToksAt w B a [] := fun i hi => by simp at hi
theorem pall_yes {s : ByteArray} (hs : s.size ≤ 65536) {ts : List Tok} {a : Nat} (h : LexT s.data.toList ts 0 a) (w : World) : Calls Try.prog 11 #[.string s] w fun e w' =>
    ∃ ad ca, e = .returned (.tuple #[.slice ad ts.length ca, .agg #[.int .i64 0, .int .i64 0]]) ∧ ts.length ≤ ca ∧ ToksAt w' w'.heap.size ad ts ∧ Below w.heap.size w w' := by
  obtain rfl := LexL.zero h rfl
  refine (pall_any s hs ts 0 0 h w).mono ?_
  rintro e w' ⟨v, rfl, h1, _, hb⟩
  obtain ⟨ad, ca, rfl, _, h2, _, h3⟩ := (h1 rfl).shape
  exact ⟨ad, ca, rfl, h3, h2, hb⟩
theorem pall_no {s : ByteArray} (hs : s.size ≤ 65536) {ts : List Tok} {er : Int} {a : Nat} (h : LexT s.data.toList ts er a) (he : er ≠ 0) (w : World) : Calls Try.prog 11 #[.string s] w fun e w' =>
    e = .returned (.tuple #[.slice none 0 0, .agg #[.int .i64 er, .int .i64 a]]) ∧ Below w.heap.size w w' := by
  refine (pall_any s hs ts er a h w).mono ?_
  rintro e w' ⟨v, rfl, _, h1, hb⟩
  obtain rfl := h1 he
  exact ⟨rfl, hb⟩
/-- Both tell the same of a text. -/
theorem all_both (s : ByteArray) : ∃ (ts : List Tok) (er : Int) (a : Nat), ts.length ≤ 100000 ∧
    (∀ w, Hid (Calls Try.prog 11 #[.string s] w fun e w' => ∃ ad ca, e = .returned (.tuple #[.slice ad ts.length ca, .agg #[.int .i64 er, .int .i64 a]]) ∧ ToksAt w' w'.heap.size ad ts ∧ Below w.heap.size w w')) ∧
    (∀ w, Hid (Calls Try.prog 12 #[.string s] w fun e w' => ∃ ad ca, e = .returned (.tuple #[.slice ad ts.length ca, .int .i64 er, .int .i64 a]) ∧ ToksAt w' w'.heap.size ad ts ∧ Below w.heap.size w w')) := by
  by_cases hs : s.size ≤ 65536
  · obtain ⟨ts, er, a, h⟩ : ∃ ts er a, LexT s.data.toList ts er a := lex_total _ _ _ (Nat.le_refl _)
    have hlen := h.len
    rw [size_len] at hlen
    by_cases he : er = 0
    · subst he
      refine ⟨ts, 0, a, by omega, fun w => (pall_any s hs ts 0 a h w).mono ?_, fun w => (rall_any s hs ts 0 a h w).mono ?_⟩
      · rintro e w' ⟨v, rfl, h1, _, hb⟩
        obtain ⟨ad, ca, rfl, _, h2, _, _⟩ := (h1 rfl).shape
        exact ⟨ad, ca, rfl, h2, hb⟩
      · rintro e w' ⟨v, rfl, h1, _, hb⟩
        obtain ⟨ad, ca, rfl, _, h2, _, _⟩ := (h1 rfl).shape
        exact ⟨ad, ca, rfl, h2, hb⟩
    · refine ⟨[], er, a, by simp, fun w => (pall_any s hs ts er a h w).mono ?_, fun w => (rall_any s hs ts er a h w).mono ?_⟩
      · rintro e w' ⟨v, rfl, _, h1, hb⟩
        obtain rfl := h1 he
        exact ⟨none, 0, rfl, toksAt_nil _ _ _, hb⟩
      · rintro e w' ⟨v, rfl, _, h1, hb⟩
        obtain rfl := h1 he
        exact ⟨none, 0, rfl, toksAt_nil _ _ _, hb⟩
  · refine ⟨[], 1, 0, by simp, fun w => (pall_long s (by omega) w).mono ?_, fun w => (rall_long s (by omega) w).mono ?_⟩
    · rintro e w' ⟨v, rfl, _, h1, hb⟩
      obtain rfl := h1 (by decide)
      exact ⟨none, 0, rfl, toksAt_nil _ _ _, hb⟩
    · rintro e w' ⟨v, rfl, _, h1, hb⟩
      obtain rfl := h1 (by decide)
      exact ⟨none, 0, rfl, toksAt_nil _ _ _, hb⟩
end Go.Proofs.Yticdihfjnmjkmaa
