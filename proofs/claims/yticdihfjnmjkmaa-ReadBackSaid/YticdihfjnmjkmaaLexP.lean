/- The words of a text, in order. Plain. -/
import Derived.Test.YticdihfjnmjkmaaWordS
namespace Go.Proofs.Yticdihfjnmjkmaa
open Go.RowKit
structure Tok where
  kind : Int
  pos : Nat
  text : List UInt8
  wt : Nat
def tokAt (r : WordR) (p : Nat) : Tok := ⟨r.kind, p, r.text, r.wt⟩
def endTok (p : Nat) : Tok := ⟨0, p, [], 0⟩
/-- How far it is from a word to the next one. -/
def stepL (l : List UInt8) : Nat := (wordL l).n + skipL false (l.drop (wordL l).n)
/-- The words from a word's place on (or from the end), the error's number, its place. -/
inductive LexL : Nat → List UInt8 → List Tok → Int → Nat → Prop
  | fin (p : Nat) : LexL p [] [endTok p] 0 0
  | err (p : Nat) (l : List UInt8) : l ≠ [] → (wordL l).err ≠ 0 → LexL p l [] (wordL l).err p
  | tok (p : Nat) (l : List UInt8) (ts : List Tok) (e : Int) (a : Nat) : l ≠ [] → (wordL l).err = 0 → LexL (p + stepL l) (l.drop (stepL l)) ts e a → LexL p l (tokAt (wordL l) p :: ts) e a
theorem LexL.unique {p : Nat} {l : List UInt8} {ts : List Tok} {e : Int} {a : Nat} (h : LexL p l ts e a) : ∀ {ts' : List Tok} {e' : Int} {a' : Nat}, LexL p l ts' e' a' → ts = ts' ∧ e = e' ∧ a = a' := by
  induction h with
  | fin p =>
    intro ts' e' a' h
    cases h with
    | fin => exact ⟨rfl, rfl, rfl⟩
    | err _ _ h1 _ => exact absurd rfl h1
    | tok _ _ _ _ _ h1 _ _ => exact absurd rfl h1
  | err p l h1 h2 =>
    intro ts' e' a' h
    cases h with
    | fin => exact absurd rfl h1
    | err => exact ⟨rfl, rfl, rfl⟩
    | tok _ _ _ _ _ _ h3 _ => exact absurd h3 h2
  | tok p l ts e a h1 h2 _ ih =>
    intro ts' e' a' h
    cases h with
    | fin => exact absurd rfl h1
    | err _ _ _ h3 => exact absurd h2 h3
    | tok _ _ us _ _ _ _ h4 =>
      obtain ⟨rfl, rfl, rfl⟩ := ih h4
      exact ⟨rfl, rfl, rfl⟩
theorem nameW_cases (c : UInt8) (r : List UInt8) : nameW c r = badW 1 ∨ nameW c r = ⟨0, 1, c :: r.take (runL innerB r), 0, runL innerB r + 1⟩ := by
  unfold nameW
  split
  · exact .inl rfl
  · exact .inr rfl
theorem quotW_cases (r : List UInt8) : quotW r = badW 3 ∨ quotW r = badW 1 ∨ (quotW r = ⟨0, 2, r.take (runL quotableB r), 0, runL quotableB r + 2⟩ ∧ r[runL quotableB r]? = some 39 ∧ runL quotableB r ≠ 0 ∧ runL quotableB r ≤ 16) := by
  unfold quotW
  split
  · exact .inl rfl
  · rename_i h
    split
    · exact .inr (.inl rfl)
    · refine .inr (.inr ⟨rfl, ?_, fun h0 => h (.inr (.inr h0)), by omega⟩)
      exact Decidable.not_not.1 fun h0 => h (.inr (.inl h0))
theorem wghtW_cases (r : List UInt8) : wghtW r = badW 4 ∨ (∃ f, readL (r.take (runL weightB r)) = some f ∧ wghtW r = ⟨0, 3, r.take (runL weightB r), f, runL weightB r + 1⟩) := by
  unfold wghtW
  split
  · rename_i h
    obtain ⟨f, hf⟩ := Option.isSome_iff_exists.1 h
    exact .inr ⟨f, hf, by rw [hf]; rfl⟩
  · exact .inl rfl
theorem wordL_cons (c : UInt8) (r : List UInt8) : wordL (c :: r) = if letterB (c.toNat : Int) = true then nameW c r else if (c.toNat : Int) = 39 then quotW r else if (c.toNat : Int) = 37 then wghtW r else if signB (c.toNat : Int) = true then ⟨0, 4, [c], 0, 1⟩ else badW 2 := rfl
theorem wordL_n : ∀ {l : List UInt8}, (wordL l).err = 0 → 1 ≤ (wordL l).n ∧ (wordL l).n ≤ l.length
  | [], h => by cases h
  | c :: r, h => by
    rw [wordL_cons] at h ⊢
    split at h
    · rename_i h1
      rw [if_pos h1]
      rcases nameW_cases c r with e | e <;> rw [e] at h ⊢
      · cases h
      · have := runL_le innerB r
        simp only [List.length_cons]; omega
    · rename_i h1
      rw [if_neg h1]
      split at h
      · rename_i h2
        rw [if_pos h2]
        rcases quotW_cases r with e | e | ⟨e, e1, _, _⟩ <;> rw [e] at h ⊢
        · cases h
        · cases h
        · have : runL quotableB r < r.length := by
            rcases Nat.lt_or_ge (runL quotableB r) r.length with h | h
            · exact h
            · rw [List.getElem?_eq_none h] at e1; cases e1
          simp only [List.length_cons]; omega
      · rename_i h2
        rw [if_neg h2]
        split at h
        · rename_i h3
          rw [if_pos h3]
          rcases wghtW_cases r with e | ⟨f, _, e⟩ <;> rw [e] at h ⊢
          · cases h
          · have := runL_le weightB r
            simp only [List.length_cons]; omega
        · rename_i h3
          rw [if_neg h3]
          split at h
          · rename_i h4
            rw [if_pos h4]
            simp only [List.length_cons]; omega
          · cases h
theorem stepL_le {l : List UInt8} (h : (wordL l).err = 0) : 1 ≤ stepL l ∧ stepL l ≤ l.length := by
  obtain ⟨h1, h2⟩ := wordL_n h
  have h3 := skipL_le false (l.drop (wordL l).n)
  rw [List.length_drop] at h3
  unfold stepL
  omega
/-- The words of a text. -/
def LexT (l : List UInt8) (ts : List Tok) (e : Int) (a : Nat) : Prop := LexL (skipL false l) (l.drop (skipL false l)) ts e a
theorem LexT.unique {l : List UInt8} {ts ts' : List Tok} {e e' : Int} {a a' : Nat} (h : LexT l ts e a) (h' : LexT l ts' e' a') : ts = ts' ∧ e = e' ∧ a = a' := LexL.unique h h'
theorem lex_total : ∀ (n p : Nat) (l : List UInt8), l.length ≤ n → ∃ ts e a, LexL p l ts e a
  | _, p, [], _ => ⟨_, _, _, .fin p⟩
  | 0, _, _ :: _, h => by simp at h
  | n + 1, p, c :: r, h => by
    by_cases h1 : (wordL (c :: r)).err = 0
    · obtain ⟨h2, h3⟩ := stepL_le h1
      obtain ⟨ts, e, a, h4⟩ := lex_total n (p + stepL (c :: r)) ((c :: r).drop (stepL (c :: r))) (by rw [List.length_drop]; omega)
      exact ⟨_, _, _, .tok p _ ts e a (by simp) h1 h4⟩
    · exact ⟨_, _, _, .err p _ (by simp) h1⟩
/-- From place to place of a text. -/
theorem lex_at_tok {s : ByteArray} {k : Nat} (hk : k < s.size) (he : (wordA s k).err = 0) {ts : List Tok} {e : Int} {a : Nat}
    (h : LexL (k + (wordA s k).n + skipA false s (k + (wordA s k).n)) (tailL s (k + (wordA s k).n + skipA false s (k + (wordA s k).n))) ts e a) : LexL k (tailL s k) (tokAt (wordA s k) k :: ts) e a := by
  refine .tok k _ ts e a (by rw [tailL_cons hk]; simp) he ?_
  have e1 : stepL (tailL s k) = (wordA s k).n + skipA false s (k + (wordA s k).n) := by
    unfold stepL
    rw [tailL_drop]
    rfl
  rw [e1, tailL_drop, ← Nat.add_assoc]
  exact h
theorem lex_at_err {s : ByteArray} {k : Nat} (hk : k < s.size) (he : (wordA s k).err ≠ 0) : LexL k (tailL s k) [] (wordA s k).err k := .err k _ (by rw [tailL_cons hk]; simp) he
theorem lex_at_fin {s : ByteArray} {k : Nat} (hk : s.size ≤ k) : LexL k (tailL s k) [endTok k] 0 0 := by
  rw [tailL_end hk]
  exact .fin k
theorem wordA_n {s : ByteArray} {k : Nat} (he : (wordA s k).err = 0) : 1 ≤ (wordA s k).n ∧ (wordA s k).n ≤ s.size - k := by
  rw [← tailL_len]
  exact wordL_n he
theorem lexT_start (s : ByteArray) {ts : List Tok} {e : Int} {a : Nat} (h : LexL (skipA false s 0) (tailL s (skipA false s 0)) ts e a) : LexT s.data.toList ts e a := h
end Go.Proofs.Yticdihfjnmjkmaa
