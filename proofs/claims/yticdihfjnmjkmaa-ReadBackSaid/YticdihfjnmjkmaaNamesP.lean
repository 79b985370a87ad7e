/- Names and quotes in a text of their own. Plain; and reading a list of words that was made. -/
import Derived.Test.YticdihfjnmjkmaaAllB
namespace Go.Proofs.Yticdihfjnmjkmaa
open Go.RowKit
theorem runL_all (p : Int → Bool) : ∀ l : List UInt8, (∀ c ∈ l, p (c.toNat : Int) = true) → runL p l = l.length
  | [], _ => rfl
  | c :: r, h => by
    unfold runL
    rw [if_pos (h c (by simp)), runL_all p r (fun x hx => h x (by simp [hx]))]
    rfl
theorem runL_stop (p : Int → Bool) (d : UInt8) (t : List UInt8) (hd : p (d.toNat : Int) = false) : ∀ l : List UInt8, (∀ c ∈ l, p (c.toNat : Int) = true) → runL p (l ++ d :: t) = l.length
  | [], _ => by
    show runL p (d :: t) = 0
    unfold runL
    rw [if_neg (by rw [hd]; decide)]
  | c :: r, h => by
    show runL p (c :: (r ++ d :: t)) = _
    unfold runL
    rw [if_pos (h c (by simp)), runL_stop p d t hd r (fun x hx => h x (by simp [hx]))]
    rfl
theorem letter_inner {c : Int} (h : letterB c = true) : innerB c = true := by unfold innerB; rw [h]; rfl
theorem letter_facts {c : Int} (h : letterB c = true) : blankB c = false ∧ c ≠ 35 ∧ c ≠ 39 ∧ c ≠ 37 := by
  unfold letterB at h
  simp only [Bool.or_eq_true, Bool.and_eq_true, decide_eq_true_eq] at h
  refine ⟨?_, by omega, by omega, by omega⟩
  unfold blankB
  simp
  omega
theorem skip_word {c : UInt8} {r : List UInt8} (h1 : blankB (c.toNat : Int) = false) (h2 : (c.toNat : Int) ≠ 35) : skipL false (c :: r) = 0 := by
  unfold skipL
  rw [if_neg (by rw [h1]; decide), if_neg h2]
theorem lex_one {l : List UInt8} (hs : skipL false l = 0) (hl : l ≠ []) (he : (wordL l).err = 0) (hn : (wordL l).n = l.length) : LexT l [tokAt (wordL l) 0, endTok l.length] 0 0 := by
  have h1 : stepL l = l.length := by
    unfold stepL
    rw [hn, List.drop_length]
    rfl
  unfold LexT
  rw [hs, List.drop_zero]
  refine .tok 0 l _ 0 0 hl he ?_
  rw [h1, List.drop_length, Nat.zero_add]
  exact .fin _
theorem lex_name {c : UInt8} {r : List UInt8} (h1 : letterB (c.toNat : Int) = true) (h2 : ∀ x ∈ r, innerB (x.toNat : Int) = true) (h3 : r.length + 1 ≤ 24) : LexT (c :: r) [⟨1, 0, c :: r, 0⟩, endTok (r.length + 1)] 0 0 := by
  obtain ⟨f1, f2, _, _⟩ := letter_facts h1
  have e : wordL (c :: r) = ⟨0, 1, c :: r, 0, r.length + 1⟩ := by
    rw [wordL_cons, if_pos h1]
    unfold nameW
    rw [runL_all innerB r h2, if_neg (by omega), List.take_length]
  have := lex_one (l := c :: r) (skip_word f1 f2) (by simp) (by rw [e]) (by rw [e]; rfl)
  rw [e] at this
  exact this
theorem lex_quote {l : List UInt8} (h : ∀ x ∈ l, quotableB (x.toNat : Int) = true) (h0 : l.length ≠ 0) (h1 : l.length ≤ 16) : LexT (39 :: (l ++ [39])) [⟨2, 0, l, 0⟩, endTok (l.length + 2)] 0 0 := by
  have hr : runL quotableB (l ++ [39]) = l.length := runL_stop quotableB 39 [] (by decide) l h
  have e : wordL (39 :: (l ++ [39])) = ⟨0, 2, l, 0, l.length + 2⟩ := by
    rw [wordL_cons, if_neg (by decide), if_pos (by decide)]
    unfold quotW
    rw [hr, if_neg, if_neg (by omega), List.take_left']
    · rfl
    · rintro (h | h | h)
      · simp at h
      · exact h (by simp)
      · exact h0 h
  have hlen : (39 :: (l ++ [39])).length = l.length + 2 := by simp
  have := lex_one (l := 39 :: (l ++ [39])) (skip_word (by decide) (by decide)) (by simp) (by rw [e]) (by rw [e, hlen])
  rw [e, hlen] at this
  exact this
theorem allB_mem (f : Int → Bool) (s : ByteArray) (h : allB f s s.size = true) : ∀ c ∈ s.data.toList, f (c.toNat : Int) = true := by
  unfold allB at h
  rw [← size_len, List.take_length, List.all_eq_true] at h
  exact h
theorem name_lex {s : ByteArray} (h : nameB s = true) : LexT s.data.toList [⟨1, 0, s.data.toList, 0⟩, endTok s.size] 0 0 := by
  rw [nameB_eq] at h
  simp only [Bool.and_eq_true, decide_eq_true_eq] at h
  obtain ⟨⟨⟨h1, h2⟩, h3⟩, h4⟩ := h
  have h5 := allB_mem innerB s h4
  rw [headB_pos (by omega)] at h3
  have hz : s.data.toList = s[0] :: tailL s 1 := tailL_cons (s := s) (p := 0) (by omega)
  have hl := size_len s
  rw [hz] at h5 hl ⊢
  rw [← hl]
  exact lex_name h3 (fun x hx => h5 x (by simp [hx])) (by simp only [List.length_cons] at hl; omega)
theorem quote_lex {s : ByteArray} (h : quoteB s = true) : LexT (39 :: (s.data.toList ++ [39])) [⟨2, 0, s.data.toList, 0⟩, endTok (s.size + 2)] 0 0 := by
  unfold quoteB at h
  simp only [Bool.and_eq_true, decide_eq_true_eq] at h
  obtain ⟨⟨h1, h2⟩, h3⟩ := h
  rw [← size_len]
  exact lex_quote (allB_mem quotableB s h1) (by rw [size_len]; omega) (by rw [size_len]; omega)
theorem two_cell {t u : Tok} {w : World} {g : Nat} (h : ∀ o, o < [t, u].length * 4 → w.cell? ⟨g, o, none⟩ = (toksC [t, u])[o]?) :
    w.cell? ⟨g, 0, none⟩ = some (.int .i64 t.kind) ∧ w.cell? ⟨g, 1, none⟩ = some (.int .i64 t.pos) ∧ w.cell? ⟨g, 2, none⟩ = some (.string (bOf t.text)) ∧ w.cell? ⟨g, 3, none⟩ = some (.float .f64 t.wt) :=
  ⟨h 0 (by simp), h 1 (by simp), h 2 (by simp), h 3 (by simp)⟩
theorem pall_two {s : ByteArray} (hs : s.size ≤ 65536) {k : Int} {tx : List UInt8} {u : Tok} (h : LexT s.data.toList [⟨k, 0, tx, 0⟩, u] 0 0) (w : World) : Calls Try.prog 11 #[.string s] w fun e w' =>
    ∃ g cap, e = .returned (.tuple #[.slice (some ⟨g, 0, none⟩) 2 cap, .agg #[.int .i64 0, .int .i64 0]]) ∧ w.heap.size ≤ g ∧ g < w'.heap.size ∧ 2 ≤ cap ∧ Below w.heap.size w w' ∧
      w'.cell? ⟨g, 0, none⟩ = some (.int .i64 k) ∧ w'.cell? ⟨g, 1, none⟩ = some (.int .i64 0) ∧ w'.cell? ⟨g, 2, none⟩ = some (.string (bOf tx)) ∧ w'.cell? ⟨g, 3, none⟩ = some (.float .f64 0) := by
  refine (pall_any s hs _ 0 0 h w).mono ?_
  rintro e w' ⟨v, rfl, ho, _, hb⟩
  obtain ⟨g, cap, rfl, hg0, hg, hc, hcell⟩ := (ho rfl).row (by simp)
  exact ⟨g, cap, rfl, hg0, hg, hc, hb, two_cell hcell⟩
theorem pall_some {s : ByteArray} (hs : s.size ≤ 65536) (w : World) : Calls Try.prog 11 #[.string s] w fun e w' =>
    ∃ (ad : Option Addr) (n ca : Nat) (er a : Int), e = .returned (.tuple #[.slice ad n ca, .agg #[.int .i64 er, .int .i64 a]]) ∧ Below w.heap.size w w' := by
  obtain ⟨ts, er, a, h⟩ : ∃ ts er a, LexT s.data.toList ts er a := lex_total _ _ _ (Nat.le_refl _)
  by_cases he : er = 0
  · subst he
    refine (pall_yes hs h w).mono ?_
    rintro e w' ⟨ad, ca, rfl, _, _, hb⟩
    exact ⟨ad, _, ca, 0, 0, rfl, hb⟩
  · refine (pall_no hs h he w).mono ?_
    rintro e w' ⟨rfl, hb⟩
    exact ⟨none, 0, 0, er, a, rfl, hb⟩
end Go.Proofs.Yticdihfjnmjkmaa
