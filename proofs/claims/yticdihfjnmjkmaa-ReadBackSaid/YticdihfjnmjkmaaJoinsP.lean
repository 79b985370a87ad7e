/- The words of two texts, with a line's end between. Plain. -/
import Derived.Test.YticdihfjnmjkmaaNamesP
namespace Go.Proofs.Yticdihfjnmjkmaa
open Go.RowKit
theorem runL_sep (p : Int → Bool) (d : UInt8) (t : List UInt8) (hd : p (d.toNat : Int) = false) : ∀ l : List UInt8, runL p (l ++ d :: t) = runL p l
  | [] => by
    show runL p (d :: t) = 0
    unfold runL
    rw [if_neg (by rw [hd]; decide)]
  | c :: r => by
    show runL p (c :: (r ++ d :: t)) = _
    unfold runL
    rw [runL_sep p d t hd r]
theorem take_sep {l : List UInt8} {n : Nat} (h : n ≤ l.length) (t : List UInt8) : (l ++ t).take n = l.take n := List.take_append_of_le_length h
theorem skipL_sep (b : List UInt8) : ∀ (f : Bool) (l : List UInt8), skipL f (l ++ 10 :: b) = if skipL f l = l.length then l.length + 1 + skipL false b else skipL f l
  | true, [] => by
    show skipL true (10 :: b) = if skipL true [] = 0 then _ else _
    rw [if_pos (by rfl)]
    conv => lhs; unfold skipL
    rw [show lineB ((10 : UInt8).toNat : Int) = false by decide]
    simp only [List.length_nil]; omega
  | false, [] => by
    show skipL false (10 :: b) = if skipL false [] = 0 then _ else _
    rw [if_pos (by rfl)]
    conv => lhs; unfold skipL
    rw [if_pos (by decide)]
    simp only [List.length_nil]; omega
  | true, c :: r => by
    show skipL true (c :: (r ++ 10 :: b)) = _
    have e1 : skipL true (c :: (r ++ 10 :: b)) = skipL (lineB (c.toNat : Int)) (r ++ 10 :: b) + 1 := by conv => lhs; unfold skipL
    have e2 : skipL true (c :: r) = skipL (lineB (c.toNat : Int)) r + 1 := by conv => lhs; unfold skipL
    rw [e1, e2, skipL_sep b _ r]
    simp only [List.length_cons]
    split
    · rw [if_pos (by omega)]; omega
    · rw [if_neg (by omega)]
  | false, c :: r => by
    show skipL false (c :: (r ++ 10 :: b)) = _
    have e1 : ∀ x, skipL false (c :: x) = if blankB (c.toNat : Int) = true then skipL false x + 1 else if (c.toNat : Int) = 35 then skipL true x + 1 else 0 := fun x => by conv => lhs; unfold skipL
    rw [e1, e1]
    by_cases h1 : blankB (c.toNat : Int) = true
    · rw [if_pos h1, if_pos h1, skipL_sep b _ r]
      simp only [List.length_cons]
      split
      · rw [if_pos (by omega)]; omega
      · rw [if_neg (by omega)]
    · rw [if_neg h1, if_neg h1]
      by_cases h2 : (c.toNat : Int) = 35
      · rw [if_pos h2, if_pos h2, skipL_sep b _ r]
        simp only [List.length_cons]
        split
        · rw [if_pos (by omega)]; omega
        · rw [if_neg (by omega)]
      · rw [if_neg h2, if_neg h2, if_neg (by simp)]
theorem quotW_sep (r b : List UInt8) : quotW (r ++ 10 :: b) = quotW r := by
  unfold quotW
  rw [runL_sep quotableB 10 b (by decide) r]
  have hle := runL_le quotableB r
  generalize runL quotableB r = n at *
  have e : (n = (r ++ 10 :: b).length ∨ (r ++ 10 :: b)[n]? ≠ some 39 ∨ n = 0) = (n = r.length ∨ r[n]? ≠ some 39 ∨ n = 0) := by
    have hl : (r ++ 10 :: b).length = r.length + (b.length + 1) := by simp
    rcases Nat.lt_or_ge n r.length with h | h
    · rw [List.getElem?_append_left h]
      exact propext ⟨fun h1 => h1.imp (fun h2 => by omega) id, fun h1 => h1.imp (fun h2 => by omega) id⟩
    · obtain rfl : n = r.length := by omega
      exact propext ⟨fun _ => .inl rfl, fun _ => .inr (.inl (by rw [List.getElem?_append_right (Nat.le_refl _), Nat.sub_self]; simp))⟩
  simp only [e, take_sep hle]
theorem wordL_sep : ∀ (l b : List UInt8), l ≠ [] → wordL (l ++ 10 :: b) = wordL l
  | [], _, h => absurd rfl h
  | c :: r, b, _ => by
    show wordL (c :: (r ++ 10 :: b)) = _
    rw [wordL_cons, wordL_cons, quotW_sep]
    unfold nameW wghtW
    rw [runL_sep innerB 10 b (by decide) r, runL_sep weightB 10 b (by decide) r, take_sep (runL_le _ _), take_sep (runL_le _ _)]
/-- The words from a place on, behind blanks and remarks. -/
def LexS (p : Nat) (l : List UInt8) (ts : List Tok) (e : Int) (a : Nat) : Prop := LexL (p + skipL false l) (l.drop (skipL false l)) ts e a
theorem lexT_S {l : List UInt8} {ts : List Tok} {e : Int} {a : Nat} : LexT l ts e a ↔ LexS 0 l ts e a := by
  unfold LexS LexT
  rw [Nat.zero_add]
theorem lexS_tok {p : Nat} {l : List UInt8} (_hl : l ≠ []) (_he : (wordL l).err = 0) {ts : List Tok} {e : Int} {a : Nat} : LexL (p + stepL l) (l.drop (stepL l)) ts e a ↔ LexS (p + (wordL l).n) (l.drop (wordL l).n) ts e a := by
  unfold LexS stepL
  rw [List.drop_drop, Nat.add_assoc]
theorem joins (b : List UInt8) : ∀ (n p : Nat) (l : List UInt8) (ts : List Tok) (e : Int) (a : Nat), l.length < n → LexS p l ts e a →
    (e ≠ 0 → LexS p (l ++ 10 :: b) ts e a) ∧
    (e = 0 → ∃ ts0, ts = ts0 ++ [endTok (p + l.length)] ∧ ∀ us e' a', LexS (p + l.length + 1) b us e' a' → LexS p (l ++ 10 :: b) (ts0 ++ us) e' a')
  | 0, _, _, _, _, _, hn, _ => by omega
  | n + 1, p, l, ts, e, a, hn, h => by
    have hk := skipL_le false l
    unfold LexS at h
    by_cases hkl : skipL false l = l.length
    · rw [hkl, List.drop_length] at h
      cases h with
      | err _ _ h1 => exact absurd rfl h1
      | tok _ _ _ _ _ h1 => exact absurd rfl h1
      | fin =>
        refine ⟨fun h => absurd rfl h, fun _ => ⟨[], rfl, fun us e' a' h2 => ?_⟩⟩
        unfold LexS at h2 ⊢
        have e1 : skipL false (l ++ 10 :: b) = l.length + 1 + skipL false b := by rw [skipL_sep, if_pos hkl]
        rw [e1]
        have e2 : (l ++ 10 :: b).drop (l.length + 1 + skipL false b) = b.drop (skipL false b) := by
          rw [Nat.add_assoc, ← List.drop_drop, List.drop_left, Nat.add_comm 1, List.drop_succ_cons]
        rw [e2, ← Nat.add_assoc, ← Nat.add_assoc]
        exact h2
    · have hlt : skipL false l < l.length := by omega
      have e1 : skipL false (l ++ 10 :: b) = skipL false l := by rw [skipL_sep, if_neg hkl]
      have e2 : (l ++ 10 :: b).drop (skipL false l) = l.drop (skipL false l) ++ 10 :: b := List.drop_append_of_le_length hk
      have hml : (l.drop (skipL false l)).length = l.length - skipL false l := List.length_drop
      have hS : ∀ us e' a', LexL (p + skipL false l) (l.drop (skipL false l) ++ 10 :: b) us e' a' → LexS p (l ++ 10 :: b) us e' a' := fun us e' a' h => by
        unfold LexS
        rw [e1, e2]
        exact h
      generalize skipL false l = k at *
      generalize l.drop k = m at *
      cases h with
      | fin => simp at hml; omega
      | err _ _ h1 h2 =>
        refine ⟨fun _ => hS _ _ _ ?_, fun h => absurd h h2⟩
        have := LexL.err (p + k) (m ++ 10 :: b) (by simp) (by rw [wordL_sep m b h1]; exact h2)
        rw [wordL_sep m b h1] at this
        exact this
      | tok _ _ us _ _ h1 h2 h3 =>
        obtain ⟨n1, n2⟩ := wordL_n h2
        have h4 := (lexS_tok h1 h2).1 h3
        have hd : (m.drop (wordL m).n).length = m.length - (wordL m).n := List.length_drop
        obtain ⟨i1, i2⟩ := joins b n _ _ _ _ _ (by omega) h4
        have hj : ∀ vs e' a', LexS (p + k + (wordL m).n) (m.drop (wordL m).n ++ 10 :: b) vs e' a' → LexS p (l ++ 10 :: b) (tokAt (wordL m) (p + k) :: vs) e' a' := fun vs e' a' h => by
          refine hS _ _ _ ?_
          have hw := wordL_sep m b h1
          have := LexL.tok (p + k) (m ++ 10 :: b) vs e' a' (by simp) (by rw [hw]; exact h2) ((lexS_tok (by simp) (by rw [hw]; exact h2)).2 (by
            rw [hw, List.drop_append_of_le_length n2]
            exact h))
          rw [hw] at this
          exact this
        refine ⟨fun h => hj _ _ _ (i1 h), fun h => ?_⟩
        obtain ⟨ts0, rfl, h5⟩ := i2 h
        rw [hd, show p + k + (wordL m).n + (m.length - (wordL m).n) = p + l.length by omega] at *
        exact ⟨tokAt (wordL m) (p + k) :: ts0, rfl, fun us e' a' h6 => hj _ _ _ (h5 _ _ _ h6)⟩
def shiftT (d : Nat) (t : Tok) : Tok := ⟨t.kind, t.pos + d, t.text, t.wt⟩
theorem LexL.shift (d : Nat) {p : Nat} {l : List UInt8} {ts : List Tok} {e : Int} {a : Nat} (h : LexL p l ts e a) : LexL (p + d) l (ts.map (shiftT d)) e (if e = 0 then a else a + d) := by
  induction h with
  | fin p => exact .fin _
  | err p l h1 h2 =>
    rw [if_neg h2]
    exact .err _ _ h1 h2
  | tok p l ts e a h1 h2 _ ih =>
    refine .tok _ _ _ _ _ h1 h2 ?_
    rw [show p + d + stepL l = p + stepL l + d by omega]
    exact ih
theorem LexT.shift (d : Nat) {l : List UInt8} {ts : List Tok} {e : Int} {a : Nat} (h : LexT l ts e a) : LexS d l (ts.map (shiftT d)) e (if e = 0 then a else a + d) := by
  have := LexL.shift d h
  unfold LexS
  rw [Nat.add_comm d]
  exact this
/-- Of two texts, with a line's end between. -/
theorem join_err {x y : List UInt8} {tx : List Tok} {e : Int} {a : Nat} (h : LexT x tx e a) (he : e ≠ 0) : LexT (x ++ 10 :: y) tx e a :=
  lexT_S.2 ((joins y _ 0 x tx e a (Nat.lt_succ_self _) (lexT_S.1 h)).1 he)
theorem join_ok {x y : List UInt8} {tx ty : List Tok} {a : Nat} {e : Int} {a' : Nat} (h : LexT x tx 0 a) (h' : LexT y ty e a') :
    ∃ ts0, tx = ts0 ++ [endTok x.length] ∧ LexT (x ++ 10 :: y) (ts0 ++ ty.map (shiftT (x.length + 1))) e (if e = 0 then a' else a' + (x.length + 1)) := by
  obtain ⟨ts0, h1, h2⟩ := (joins y _ 0 x tx 0 a (Nat.lt_succ_self _) (lexT_S.1 h)).2 rfl
  rw [Nat.zero_add] at h1 h2
  exact ⟨ts0, h1, lexT_S.2 (h2 _ _ _ (h'.shift _))⟩
theorem LexL.at_le {p : Nat} {l : List UInt8} {ts : List Tok} {e : Int} {a : Nat} (h : LexL p l ts e a) : a ≤ p + l.length := by
  induction h with
  | fin p => omega
  | err p l h1 h2 => omega
  | tok p l ts e a h1 h2 _ ih =>
    obtain ⟨n1, n2⟩ := stepL_le h2
    rw [List.length_drop] at ih
    omega
theorem LexT.at_le {l : List UInt8} {ts : List Tok} {e : Int} {a : Nat} (h : LexT l ts e a) : a ≤ l.length := by
  have h1 := LexL.at_le h
  have h2 := skipL_le false l
  rw [List.length_drop] at h1
  omega
theorem LexL.pos {p : Nat} {l : List UInt8} {ts : List Tok} {e : Int} {a : Nat} (h : LexL p l ts e a) : e = 0 → ts ≠ [] := by
  cases h with
  | fin => exact fun _ h => by cases h
  | err _ _ _ h2 => exact fun h => absurd h h2
  | tok => exact fun _ h => by cases h
theorem LexL.pos_le {p : Nat} {l : List UInt8} {ts : List Tok} {e : Int} {a : Nat} (h : LexL p l ts e a) : ∀ t ∈ ts, t.pos ≤ p + l.length := by
  induction h with
  | fin p =>
    intro t ht
    obtain rfl := List.mem_singleton.1 ht
    exact Nat.le_add_right _ _
  | err p l h1 h2 => intro t ht; cases ht
  | tok p l ts e a h1 h2 _ ih =>
    intro t ht
    obtain ⟨n1, n2⟩ := stepL_le h2
    rw [List.length_drop] at ih
    rcases List.mem_cons.1 ht with rfl | ht
    · exact Nat.le_add_right _ _
    · have := ih t ht; omega
theorem LexT.pos_le {l : List UInt8} {ts : List Tok} {e : Int} {a : Nat} (h : LexT l ts e a) {j : Nat} (hj : j < ts.length) : (ts[j]).pos ≤ l.length := by
  have h1 := LexL.pos_le h ts[j] (List.getElem_mem hj)
  have h2 := skipL_le false l
  rw [List.length_drop] at h1
  omega
/-- Words behind words: the first list's but its end, the second list's, moved. -/
structure JoinRel (nx d : Nat) (tx ty tz : List Tok) : Prop where
  lx : tx.length = nx + 1
  lz : tz.length = nx + ty.length
  lo : ∀ k (h1 : k < tx.length) (h2 : k < tz.length), k < nx → (tx[k]).kind = (tz[k]).kind ∧ (tx[k]).text = (tz[k]).text ∧ (tx[k]).pos = (tz[k]).pos
  hi : ∀ j (h1 : j < ty.length) (h2 : nx + j < tz.length), (ty[j]).kind = (tz[nx + j]).kind ∧ (ty[j]).text = (tz[nx + j]).text ∧ (tz[nx + j]).pos = (ty[j]).pos + d
theorem join_both {x y : List UInt8} {tx ty : List Tok} {a a' : Nat} (h : LexT x tx 0 a) (h' : LexT y ty 0 a') :
    ∃ nx tz, LexT (x ++ 10 :: y) tz 0 a' ∧ JoinRel nx (x.length + 1) tx ty tz := by
  obtain ⟨ts0, rfl, hZ⟩ := join_ok h h'
  refine ⟨ts0.length, _, hZ, by simp, by simp, fun k h1 h2 hk => ?_, fun j h1 h2 => ?_⟩
  · rw [List.getElem_append_left hk, List.getElem_append_left hk]
    exact ⟨rfl, rfl, rfl⟩
  · have e2 : (ts0 ++ ty.map (shiftT (x.length + 1)))[ts0.length + j] = shiftT (x.length + 1) ty[j] := by
      rw [List.getElem_append_right (by omega)]
      simp
    rw [e2]
    exact ⟨rfl, rfl, rfl⟩
end Go.Proofs.Yticdihfjnmjkmaa
