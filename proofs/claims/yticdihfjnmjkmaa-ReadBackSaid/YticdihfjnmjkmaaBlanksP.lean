/- Words with other blanks between. Plain. -/
import Derived.Test.YticdihfjnmjkmaaJoinsP
namespace Go.Proofs.Yticdihfjnmjkmaa
open Go.RowKit
/-- A word's text, as it stands in the text. -/
def dress (t : Tok) : List UInt8 := if t.kind = 2 then 39 :: (t.text ++ [39]) else if t.kind = 3 then 37 :: t.text else t.text
theorem take_cons_succ {c : UInt8} {r : List UInt8} (m : Nat) : (c :: r).take (m + 1) = c :: r.take m := rfl
theorem take_one {r : List UInt8} {m : Nat} {d : UInt8} (h : r[m]? = some d) : r.take (m + 1) = r.take m ++ [d] := by
  obtain ⟨hm, he⟩ := List.getElem?_eq_some_iff.1 h
  rw [List.take_succ_eq_append_getElem hm, he]
theorem runL_take (p : Int → Bool) : ∀ l : List UInt8, ∀ c ∈ l.take (runL p l), p (c.toNat : Int) = true
  | [], c, h => by simp at h
  | d :: r, c, h => by
    unfold runL at h
    split at h
    · rename_i hd
      rw [take_cons_succ] at h
      rcases List.mem_cons.1 h with rfl | h
      · exact hd
      · exact runL_take p r c h
    · simp at h
theorem take_runL_len (p : Int → Bool) (l : List UInt8) : (l.take (runL p l)).length = runL p l := by
  rw [List.length_take]
  have := runL_le p l
  omega
/-- A word's text is what is consumed. -/
theorem dress_take : ∀ {l : List UInt8}, (wordL l).err = 0 → ∀ p, dress (tokAt (wordL l) p) = l.take (wordL l).n
  | [], h, _ => by cases h
  | c :: r, h, p => by
    rw [wordL_cons] at h ⊢
    split at h
    · rename_i h1
      rw [if_pos h1]
      rcases nameW_cases c r with e | e <;> rw [e] at h ⊢
      · cases h
      · rfl
    · rename_i h1
      rw [if_neg h1]
      split at h
      · rename_i h2
        rw [if_pos h2]
        rcases quotW_cases r with e | e | ⟨e, e1, _, _⟩ <;> rw [e] at h ⊢
        · cases h
        · cases h
        · have hc : c = 39 := by rw [← UInt8.toNat_inj]; have : (39 : UInt8).toNat = 39 := rfl; omega
          subst hc
          show 39 :: (r.take (runL quotableB r) ++ [39]) = (39 :: r).take (runL quotableB r + 1 + 1)
          rw [take_cons_succ, take_one e1]
      · rename_i h2
        rw [if_neg h2]
        split at h
        · rename_i h3
          rw [if_pos h3]
          rcases wghtW_cases r with e | ⟨f, _, e⟩ <;> rw [e] at h ⊢
          · cases h
          · have hc : c = 37 := by rw [← UInt8.toNat_inj]; have : (37 : UInt8).toNat = 37 := rfl; omega
            subst hc
            rfl
        · rename_i h3
          rw [if_neg h3]
          split at h
          · rename_i h4
            rw [if_pos h4]
            rfl
          · cases h
/-- A word behind which something else stands is the same word. -/
theorem wordL_cut : ∀ {l : List UInt8}, (wordL l).err = 0 → ∀ (d : UInt8) (t : List UInt8), innerB (d.toNat : Int) = false → weightB (d.toNat : Int) = false → wordL (l.take (wordL l).n ++ d :: t) = wordL l
  | [], h, _, _, _, _ => by cases h
  | c :: r, h, d, t, hd1, hd2 => by
    rw [wordL_cons] at h ⊢
    split at h
    · rename_i h1
      rw [if_pos h1]
      rcases nameW_cases c r with e | e
      · rw [e] at h; cases h
      · have h24 : runL innerB r + 1 ≤ 24 := by
          unfold nameW at e
          split at e
          · cases e
          · omega
        rw [e]
        show wordL ((c :: r).take (runL innerB r + 1) ++ d :: t) = _
        rw [take_cons_succ, List.cons_append, wordL_cons, if_pos h1]
        unfold nameW
        rw [runL_stop innerB d t hd1 _ (runL_take innerB r), take_runL_len, if_neg (by omega), List.take_left' (take_runL_len innerB r)]
    · rename_i h1
      rw [if_neg h1]
      split at h
      · rename_i h2
        rw [if_pos h2]
        rcases quotW_cases r with e | e | ⟨e, e1, e2, e3⟩
        · rw [e] at h; cases h
        · rw [e] at h; cases h
        · rw [e]
          show wordL ((c :: r).take (runL quotableB r + 1 + 1) ++ d :: t) = _
          rw [take_cons_succ, take_one e1, List.cons_append, List.append_assoc, wordL_cons, if_neg h1, if_pos h2]
          show quotW (r.take (runL quotableB r) ++ 39 :: d :: t) = _
          unfold quotW
          rw [runL_stop quotableB 39 (d :: t) (by decide) _ (runL_take quotableB r), take_runL_len, if_neg, if_neg (by omega), List.take_left' (take_runL_len quotableB r)]
          rintro (h | h | h)
          · rw [List.length_append, take_runL_len] at h
            simp at h
          · rw [List.getElem?_append_right (by rw [take_runL_len]; exact Nat.le_refl _), take_runL_len, Nat.sub_self] at h
            exact h rfl
          · exact e2 h
      · rename_i h2
        rw [if_neg h2]
        split at h
        · rename_i h3
          rw [if_pos h3]
          rcases wghtW_cases r with e | ⟨f, e1, e⟩
          · rw [e] at h; cases h
          · rw [e]
            show wordL ((c :: r).take (runL weightB r + 1) ++ d :: t) = _
            rw [take_cons_succ, List.cons_append, wordL_cons, if_neg h1, if_neg h2, if_pos h3]
            unfold wghtW
            rw [runL_stop weightB d t hd2 _ (runL_take weightB r), take_runL_len, List.take_left' (take_runL_len weightB r), if_pos (by rw [e1]; rfl), e1]
            rfl
        · rename_i h3
          rw [if_neg h3]
          split at h
          · rename_i h4
            rw [if_pos h4]
            show wordL (c :: (d :: t)) = _
            rw [wordL_cons, if_neg h1, if_neg h2, if_neg h3, if_pos h4]
          · cases h
theorem word_head : ∀ {l : List UInt8}, (wordL l).err = 0 → ∃ c r, l = c :: r ∧ blankB (c.toNat : Int) = false ∧ (c.toNat : Int) ≠ 35
  | [], h => by cases h
  | c :: r, h => by
    refine ⟨c, r, rfl, ?_⟩
    rw [wordL_cons] at h
    split at h
    · rename_i h1
      obtain ⟨f1, f2, _, _⟩ := letter_facts h1
      exact ⟨f1, f2⟩
    · split at h
      · rename_i h2
        rw [h2]; exact ⟨by decide, by decide⟩
      · split at h
        · rename_i h3
          rw [h3]; exact ⟨by decide, by decide⟩
        · split at h
          · rename_i h4
            unfold signB at h4
            simp only [Bool.or_eq_true, decide_eq_true_eq] at h4
            refine ⟨?_, by omega⟩
            unfold blankB
            simp
            omega
          · cases h
/-- Blanks that are whole: what stands behind them begins anew; no word goes on with their first byte. -/
structure Blk (b : List UInt8) : Prop where
  skip : ∀ t, skipL false (b ++ t) = b.length + skipL false t
  head : ∃ d u, b = d :: u ∧ innerB (d.toNat : Int) = false ∧ weightB (d.toNat : Int) = false
  len : b.length ≤ 7
def blk (j : Int) : List UInt8 := if j = 0 then [32] else if j = 1 then [10] else if j = 2 then [9, 35, 32, 120, 32, 39, 10] else [13]
theorem skip_one (c : UInt8) (t : List UInt8) (h : blankB (c.toNat : Int) = true) : skipL false (c :: t) = 1 + skipL false t := by
  conv => lhs; unfold skipL
  rw [if_pos h]; omega
theorem skip_in (c : UInt8) (t : List UInt8) (h : lineB (c.toNat : Int) = true) : skipL true (c :: t) = 1 + skipL true t := by
  conv => lhs; unfold skipL
  rw [h]; omega
theorem skip_nl (c : UInt8) (t : List UInt8) (h : lineB (c.toNat : Int) = false) : skipL true (c :: t) = 1 + skipL false t := by
  conv => lhs; unfold skipL
  rw [h]; omega
theorem skip_hash (t : List UInt8) : skipL false (35 :: t) = 1 + skipL true t := by
  conv => lhs; unfold skipL
  rw [if_neg (by decide), if_pos (by decide)]; omega
theorem blk_ok (j : Int) : Blk (blk j) := by
  unfold blk
  split
  · exact ⟨fun t => skip_one 32 t (by decide), ⟨32, [], rfl, by decide, by decide⟩, by decide⟩
  · split
    · exact ⟨fun t => skip_one 10 t (by decide), ⟨10, [], rfl, by decide, by decide⟩, by decide⟩
    · split
      · refine ⟨fun t => ?_, ⟨9, _, rfl, by decide, by decide⟩, by decide⟩
        show skipL false (9 :: 35 :: 32 :: 120 :: 32 :: 39 :: 10 :: t) = 7 + skipL false t
        rw [skip_one 9 _ (by decide), skip_hash, skip_in 32 _ (by decide), skip_in 120 _ (by decide), skip_in 32 _ (by decide), skip_in 39 _ (by decide), skip_nl 10 _ (by decide)]
        omega
      · exact ⟨fun t => skip_one 13 t (by decide), ⟨13, [], rfl, by decide, by decide⟩, by decide⟩
/-- The words from the k-th on, each behind its blanks. -/
def dressF (bl : Nat → List UInt8) : Nat → List Tok → List UInt8
  | _, [] => []
  | k, t :: ts => bl k ++ (dress t ++ dressF bl (k + 1) ts)
theorem dressF_snoc (bl : Nat → List UInt8) (t : Tok) : ∀ (xs : List Tok) (k : Nat), dressF bl k (xs ++ [t]) = dressF bl k xs ++ (bl (k + xs.length) ++ dress t)
  | [], k => by simp [dressF]
  | x :: xs, k => by
    show bl k ++ (dress x ++ dressF bl (k + 1) (xs ++ [t])) = bl k ++ (dress x ++ dressF bl (k + 1) xs) ++ _
    rw [dressF_snoc bl t xs (k + 1), show k + 1 + xs.length = k + (x :: xs).length by simp only [List.length_cons]; omega]
    simp only [List.append_assoc]
theorem dressF_len (bl : Nat → List UInt8) (hb : ∀ k, Blk (bl k)) {p : Nat} {l : List UInt8} {ts : List Tok} {e : Int} {a : Nat} (h : LexL p l ts e a) : ∀ k, (dressF bl k ts).length ≤ 7 * ts.length + l.length := by
  induction h with
  | fin p =>
    intro k
    have := (hb k).len
    simp [dressF, dress, endTok]; omega
  | err p l h1 h2 => intro k; simp [dressF]
  | tok p l ts e a h1 h2 _ ih =>
    intro k
    have h3 := (hb k).len
    have h4 := ih (k + 1)
    obtain ⟨h5, h6⟩ := wordL_n h2
    obtain ⟨h7, h8⟩ := stepL_le h2
    have h9 : (wordL l).n ≤ stepL l := by unfold stepL; omega
    rw [List.length_drop] at h4
    show (bl k ++ (dress (tokAt (wordL l) p) ++ dressF bl (k + 1) ts)).length ≤ _
    rw [dress_take h2, List.length_append, List.length_append, List.length_take]
    simp only [List.length_cons]
    omega
/-- What of a word is no place. -/
def core (t : Tok) : Int × List UInt8 × Nat := (t.kind, t.text, t.wt)
theorem redress (bl : Nat → List UInt8) (hb : ∀ k, Blk (bl k)) {p : Nat} {l : List UInt8} {ts : List Tok} {e : Int} {a : Nat} (h : LexL p l ts e a) : e = 0 → ∀ k q, ∃ ts', LexS q (dressF bl k ts) ts' 0 0 ∧ ts'.map core = ts.map core := by
  induction h with
  | fin p =>
    intro _ k q
    have h1 : dressF bl k [endTok p] = bl k := by simp [dressF, dress, endTok]
    have h2 : skipL false (bl k) = (bl k).length := by
      have := (hb k).skip []
      rw [List.append_nil] at this
      rw [this]; rfl
    refine ⟨[endTok (q + (bl k).length)], ?_, rfl⟩
    unfold LexS
    rw [h1, h2, List.drop_length]
    exact .fin _
  | err p l h1 h2 => exact fun h => absurd h h2
  | tok p l ts e a h1 h2 h3 ih =>
    intro he k q
    obtain ⟨ts', i1, i2⟩ := ih he (k + 1) (q + (bl k).length + (wordL l).n)
    obtain ⟨n1, n2⟩ := wordL_n h2
    have hr : ∃ d t, dressF bl (k + 1) ts = d :: t ∧ innerB (d.toNat : Int) = false ∧ weightB (d.toNat : Int) = false := by
      cases ts with
      | nil => exact absurd rfl (LexL.pos h3 he)
      | cons x xs =>
        obtain ⟨d, u, hd, hd1, hd2⟩ := (hb (k + 1)).head
        refine ⟨d, u ++ (dress x ++ dressF bl (k + 1 + 1) xs), ?_, hd1, hd2⟩
        show bl (k + 1) ++ _ = _
        rw [hd]
        rfl
    have hX : dressF bl k (tokAt (wordL l) p :: ts) = bl k ++ (l.take (wordL l).n ++ dressF bl (k + 1) ts) := by
      show bl k ++ (dress (tokAt (wordL l) p) ++ _) = _
      rw [dress_take h2]
    have hw : wordL (l.take (wordL l).n ++ dressF bl (k + 1) ts) = wordL l := by
      obtain ⟨d, t, hd, hd1, hd2⟩ := hr
      rw [hd]
      exact wordL_cut h2 d t hd1 hd2
    have hs : skipL false (l.take (wordL l).n ++ dressF bl (k + 1) ts) = 0 := by
      obtain ⟨c, r, rfl, hc1, hc2⟩ := word_head h2
      obtain ⟨m, hm⟩ : ∃ m, (wordL (c :: r)).n = m + 1 := ⟨(wordL (c :: r)).n - 1, by omega⟩
      rw [hm, take_cons_succ, List.cons_append]
      exact skip_word hc1 hc2
    have hl : (l.take (wordL l).n).length = (wordL l).n := by rw [List.length_take]; omega
    refine ⟨tokAt (wordL l) (q + (bl k).length) :: ts', ?_, by rw [List.map_cons, List.map_cons, i2]; rfl⟩
    unfold LexS
    rw [hX, (hb k).skip, hs, Nat.add_zero, List.drop_left]
    have hne : l.take (wordL l).n ++ dressF bl (k + 1) ts ≠ [] := by
      obtain ⟨d, t, hd, _⟩ := hr
      rw [hd]; simp
    have := LexL.tok (q + (bl k).length) _ ts' 0 0 hne (by rw [hw]; exact h2) ((lexS_tok hne (by rw [hw]; exact h2)).2 (by
      rw [hw, List.drop_left' hl]
      exact i1))
    rw [hw] at this
    exact this
/-- Each word stands at its place; the end stands at the text's end alone. -/
structure FoundAt (p : Nat) (l : List UInt8) (t : Tok) : Prop where
  lo : p ≤ t.pos
  hi : t.pos + (dress t).length ≤ p + l.length
  at_ : (l.drop (t.pos - p)).take (dress t).length = dress t
  fin : t.kind = 0 → t.pos = p + l.length
theorem word_kind {l : List UInt8} (h : (wordL l).err = 0) : (wordL l).kind ≠ 0 := by
  cases l with
  | nil => cases h
  | cons c r =>
    rw [wordL_cons] at h ⊢
    split at h
    · rename_i h1
      rw [if_pos h1]
      rcases nameW_cases c r with e | e <;> rw [e] at h ⊢
      · cases h
      · exact (by decide : (1 : Int) ≠ 0)
    · rename_i h1
      rw [if_neg h1]
      split at h
      · rename_i h2
        rw [if_pos h2]
        rcases quotW_cases r with e | e | ⟨e, _, _, _⟩ <;> rw [e] at h ⊢
        · cases h
        · cases h
        · exact (by decide : (2 : Int) ≠ 0)
      · rename_i h2
        rw [if_neg h2]
        split at h
        · rename_i h3
          rw [if_pos h3]
          rcases wghtW_cases r with e | ⟨f, _, e⟩ <;> rw [e] at h ⊢
          · cases h
          · exact (by decide : (3 : Int) ≠ 0)
        · rename_i h3
          rw [if_neg h3]
          split at h
          · rename_i h4
            rw [if_pos h4]
            exact (by decide : (4 : Int) ≠ 0)
          · cases h
theorem found {p : Nat} {l : List UInt8} {ts : List Tok} {e : Int} {a : Nat} (h : LexL p l ts e a) : e = 0 → (∀ t ∈ ts, FoundAt p l t) ∧ (∀ k (h1 : k + 1 < ts.length), (ts[k]).pos ≤ (ts[k + 1]).pos) ∧ (∀ k (h1 : k < ts.length), (ts[k]).kind = 0 → k + 1 = ts.length) := by
  induction h with
  | fin p =>
    intro _
    refine ⟨fun t ht => ?_, fun k h1 => by simp at h1, fun k h1 _ => by simp at h1 ⊢; omega⟩
    obtain rfl := List.mem_singleton.1 ht
    exact ⟨Nat.le_refl _, Nat.le_refl _, by simp [dress, endTok], fun _ => rfl⟩
  | err p l h1 h2 => exact fun h => absurd h h2
  | tok p l ts e a h1 h2 h3 ih =>
    intro he
    obtain ⟨i1, i2, i3⟩ := ih he
    obtain ⟨n1, n2⟩ := wordL_n h2
    obtain ⟨m1, m2⟩ := stepL_le h2
    have hl : (l.take (wordL l).n).length = (wordL l).n := by rw [List.length_take]; omega
    refine ⟨fun t ht => ?_, fun k h1 => ?_, fun k h1 hk => ?_⟩
    · rcases List.mem_cons.1 ht with rfl | ht
      · refine ⟨Nat.le_refl _, ?_, ?_, fun h => absurd h (word_kind h2)⟩
        · rw [dress_take h2, hl]
          exact Nat.add_le_add_left n2 _
        · rw [dress_take h2, hl]
          show (l.drop (p - p)).take _ = _
          rw [Nat.sub_self, List.drop_zero]
      · obtain ⟨f1, f2, f3, f4⟩ := i1 t ht
        rw [List.length_drop] at f2 f4
        refine ⟨by omega, by omega, ?_, fun h => by rw [f4 h]; omega⟩
        rw [List.drop_drop, show stepL l + (t.pos - (p + stepL l)) = t.pos - p by omega] at f3
        exact f3
    · cases k with
      | zero =>
        cases ts with
        | nil => simp at h1
        | cons x xs =>
          have := (i1 x (by simp)).lo
          show p ≤ x.pos
          omega
      | succ k => exact i2 k (by simpa using h1)
    · cases k with
      | zero => exact absurd hk (word_kind h2)
      | succ k =>
        have := i3 k (by simpa using h1) hk
        simp only [List.length_cons]; omega
theorem foundT {l : List UInt8} {ts : List Tok} {a : Nat} (h : LexT l ts 0 a) {t : Tok} (ht : t ∈ ts) : t.pos + (dress t).length ≤ l.length ∧ (l.drop t.pos).take (dress t).length = dress t ∧ (t.kind = 0 → t.pos = l.length) := by
  obtain ⟨h1, _, _⟩ := found h rfl
  obtain ⟨f1, f2, f3, f4⟩ := h1 t ht
  have hs := skipL_le false l
  rw [List.length_drop] at f2 f4
  refine ⟨by omega, ?_, fun h => by rw [f4 h]; omega⟩
  rw [List.drop_drop, show skipL false l + (t.pos - skipL false l) = t.pos by omega] at f3
  exact f3
theorem LexL.at_lt {p : Nat} {l : List UInt8} {ts : List Tok} {e : Int} {a : Nat} (h : LexL p l ts e a) : e ≠ 0 → a < p + l.length := by
  induction h with
  | fin p => exact fun h => absurd rfl h
  | err p l h1 h2 =>
    intro _
    have := List.length_pos_iff.2 h1
    omega
  | tok p l ts e a h1 h2 _ ih =>
    intro he
    have := ih he
    obtain ⟨m1, m2⟩ := stepL_le h2
    rw [List.length_drop] at this
    omega
theorem LexT.at_lt {l : List UInt8} {ts : List Tok} {e : Int} {a : Nat} (h : LexT l ts e a) (he : e ≠ 0) : a < l.length := by
  have h1 := LexL.at_lt h he
  have h2 := skipL_le false l
  rw [List.length_drop] at h1
  omega
theorem core_at {xs ys : List Tok} (h : xs.map core = ys.map core) {k : Nat} (h1 : k < xs.length) (h2 : k < ys.length) : (xs[k]).kind = (ys[k]).kind ∧ (xs[k]).text = (ys[k]).text ∧ (xs[k]).wt = (ys[k]).wt := by
  have e : core xs[k] = core ys[k] := by
    have h3 : (xs.map core)[k]'(by simpa using h1) = (ys.map core)[k]'(by simpa using h2) := by simp only [h]
    simpa using h3
  unfold core at e
  simp only [Prod.mk.injEq] at e
  exact e
theorem dressF_take (bl : Nat → List UInt8) : ∀ (xs : List Tok) (k j : Nat), (dressF bl k (xs.take j)).length ≤ (dressF bl k xs).length
  | [], _, _ => by simp
  | x :: xs, k, 0 => by simp [dressF]
  | x :: xs, k, j + 1 => by
    show (bl k ++ (dress x ++ dressF bl (k + 1) (xs.take j))).length ≤ (bl k ++ (dress x ++ dressF bl (k + 1) xs)).length
    have := dressF_take bl xs (k + 1) j
    simp only [List.length_append]
    omega
theorem dress_ge (t : Tok) : t.text.length ≤ (dress t).length := by
  unfold dress
  split
  · simp; omega
  · split
    · simp
    · exact Nat.le_refl _
theorem LexL.last {p : Nat} {l : List UInt8} {ts : List Tok} {e : Int} {a : Nat} (h : LexL p l ts e a) : e = 0 → ∀ k (h1 : k < ts.length), k + 1 = ts.length → (ts[k]).kind = 0 := by
  induction h with
  | fin p =>
    intro _ k h1 _
    obtain rfl : k = 0 := by simpa using h1
    rfl
  | err p l h1 h2 => exact fun h => absurd h h2
  | tok p l ts e a h1 h2 h3 ih =>
    intro he k h4 h5
    cases k with
    | zero =>
      have := List.length_pos_iff.2 (LexL.pos h3 he)
      simp only [List.length_cons] at h5
      omega
    | succ k => exact ih he k (by simpa using h4) (by simpa using h5)
/-- Bytes that came in. -/
def BytesAt (w : World) (B : Nat) (a : Option Addr) (xs : List Int) : Prop := ∀ i (h : i < xs.length), ∃ b off, a = some ⟨b, off, none⟩ ∧ b < B ∧ w.cell? ⟨b, off + i, none⟩ = some (.int .u8 xs[i]) ∧ 0 ≤ xs[i] ∧ xs[i] ≤ 255
end Go.Proofs.Yticdihfjnmjkmaa
