/- What a table's rows are, by all that was put in. Plain. -/
import Derived.Test.YtmiiolgbjicocaaAddW
namespace Go.Proofs.Ytmiiolgbjicocaa
/-- All that was put in: variable, lookahead, rule. -/
abbrev Adds := List (Nat × List Int × Int)
def rulesE (E : Adds) (v : Nat) (look : List Int) : List Int := (E.filter (fun e => decide (e.1 = v ∧ e.2.1 = look))).map (fun e => e.2.2)
theorem rulesE_snoc (E : Adds) (v u : Nat) (look l : List Int) (i : Int) : rulesE (E ++ [(u, l, i)]) v look = rulesE E v look ++ if u = v ∧ l = look then [i] else [] := by
  unfold rulesE
  rw [List.filter_append, List.map_append]
  congr 1
  by_cases h : u = v ∧ l = look
  · rw [if_pos h, List.filter_cons_of_pos (by simpa using h)]; rfl
  · rw [if_neg h, List.filter_cons_of_neg (by simpa using h)]; rfl
theorem rulesE_len (E : Adds) (v : Nat) (look : List Int) : (rulesE E v look).length ≤ E.length := by
  unfold rulesE
  rw [List.length_map]
  exact List.length_filter_le _ _
theorem rulesE_mem {E : Adds} {v : Nat} {look : List Int} (h : rulesE E v look ≠ []) : ∃ e ∈ E, e.1 = v ∧ e.2.1 = look := by
  obtain ⟨i, hi⟩ := List.exists_mem_of_ne_nil _ h
  unfold rulesE at hi
  obtain ⟨e, he, _⟩ := List.mem_map.1 hi
  obtain ⟨h1, h2⟩ := List.mem_filter.1 he
  exact ⟨e, h1, by simpa using h2⟩
structure RowsOf (E : Adds) (v : Nat) (x : List TRow) : Prop where
  srt : Sorted (x.map Prod.fst)
  mem : ∀ look rs, (look, rs) ∈ x ↔ rs = rulesE E v look ∧ rs ≠ []
  len : x.length ≤ E.length
def TOf (E : Adds) (T : List (List TRow)) : Prop := ∀ (v : Nat) x, T[v]? = some x → RowsOf E v x
theorem tof_nil (n : Nat) : TOf [] (List.replicate n []) := fun v x hx => by
  rw [List.getElem?_replicate] at hx
  split at hx
  · injection hx with hx
    subst hx
    exact ⟨fun i j a b _ h _ => by simp at h, fun look rs => ⟨fun h => by simp at h, fun h => absurd (by rw [h.1]; rfl) h.2⟩, Nat.le_refl _⟩
  · cases hx
theorem RowsOf.nodup {E : Adds} {v : Nat} {x : List TRow} (h : RowsOf E v x) {i j : Nat} {a b : TRow} (hi : x[i]? = some a) (hj : x[j]? = some b) (e : a.1 = b.1) : i = j :=
  sorted_apart h.srt (a := a.1) (by rw [List.getElem?_map, hi]; rfl) (by rw [List.getElem?_map, hj, e]; rfl)
theorem TOf.add {E : Adds} {T : List (List TRow)} (h : TOf E T) {v : Nat} {x : List TRow} (hx : T[v]? = some x) {look : List Int} {p : Nat} (hp : PlaceOK (x.map Prod.fst) look p) (i : Int) : TOf (E ++ [(v, look, i)]) (T.set v (addT x p look i)) := fun u y hy => by
  have hr := h v x hx
  have hvl := (List.getElem?_eq_some_iff.1 hx).1
  rw [List.getElem?_set] at hy
  by_cases e : v = u
  · subst e
    rw [if_pos rfl, if_pos hvl] at hy
    injection hy with hy
    subst hy
    have hpl : p ≤ x.length := by have := hp.1; simpa using this
    unfold addT
    by_cases hf : (x.map Prod.fst)[p]? = some look
    · rw [if_pos hf]
      rw [List.getElem?_map] at hf
      cases h2 : x[p]? with
      | none => rw [h2] at hf; cases hf
      | some r =>
        rw [h2] at hf
        injection hf with hf
        obtain ⟨l0, rs0⟩ := r
        obtain rfl : l0 = look := hf
        obtain ⟨h3, h4⟩ := (hr.mem l0 rs0).1 (List.mem_of_getElem? h2)
        have hpx := (List.getElem?_eq_some_iff.1 h2).1
        rw [List.getD_eq_getElem?_getD, h2]
        simp only [Option.getD_some]
        refine ⟨?_, fun l rs => ?_, by rw [List.length_set, List.length_append]; have := hr.len; simp; omega⟩
        · rw [List.map_set]
          have : (x.map Prod.fst).set p l0 = x.map Prod.fst := by
            have h6 : (x.map Prod.fst)[p]'(by simpa using hpx) = l0 := by
              rw [List.getElem_map]
              have := (List.getElem?_eq_some_iff.1 h2).2
              rw [this]
            rw [← h6]
            exact List.set_getElem_self _
          rw [this]
          exact hr.srt
        · rw [rulesE_snoc]
          constructor
          · intro hm
            obtain ⟨j, hj⟩ := List.mem_iff_getElem?.1 hm
            rw [List.getElem?_set] at hj
            by_cases e2 : p = j
            · subst e2
              rw [if_pos rfl, if_pos hpx] at hj
              injection hj with hj
              injection hj with h7 h8
              subst h7 h8
              rw [if_pos ⟨rfl, rfl⟩, ← h3]
              exact ⟨rfl, by simp⟩
            · rw [if_neg e2] at hj
              have hne : ¬ (v = v ∧ l0 = l) := fun h9 => e2 (hr.nodup h2 hj h9.2)
              rw [if_neg hne, List.append_nil]
              exact (hr.mem l rs).1 (List.mem_of_getElem? hj)
          · rintro ⟨h7, h8⟩
            by_cases e2 : l0 = l
            · subst e2
              rw [if_pos ⟨rfl, rfl⟩, ← h3] at h7
              rw [h7]
              exact List.mem_iff_getElem?.2 ⟨p, by rw [List.getElem?_set, if_pos rfl, if_pos hpx]⟩
            · rw [if_neg (fun h9 => e2 h9.2), List.append_nil] at h7
              obtain ⟨j, hj⟩ := List.mem_iff_getElem?.1 ((hr.mem l rs).2 ⟨h7, h8⟩)
              refine List.mem_iff_getElem?.2 ⟨j, ?_⟩
              rw [List.getElem?_set, if_neg (fun e3 => ?_)]
              · exact hj
              · subst e3
                rw [h2] at hj
                injection hj with hj
                injection hj with hj
                exact e2 hj
    · rw [if_neg hf]
      have hn : look ∉ x.map Prod.fst := fun hm => hf ((place_mem hr.srt hp).2 hm)
      have h0 : rulesE E v look = [] := by
        apply Classical.byContradiction
        intro h5
        exact hn (List.mem_map.2 ⟨_, (hr.mem look _).2 ⟨rfl, h5⟩, rfl⟩)
      refine ⟨insAt_sorted hr.srt hp hn, fun l rs => ?_, by rw [insAt_len hpl, List.length_append]; have := hr.len; simp; omega⟩
      rw [rulesE_snoc]
      have hmem : (l, rs) ∈ insAt x p (look, [i]) ↔ (l, rs) ∈ x ∨ (l, rs) = (look, [i]) := by
        unfold insAt
        rw [List.mem_append, List.mem_cons]
        constructor
        · rintro (h1 | h1 | h1)
          · exact .inl (List.mem_of_mem_take h1)
          · exact .inr h1
          · exact .inl (List.mem_of_mem_drop h1)
        · rintro (h1 | h1)
          · rw [← List.take_append_drop p x] at h1
            rcases List.mem_append.1 h1 with h1 | h1
            · exact .inl h1
            · exact .inr (.inr h1)
          · exact .inr (.inl h1)
      rw [hmem, hr.mem]
      by_cases e2 : look = l
      · subst e2
        rw [if_pos ⟨rfl, rfl⟩, h0, List.nil_append]
        constructor
        · rintro (⟨h1, h2⟩ | h1)
          · exact absurd h1 h2
          · injection h1 with _ h1
            exact ⟨h1, by rw [h1]; simp⟩
        · rintro ⟨h1, _⟩
          exact .inr (by rw [h1])
      · rw [if_neg (fun h9 => e2 h9.2), List.append_nil]
        constructor
        · rintro (h1 | h1)
          · exact h1
          · injection h1 with h1
            exact absurd h1.symm e2
        · exact .inl
  · rw [if_neg e] at hy
    have h1 := h u y hy
    refine ⟨h1.srt, fun l rs => ?_, by rw [List.length_append]; have := h1.len; omega⟩
    rw [rulesE_snoc, if_neg (fun h9 => e h9.1), List.append_nil]
    exact h1.mem l rs
/-- What the walk asks of rows. -/
theorem RowsOf.small {E : Adds} {v : Nat} {x : List TRow} (h : RowsOf E v x) (hE : E.length ≤ 2000) (hl : ∀ e ∈ E, e.2.1.length ≤ 2) : x.length ≤ 2000 ∧ ∀ r ∈ x, r.1.length ≤ 2 ∧ r.2.length ≤ 2000 := by
  refine ⟨Nat.le_trans h.len hE, fun r hr => ?_⟩
  obtain ⟨h1, h2⟩ := (h.mem r.1 r.2).1 hr
  rw [h1] at h2
  obtain ⟨e, he, _, h3⟩ := rulesE_mem h2
  refine ⟨by rw [← h3]; exact hl e he, ?_⟩
  rw [h1]
  exact Nat.le_trans (rulesE_len _ _ _) hE
end Go.Proofs.Ytmiiolgbjicocaa
