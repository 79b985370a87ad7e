/- What a table's rows mean; rules that clash. Plain. -/
import Derived.Test.YtmiiolgbjicocaaOnes
import Derived.Test.YtmiiolgbjicocaaTruncP
namespace Go.Proofs.Ytmiiolgbjicocaa
theorem Sorted.nodup {L : Wds} (h : Sorted L) : L.Nodup := by
  rw [List.Nodup, List.pairwise_iff_getElem]
  intro i j hi hj hij e
  have h1 := h i j _ _ hij (List.getElem?_eq_getElem hi) (List.getElem?_eq_getElem hj)
  rw [e, lessL_irr] at h1
  cases h1
theorem rulesE_app (E E' : Adds) (v : Nat) (look : List Int) : rulesE (E ++ E') v look = rulesE E v look ++ rulesE E' v look := by
  unfold rulesE
  rw [List.filter_append, List.map_append]
theorem rulesE_none {u : Nat} {i : Int} {v : Nat} {look : List Int} : ∀ {L : Wds}, look ∉ L → rulesE (L.map (fun l => (u, l, i))) v look = []
  | [], _ => rfl
  | l :: t, h => by
    have ih := rulesE_none (u := u) (i := i) (v := v) (L := t) (look := look) (fun h1 => h (by simp [h1]))
    unfold rulesE at *
    rw [List.map_cons, List.filter_cons_of_neg (by simp; intro _ h1; exact h (by simp [h1]))]
    exact ih
theorem rulesE_one {u : Nat} {i : Int} {v : Nat} {look : List Int} : ∀ {L : Wds}, L.Nodup → rulesE (L.map (fun l => (u, l, i))) v look = if u = v ∧ look ∈ L then [i] else []
  | [], _ => by simp [rulesE]
  | l :: t, h => by
    obtain ⟨h1, h2⟩ := List.nodup_cons.1 h
    have ih := rulesE_one (u := u) (i := i) (v := v) (look := look) h2
    rw [List.map_cons, show (u, l, i) :: t.map (fun l => (u, l, i)) = [(u, l, i)] ++ t.map (fun l => (u, l, i)) from rfl, rulesE_app]
    have hs : rulesE [(u, l, i)] v look = if u = v ∧ l = look then [i] else [] := by
      have := rulesE_snoc [] v u look l i
      simpa [rulesE] using this
    rw [hs]
    by_cases hu : u = v
    · by_cases hl : l = look
      · subst hl
        rw [if_pos ⟨hu, rfl⟩, if_pos ⟨hu, by simp⟩, rulesE_none h1]
        rfl
      · rw [if_neg (fun h => hl h.2), ih]
        by_cases hm : look ∈ t
        · rw [if_pos ⟨hu, hm⟩, if_pos ⟨hu, by simp [hm]⟩]; rfl
        · rw [if_neg (fun h => hm h.2), if_neg (fun h => (List.mem_cons.1 h.2).elim (fun h3 => hl h3.symm) hm)]; rfl
    · rw [if_neg (fun h => hu h.1), ih, if_neg (fun h => hu h.1), if_neg (fun h => hu h.1)]; rfl
/-- The rules that a lookahead may mean. -/
def rulesK (K : Int) (g : GramD) (F Fo : List Wds) (v n : Nat) (look : List Int) : List Int := ((List.range n).filter (fun k => decide (leftN g k = v ∧ look ∈ lookL K g F Fo k))).map (fun (k : Nat) => (k : Int))
theorem rulesE_adds {K : Int} {g : GramD} {F Fo : List Wds} (hs : ∀ k, Sorted (lookL K g F Fo k)) (v : Nat) (look : List Int) : ∀ n, rulesE (addsOf K g F Fo n) v look = rulesK K g F Fo v n look
  | 0 => rfl
  | n + 1 => by
    rw [addsOf_succ, rulesE_app, rulesE_adds hs v look n, rulesE_one (hs n).nodup]
    unfold rulesK
    rw [List.range_succ, List.filter_append, List.map_append]
    congr 1
    by_cases h : leftN g n = v ∧ look ∈ lookL K g F Fo n
    · rw [if_pos h, List.filter_cons_of_pos (by simpa using h)]; rfl
    · rw [if_neg h, List.filter_cons_of_neg (by simpa using h)]; rfl
theorem mem_rulesK {K : Int} {g : GramD} {F Fo : List Wds} {v n : Nat} {look : List Int} {k : Nat} : (k : Int) ∈ rulesK K g F Fo v n look ↔ k < n ∧ leftN g k = v ∧ look ∈ lookL K g F Fo k := by
  unfold rulesK
  rw [List.mem_map]
  constructor
  · rintro ⟨j, hj, e⟩
    obtain rfl : j = k := by omega
    obtain ⟨h1, h2⟩ := List.mem_filter.1 hj
    exact ⟨by simpa using h1, by simpa using h2⟩
  · rintro ⟨h1, h2⟩
    exact ⟨k, List.mem_filter.2 ⟨by simpa using h1, by simpa using h2⟩, rfl⟩
theorem rulesK_nodup (K : Int) (g : GramD) (F Fo : List Wds) (v n : Nat) (look : List Int) : (rulesK K g F Fo v n look).Nodup := by
  unfold rulesK
  rw [List.Nodup, List.pairwise_map]
  exact (List.nodup_range.filter _).imp (fun h e => h (by omega))
theorem cntB_nodup {a b : Int} (hab : a ≠ b) : ∀ {l : List Int}, l.Nodup → cntB a b l = (if a ∈ l then 1 else 0) + (if b ∈ l then 1 else 0)
  | [], _ => rfl
  | x :: t, h => by
    obtain ⟨h1, h2⟩ := List.nodup_cons.1 h
    have ih := cntB_nodup hab h2
    have hstep : cntB a b (x :: t) = (if (x == a || x == b) = true then 1 else 0) + cntB a b t := by
      unfold cntB
      by_cases hh : (x == a || x == b) = true
      · rw [List.filter_cons_of_pos (p := fun k => k == a || k == b) hh, if_pos hh, List.length_cons, Nat.add_comm]
      · rw [List.filter_cons_of_neg (p := fun k => k == a || k == b) hh, if_neg hh, Nat.zero_add]
    rw [hstep, ih]
    by_cases ha : x = a
    · subst ha
      have hbx : ¬ b = x := fun e => hab e.symm
      by_cases hb : b ∈ t <;> simp [h1, hb, hbx]
    · have hax : ¬ a = x := fun e => ha e.symm
      by_cases hb : x = b
      · subst hb
        by_cases ha2 : a ∈ t <;> simp [h1, ha2, hab]
      · have hbx : ¬ b = x := fun e => hb e.symm
        by_cases ha2 : a ∈ t <;> by_cases hb2 : b ∈ t <;> simp [ha2, hb2, ha, hb, hax, hbx]
theorem cntB_two {a b : Int} (hab : a ≠ b) {l : List Int} (h : l.Nodup) : cntB a b l = 2 ↔ a ∈ l ∧ b ∈ l := by
  rw [cntB_nodup hab h]
  by_cases ha : a ∈ l <;> by_cases hb : b ∈ l <;> simp [ha, hb]
section
variable {K : Int} {g : GramD} {F Fo : List Wds} {v : Nat} {x : List TRow}
/-- What a variable's rows are. -/
theorem rows_mem (hs : ∀ k, Sorted (lookL K g F Fo k)) (h : RowsOf (addsOf K g F Fo g.rules.length) v x) {look : List Int} {rs : List Int} : (look, rs) ∈ x ↔ rs = rulesK K g F Fo v g.rules.length look ∧ rs ≠ [] := by
  rw [h.mem, rulesE_adds hs]
theorem both_some (hs : ∀ k, Sorted (lookL K g F Fo k)) (h : RowsOf (addsOf K g F Fo g.rules.length) v x) {a b : Nat} (hab : a ≠ b) : (∃ l, bothT x a b = some l) ↔ ∃ look, (a < g.rules.length ∧ leftN g a = v ∧ look ∈ lookL K g F Fo a) ∧ (b < g.rules.length ∧ leftN g b = v ∧ look ∈ lookL K g F Fo b) := by
  have hab2 : (a : Int) ≠ (b : Int) := by omega
  unfold bothT
  constructor
  · rintro ⟨l, hl⟩
    obtain ⟨r, hr, rfl⟩ := Option.map_eq_some_iff.1 hl
    have h1 := List.mem_of_find?_eq_some hr
    have h2 := List.find?_some hr
    obtain ⟨look, rs⟩ := r
    obtain ⟨h3, _⟩ := (rows_mem hs h).1 h1
    have h4 : cntB a b rs = 2 := by simpa using h2
    rw [h3, cntB_two hab2 (rulesK_nodup _ _ _ _ _ _ _), mem_rulesK, mem_rulesK] at h4
    exact ⟨look, h4⟩
  · rintro ⟨look, h1, h2⟩
    have hm : (look, rulesK K g F Fo v g.rules.length look) ∈ x := (rows_mem hs h).2 ⟨rfl, List.ne_nil_of_mem (mem_rulesK.2 h1)⟩
    cases hf : x.find? (fun r => cntB a b r.2 == 2) with
    | some r => exact ⟨r.1, rfl⟩
    | none =>
      rw [List.find?_eq_none] at hf
      have := hf _ hm
      exact absurd ((cntB_two hab2 (rulesK_nodup _ _ _ _ _ _ _)).2 ⟨mem_rulesK.2 h1, mem_rulesK.2 h2⟩) (by simpa using this)
theorem clear_iff (hs : ∀ k, Sorted (lookL K g F Fo k)) (h : RowsOf (addsOf K g F Fo g.rules.length) v x) : clearT x = true ↔ ∀ look (a b : Nat), (a < g.rules.length ∧ leftN g a = v ∧ look ∈ lookL K g F Fo a) → (b < g.rules.length ∧ leftN g b = v ∧ look ∈ lookL K g F Fo b) → a = b := by
  unfold clearT
  rw [List.all_eq_true]
  constructor
  · intro hc look a b ha hb
    have hm : (look, rulesK K g F Fo v g.rules.length look) ∈ x := (rows_mem hs h).2 ⟨rfl, List.ne_nil_of_mem (mem_rulesK.2 ha)⟩
    have h1 := hc _ hm
    have h2 : (rulesK K g F Fo v g.rules.length look).length ≤ 1 := by simpa using h1
    have ha2 := mem_rulesK.2 ha
    have hb2 := mem_rulesK.2 hb
    generalize rulesK K g F Fo v g.rules.length look = l at *
    match l, h2, ha2, hb2 with
    | [y], _, ha2, hb2 =>
      have := List.mem_singleton.1 ha2
      have := List.mem_singleton.1 hb2
      omega
  · rintro hc ⟨look, rs⟩ hr
    obtain ⟨h1, h2⟩ := (rows_mem hs h).1 hr
    have h3 := rulesK_nodup K g F Fo v g.rules.length look
    rw [← h1] at h3
    have hall : ∀ y ∈ rs, ∃ k : Nat, y = (k : Int) ∧ k < g.rules.length ∧ leftN g k = v ∧ look ∈ lookL K g F Fo k := fun y hy => by
      rw [h1] at hy
      have hy2 := hy
      unfold rulesK at hy2
      obtain ⟨k, _, rfl⟩ := List.mem_map.1 hy2
      exact ⟨k, rfl, mem_rulesK.1 hy⟩
    match rs, h3, hall with
    | [], _, _ => rfl
    | [y], _, _ => rfl
    | y :: z :: t, h3, hall =>
      obtain ⟨a, rfl, ha⟩ := hall y (by simp)
      obtain ⟨b, rfl, hb⟩ := hall z (by simp)
      have := hc look a b ha hb
      subst this
      simp at h3
end
/-- How many clashes of two rules there are. -/
def cnt3 (L : List ClD) (v a b : Nat) : Nat := (L.filter (fun d => decide (d.1 = v ∧ d.2.1 = a ∧ d.2.2.1 = b))).length
theorem cnt3_app (L M : List ClD) (v a b : Nat) : cnt3 (L ++ M) v a b = cnt3 L v a b + cnt3 M v a b := by
  unfold cnt3
  rw [List.filter_append, List.length_append]
theorem clOf_form {rs : List RuleD} {x : List TRow} {v a b : Nat} {c : ClD} (h : clOf rs x v a b = some c) : c.1 = v ∧ c.2.1 = a ∧ c.2.2.1 = b ∧ ∃ (ha : a < rs.length) (hb : b < rs.length), rs[a].left = v ∧ rs[b].left = v ∧ a < b ∧ bothT x a b = some c.2.2.2 := by
  by_cases ha : a < rs.length
  · by_cases hb : b < rs.length
    · rw [clOf_at ha hb] at h
      split at h
      · rename_i hh
        obtain ⟨l, hl, rfl⟩ := Option.map_eq_some_iff.1 h
        exact ⟨rfl, rfl, rfl, ha, hb, hh.1, hh.2.1, hh.2.2, hl⟩
      · cases h
    · rw [clOf_none (fun _ h => absurd h hb)] at h; cases h
  · rw [clOf_none (fun h => absurd h ha)] at h; cases h
theorem clB_succ (rs : List RuleD) (x : List TRow) (v a n : Nat) : clB rs x v a (n + 1) = clB rs x v a n ++ (clOf rs x v a n).toList := by
  unfold clB
  rw [List.range_succ, List.filterMap_append]
  congr 1
theorem cnt3_B {rs : List RuleD} {x : List TRow} {v a u p q : Nat} : ∀ {n : Nat}, cnt3 (clB rs x v a n) u p q = if v = u ∧ a = p ∧ q < n ∧ (clOf rs x v a q).isSome = true then 1 else 0
  | 0 => by
    rw [if_neg (fun h => by omega)]; rfl
  | n + 1 => by
    rw [clB_succ, cnt3_app, cnt3_B]
    have h1 : cnt3 (clOf rs x v a n).toList u p q = if v = u ∧ a = p ∧ n = q ∧ (clOf rs x v a q).isSome = true then 1 else 0 := by
      cases hc : clOf rs x v a n with
      | none =>
        rw [if_neg]
        · rfl
        · rintro ⟨_, _, rfl, h4⟩
          rw [hc] at h4
          cases h4
      | some c =>
        obtain ⟨e1, e2, e3, -⟩ := clOf_form hc
        unfold cnt3
        by_cases hh : v = u ∧ a = p ∧ n = q
        · rw [if_pos ⟨hh.1, hh.2.1, hh.2.2, by rw [← hh.2.2, hc]; rfl⟩]
          simp [e1, e2, e3, hh]
        · rw [if_neg (fun h => hh ⟨h.1, h.2.1, h.2.2.1⟩)]
          simp only [Option.toList_some]
          rw [List.filter_cons_of_neg (by rw [e1, e2, e3]; simpa using hh)]
          rfl
    rw [h1]
    by_cases hh : v = u ∧ a = p ∧ (clOf rs x v a q).isSome = true
    · by_cases hq : q < n
      · rw [if_pos ⟨hh.1, hh.2.1, hq, hh.2.2⟩, if_neg (fun h => by omega), if_pos ⟨hh.1, hh.2.1, by omega, hh.2.2⟩]
      · by_cases hq2 : n = q
        · rw [if_neg (fun h => by omega), if_pos ⟨hh.1, hh.2.1, hq2, hh.2.2⟩, if_pos ⟨hh.1, hh.2.1, by omega, hh.2.2⟩]
        · rw [if_neg (fun h => by omega), if_neg (fun h => hq2 h.2.2.1), if_neg (fun h => by omega)]
    · rw [if_neg (fun h => hh ⟨h.1, h.2.1, h.2.2.2⟩), if_neg (fun h => hh ⟨h.1, h.2.1, h.2.2.2⟩), if_neg (fun h => hh ⟨h.1, h.2.1, h.2.2.2⟩)]
theorem cnt3_A {rs : List RuleD} {x : List TRow} {v u p q : Nat} : ∀ {n : Nat}, cnt3 (clA rs x v n) u p q = if v = u ∧ p < n ∧ q < rs.length ∧ (clOf rs x v p q).isSome = true then 1 else 0
  | 0 => by
    rw [if_neg (fun h => by omega)]; rfl
  | n + 1 => by
    rw [clA_step, cnt3_app, cnt3_A, cnt3_B]
    by_cases hh : v = u ∧ q < rs.length ∧ (clOf rs x v p q).isSome = true
    · by_cases hp : p < n
      · rw [if_pos ⟨hh.1, hp, hh.2⟩, if_neg (fun h => by omega), if_pos ⟨hh.1, by omega, hh.2⟩]
      · by_cases hp2 : n = p
        · subst hp2
          rw [if_neg (fun h => by omega), if_pos ⟨hh.1, rfl, hh.2⟩, if_pos ⟨hh.1, by omega, hh.2⟩]
        · rw [if_neg (fun h => by omega), if_neg (fun h => hp2 h.2.1), if_neg (fun h => by omega)]
    · rw [if_neg (fun h => hh ⟨h.1, h.2.2⟩), if_neg (fun h => hh ⟨h.1, h.2.2.1, by rw [← h.2.1]; exact h.2.2.2⟩), if_neg (fun h => hh ⟨h.1, h.2.2⟩)]
theorem cnt3_V {rs : List RuleD} {T : List (List TRow)} {u p q : Nat} : ∀ {n : Nat}, cnt3 (clV rs T n) u p q = if u < n ∧ p < rs.length ∧ q < rs.length ∧ (clOf rs (T.getD u []) u p q).isSome = true then 1 else 0
  | 0 => by
    rw [if_neg (fun h => by omega)]; rfl
  | n + 1 => by
    rw [clV_step, cnt3_app, cnt3_V, cnt3_A]
    by_cases hh : p < rs.length ∧ q < rs.length ∧ (clOf rs (T.getD u []) u p q).isSome = true
    · by_cases hp : u < n
      · rw [if_pos ⟨hp, hh⟩, if_neg (fun h => by omega), if_pos ⟨by omega, hh⟩]
      · by_cases hp2 : n = u
        · subst hp2
          rw [if_neg (fun h => by omega), if_pos ⟨rfl, hh⟩, if_pos ⟨by omega, hh⟩]
        · rw [if_neg (fun h => by omega), if_neg (fun h => hp2 h.1), if_neg (fun h => by omega)]
    · rw [if_neg (fun h => hh h.2), if_neg (fun h => hh ⟨h.2.1, h.2.2.1, by have := h.2.2.2; rw [h.1] at this; exact this⟩), if_neg (fun h => hh h.2)]
theorem clV_mem {rs : List RuleD} {T : List (List TRow)} {n : Nat} {c : ClD} (h : c ∈ clV rs T n) : c.1 < n ∧ clOf rs (T.getD c.1 []) c.1 c.2.1 c.2.2.1 = some c := by
  unfold clV at h
  obtain ⟨v, hv, h⟩ := List.mem_flatMap.1 h
  unfold clA at h
  obtain ⟨a, ha, h⟩ := List.mem_flatMap.1 h
  unfold clB at h
  obtain ⟨b, hb, h⟩ := List.mem_filterMap.1 h
  obtain ⟨e1, e2, e3, -⟩ := clOf_form h
  rw [e1, e2, e3]
  exact ⟨by simpa using hv, h⟩
end Go.Proofs.Ytmiiolgbjicocaa
