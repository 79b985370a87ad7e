/- What a table tells at each step of a derivation. Plain. -/
import Derived.Test.YtmiiolgbjicocaaMeansP
namespace Go.Proofs.Ytmiiolgbjicocaa
open Go.RowKit Dv
section
variable {K : Int} {g : GramD} {F Fo : List Wds} {v : Nat} {x : List TRow}
theorem findT_rows (hs : ∀ k, Sorted (lookL K g F Fo k)) (h : RowsOf (addsOf K g F Fo g.rules.length) v x) (look : List Int) : findT x look = rulesK K g F Fo v g.rules.length look := by
  unfold findT
  cases hf : x.find? (fun r => decide (r.1 = look)) with
  | some r =>
    have h1 := List.mem_of_find?_eq_some hf
    have h2 := List.find?_some hf
    obtain ⟨l, rs⟩ := r
    obtain rfl : l = look := by simpa using h2
    exact ((rows_mem hs h).1 h1).1
  | none =>
    show [] = _
    apply Classical.byContradiction
    intro hne
    rw [List.find?_eq_none] at hf
    have := hf _ ((rows_mem hs h).2 ⟨rfl, fun e => hne e.symm⟩)
    simp at this
theorem rulesK_len (K : Int) (g : GramD) (F Fo : List Wds) (v n : Nat) (look : List Int) : (rulesK K g F Fo v n look).length ≤ n := by
  unfold rulesK
  rw [List.length_map]
  exact Nat.le_trans (List.length_filter_le _ _) (by simp)
end
/-- How often a number stands in a list. -/
def cnt1 (l : List Int) (r : Int) : Nat := (l.filter (fun y => y == r)).length
theorem cnt1_take {l : List Int} {j : Nat} (h : j < l.length) (r : Int) : cnt1 (l.take (j + 1)) r = cnt1 (l.take j) r + if (l[j] == r) = true then 1 else 0 := by
  unfold cnt1
  rw [List.take_succ_eq_append_getElem h, List.filter_append, List.length_append]
  congr 1
  by_cases hh : (l[j] == r) = true
  · rw [if_pos hh, List.filter_cons_of_pos (p := fun y => y == r) hh]; rfl
  · rw [if_neg hh, List.filter_cons_of_neg (p := fun y => y == r) hh]; rfl
theorem cnt1_le (l : List Int) (r : Int) : cnt1 l r ≤ l.length := List.length_filter_le _ _
theorem cnt1_one {r : Int} : ∀ {l : List Int}, l.Nodup → r ∈ l → cnt1 l r = 1
  | [], _, h => by cases h
  | y :: t, hn, h => by
    obtain ⟨h1, h2⟩ := List.nodup_cons.1 hn
    unfold cnt1
    by_cases e : y = r
    · subst e
      rw [List.filter_cons_of_pos (by simp), List.length_cons]
      have : t.filter (fun z => z == y) = [] := List.filter_eq_nil_iff.2 (fun z hz hzy => h1 (by
        have hzy2 : z = y := by simpa using hzy
        rw [← hzy2]
        exact hz))
      rw [this]; rfl
    · rw [List.filter_cons_of_neg (by simpa using e)]
      exact cnt1_one h2 ((List.mem_cons.1 h).elim (fun h => absurd h.symm e) id)
theorem rep_place (g : GramD) : ∀ (rules form : List Int) (k : Nat), (repS g form k rules).2.2 = 0 → repS g form k rules = ((repS g form k rules).1, 0, 0)
  | [], form, k, _ => rfl
  | r :: rs, form, k, h => by
    unfold repS at h ⊢
    split
    · rename_i hz
      rw [if_pos hz] at h
      exact rep_place g rs _ _ h
    · rename_i hz
      rw [if_neg hz] at h
      exact absurd h hz
/-- All that the law asks of a step. -/
structure StepOk (g : GramD) (K : Int) (T : List (List TRow)) (rules : List Int) (W : List Int) (at_ : Nat) (hat : at_ < rules.length) (f : List Int) (r v : Nat) : Prop where
  rep : repS g [0] 0 (rules.take at_) = (f, 0, 0)
  hr : r < g.rules.length
  eq : rules[at_] = r
  left : ∀ (h : r < g.rules.length), g.rules[r].left = (v : Int)
  hv : v < g.vars.length
  len : (leadL f).length ≤ W.length
  one : cnt1 (findT (T.getD v []) (cutL (W.drop (leadL f).length) K)) r = 1
  few : (findT (T.getD v []) (cutL (W.drop (leadL f).length) K)).length ≤ 24
  clear : clearT (T.getD v []) = true → (findT (T.getD v []) (cutL (W.drop (leadL f).length) K)).length = 1
theorem steps_ok {g : GramD} (hg : GoodW g) (hw : WfG g) {K n : Int} (hK : 1 ≤ K ∧ K ≤ 2) {sb : Nat} {F Fo : List Wds} {wr : World} (hS : GoodSets K n g sb F Fo wr) {T : List (List TRow)} (hT : TOf (addsOf K g F Fo g.rules.length) T) (hl : T.length = g.vars.length) {rules W : List Int} (hy : yieldS g [0] rules = (W, 0)) (at_ : Nat) (hat : at_ < rules.length) : ∃ f r v, StepOk g K T rules W at_ hat f r v := by
  have hS0 := hS
  obtain ⟨-, -, -, a3, a4, -⟩ := hS
  have hrng : ∀ k (h : k < g.rules.length), Rng g.rules[k].right := fun k h s hs _ => by
    have h8 := (hw k h).2 s hs
    have h9 : -9223372036854775808 ≤ s ∧ s ≤ 9223372036854775807 := by
      simpa [Lit.wf, IntKind.min, IntKind.max, IntKind.signed, IntKind.bits] using h8
    exact h9.1
  obtain ⟨fe, hfe, hte, rfl⟩ : ∃ fe, repS g [0] 0 rules = (fe, 0, 0) ∧ fe.length ≤ firstV fe ∧ W = leadL fe := by
    unfold yieldS at hy
    by_cases h1 : (repS g [0] 0 rules).2.2 = 0
    · rw [if_neg (fun h => h h1)] at hy
      by_cases h2 : firstV (repS g [0] 0 rules).1 < (repS g [0] 0 rules).1.length
      · rw [if_pos h2] at hy
        injection hy with _ hy
        cases hy
      · rw [if_neg h2] at hy
        injection hy with hy
        refine ⟨(repS g [0] 0 rules).1, ?_, by omega, hy.symm⟩
        exact rep_place g rules [0] 0 h1
    · rw [if_pos h1] at hy
      injection hy with _ hy
      exact absurd hy h1
  obtain ⟨-, h2⟩ := means_all a3 a4 hrng rules [0] 0 (invD_start a4) (fun s hs h => by simp at hs; omega) hfe hte
  obtain ⟨f, q1, r, hr, q2, q3, q4, q5⟩ := h2 at_ hat
  have hlf := leftN_at hr
  have hv : leftN g r < g.vars.length := by
    rw [hlf]
    exact (hg.good _ (List.mem_of_getElem? (rulesOf_at hr))).1
  have hok := hS0.ok hg hK.2
  have hvl : leftN g r < T.length := by omega
  have hx := List.getElem?_eq_getElem hvl
  have hro := hT _ _ hx
  have hgd : T.getD (leftN g r) [] = T[leftN g r] := by rw [List.getD_eq_getElem?_getD, hx]; rfl
  have hlook : cutL ((leadL fe).drop (leadL f).length) K ∈ lookL K g F Fo r := by
    rw [lookL_at hr]
    exact mem_ahead.2 q5
  have hfind := findT_rows (fun k => (hok k).2) hro (cutL ((leadL fe).drop (leadL f).length) K)
  have hm : (r : Int) ∈ rulesK K g F Fo (leftN g r) g.rules.length (cutL ((leadL fe).drop (leadL f).length) K) := mem_rulesK.2 ⟨hr, rfl, hlook⟩
  refine ⟨f, r, leftN g r, q1, hr, q2, fun _ => by rw [hlf]; omega, hv, q4, ?_, ?_, fun hc => ?_⟩
  · rw [hgd, hfind]
    exact cnt1_one (rulesK_nodup _ _ _ _ _ _ _) hm
  · rw [hgd, hfind]
    exact Nat.le_trans (rulesK_len _ _ _ _ _ _ _) hg.nr
  · rw [hgd] at hc ⊢
    rw [hfind]
    have hmx : (cutL ((leadL fe).drop (leadL f).length) K, rulesK K g F Fo (leftN g r) g.rules.length (cutL ((leadL fe).drop (leadL f).length) K)) ∈ T[leftN g r] := (rows_mem (fun k => (hok k).2) hro).2 ⟨rfl, List.ne_nil_of_mem hm⟩
    unfold clearT at hc
    rw [List.all_eq_true] at hc
    have h3 := hc _ hmx
    have h4 : (rulesK K g F Fo (leftN g r) g.rules.length (cutL ((leadL fe).drop (leadL f).length) K)).length ≤ 1 := by simpa using h3
    have h5 := List.length_pos_of_mem hm
    omega
end Go.Proofs.Ytmiiolgbjicocaa
