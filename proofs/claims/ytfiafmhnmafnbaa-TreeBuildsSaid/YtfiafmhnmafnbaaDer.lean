/- A derivation that ends is a tree's. Plain. -/
import Derived.Test.YtfiafmhnmafnbaaYield
import Derived.Test.YtfiafmhnmafnbaaNode
namespace Go.Proofs.Ytfiafmhnmafnbaa
open Go.RowKit
theorem repS_k (g : GramD) : ∀ (rs form : List Int) (k l : Nat), (repS g form k rs).1 = (repS g form l rs).1 ∧ (repS g form k rs).2.2 = (repS g form l rs).2.2
  | [], form, k, l => ⟨rfl, rfl⟩
  | r :: rs, form, k, l => by
    unfold repS
    split
    · exact repS_k g rs _ _ _
    · exact ⟨rfl, rfl⟩
theorem yieldS_cons {g : GramD} {form rs : List Int} {r : Int} : yieldS g form (r :: rs) = if (stepS g form r).2 = 0 then yieldS g (stepS g form r).1 rs else ([], (stepS g form r).2) := by
  unfold yieldS
  rw [show repS g form 0 (r :: rs) = if (stepS g form r).2 = 0 then repS g (stepS g form r).1 (0 + 1) rs else ([], 0, (stepS g form r).2) from by rw [repS]]
  split
  · rename_i h
    rw [(repS_k g rs (stepS g form r).1 (0 + 1) 0).1, (repS_k g rs (stepS g form r).1 (0 + 1) 0).2]
  · rfl
theorem first_split {form : List Int} (h : firstV form < form.length) : ∃ A C s, form = A ++ s :: C ∧ A.length = firstV form ∧ form[firstV form] = s ∧ 0 ≤ s ∧ ∀ x ∈ A, x < 0 := by
  refine ⟨form.take (firstV form), form.drop (firstV form + 1), form[firstV form], ?_, by rw [List.length_take]; omega, rfl, ?_, fun x hx => ?_⟩
  · rw [← List.drop_eq_getElem_cons h, List.take_append_drop]
  · have h3 : isv (form[firstV form]'h) = true := List.findIdx_getElem (w := h) (p := isv) (xs := form)
    unfold isv at h3
    exact of_decide_eq_true h3
  · obtain ⟨i, hi, rfl⟩ := List.getElem_of_mem hx
    rw [List.getElem_take]
    have hi' : i < firstV form := by simp at hi; omega
    have := List.not_of_lt_findIdx (p := isv) (xs := form) hi'
    simpa [isv] using this
theorem take_at {form A C : List Int} {s : Int} (h : form = A ++ s :: C) : form.take A.length = A := by rw [h]; simp
theorem drop_at {form A C : List Int} {s : Int} (h : form = A ++ s :: C) : form.drop (A.length + 1) = C := by rw [h, List.drop_append]; simp
theorem neg_rules {g : GramD} : ∀ {ts : List PT}, (∀ t ∈ ts, t.valid g = true) → (∀ x ∈ ts.map PT.sym, x < 0) → PT.rulesL ts = []
  | [], _, _ => rfl
  | .node s r kids :: ts, h, hn => by
    have hs : s < 0 := hn s (by simp [PT.sym])
    obtain ⟨_, _, rfl⟩ := valid_leaf (h (.node s r kids) (by simp)) hs
    have e := neg_rules (ts := ts) (fun t ht => h t (List.mem_cons_of_mem _ ht)) (fun x hx => hn x (by rw [List.map_cons]; exact List.mem_cons_of_mem _ hx))
    rw [PT.rulesL, PT.rules, if_neg (by omega), e]
    rfl
def SymsOk (g : GramD) (form : List Int) : Prop := ∀ s ∈ form, s < 0 → nt s < g.terms.length
theorem no_var {form : List Int} (h : ¬ firstV form < form.length) : ∀ x ∈ form, x < 0 := fun x hx => by
  obtain ⟨i, hi, rfl⟩ := List.getElem_of_mem hx
  have := List.not_of_lt_findIdx (p := isv) (xs := form) (i := i) (by have : form.findIdx isv = firstV form := rfl; omega)
  simpa [isv] using this
theorem leaves_all {g : GramD} : ∀ {form : List Int}, SymsOk g form → (∀ x ∈ form, x < 0) →
    ((form.map fun s => PT.node s (-1) []).map PT.sym = form ∧ PT.rulesL (form.map fun s => PT.node s (-1) []) = [] ∧ PT.leavesL (form.map fun s => PT.node s (-1) []) = form ∧ ∀ t ∈ form.map fun s => PT.node s (-1) [], t.valid g = true)
  | [], _, _ => ⟨rfl, rfl, rfl, fun t ht => by cases ht⟩
  | s :: form, hk, hn => by
    have hs : s < 0 := hn s (by simp)
    obtain ⟨h1, h2, h3, h4⟩ := leaves_all (g := g) (form := form) (fun x hx => hk x (by simp [hx])) (fun x hx => hn x (by simp [hx]))
    have hv : (PT.node s (-1) []).valid g = true := by
      rw [PT.valid, if_neg (by omega)]
      simpa using hk s (by simp) hs
    refine ⟨?_, ?_, ?_, fun t ht => ?_⟩
    · rw [List.map_cons, List.map_cons, h1]; rfl
    · rw [List.map_cons, PT.rulesL, PT.rules, if_neg (by omega), h2]; rfl
    · rw [List.map_cons, PT.leavesL, PT.leaves, if_neg (by omega), h3]; rfl
    · rw [List.map_cons] at ht
      rcases List.mem_cons.1 ht with rfl | ht
      · exact hv
      · exact h4 t ht
theorem trees_of {g : GramD} (hg : GramOk g) : ∀ (rules form : List Int), SymsOk g form → (yieldS g form rules).2 = 0 →
    ∃ ts : List PT, ts.map PT.sym = form ∧ PT.rulesL ts = rules ∧ (PT.leavesL ts).map nt = (yieldS g form rules).1 ∧ ∀ t ∈ ts, t.valid g = true
  | [], form, hk, hy => by
    have hn : ¬ firstV form < form.length := fun h => by
      unfold yieldS repS at hy
      simp [h] at hy
    have he : (yieldS g form []).1 = form.map nt := by
      unfold yieldS repS
      simp [hn]
      unfold leadL
      rw [List.take_of_length_le (by omega)]
    obtain ⟨h1, h2, h3, h4⟩ := leaves_all hk (no_var hn)
    exact ⟨_, h1, h2, by rw [h3, he], h4⟩
  | r :: rs, form, hk, hy => by
    rw [yieldS_cons] at hy
    rw [yieldS_cons]
    by_cases hst : (stepS g form r).2 = 0
    · rw [if_pos hst] at hy ⊢
      by_cases h1 : r < 0 ∨ (g.rules.length : Int) ≤ r
      · unfold stepS at hst; rw [if_pos h1] at hst; simp at hst
      by_cases h2 : firstV form < form.length ∧ r.toNat < g.rules.length
      · by_cases h3 : form[firstV form]'h2.1 = (g.rules[r.toNat]'h2.2).left
        · obtain ⟨A, C, s, hform, hA, hs, hs0, hneg⟩ := first_split h2.1
          have hstep : (stepS g form r).1 = A ++ (g.rules[r.toNat]'h2.2).right ++ C := by
            unfold stepS
            rw [if_neg h1, dif_pos h2, if_pos h3]
            have e1 : form.take (firstV form) = A := by rw [← hA]; exact take_at hform
            have e2 : form.drop (firstV form + 1) = C := by rw [← hA]; exact drop_at hform
            show form.take (firstV form) ++ _ ++ form.drop (firstV form + 1) = _
            rw [e1, e2]
          rw [hs] at h3
          rw [hstep] at hy ⊢
          have hR := hg r.toNat h2.2
          obtain ⟨ts, t1, t2, t3, t4⟩ := trees_of hg rs _ (by
            intro x hx hx0
            rw [List.mem_append, List.mem_append] at hx
            rcases hx with (hx | hx) | hx
            · exact hk x (by rw [hform]; simp [hx]) hx0
            · obtain ⟨i, hi, rfl⟩ := List.getElem_of_mem hx
              exact (hR.2.1 i hi).2 hx0
            · exact hk x (by rw [hform]; simp [hx]) hx0) hy
          obtain ⟨tar, tc, rfl, e1, e2⟩ := List.map_eq_append_iff.1 t1
          obtain ⟨ta, tr, rfl, e3, e4⟩ := List.map_eq_append_iff.1 e1
          have hta := neg_rules (ts := ta) (g := g) (fun t ht => t4 t (by simp [ht])) (by rw [e3]; exact hneg)
          refine ⟨ta ++ PT.node s r tr :: tc, ?_, ?_, ?_, ?_⟩
          · rw [List.map_append, List.map_cons, e3, e2, hform]; rfl
          · rw [PT.rulesL_append, PT.rulesL_append, hta] at t2
            rw [PT.rulesL_append, hta, PT.rulesL, PT.rules, if_pos hs0]
            simpa using t2
          · rw [← t3]
            simp only [PT.leavesL_append, PT.leavesL, PT.leaves, if_pos hs0, List.nil_append, List.append_assoc]
          · intro t ht
            rcases List.mem_append.1 ht with ht | ht
            · exact t4 t (by simp [ht])
            · rcases List.mem_cons.1 ht with rfl | ht
              · rw [PT.valid, if_pos hs0]
                unfold getR
                rw [if_pos (by omega), List.getElem?_eq_getElem h2.2]
                simp [h3, e4]
                exact validL_iff.2 fun t ht => t4 t (by simp [ht])
              · exact t4 t (by simp [ht])
        · unfold stepS at hst; rw [if_neg h1, dif_pos h2, if_neg h3] at hst; simp at hst
      · unfold stepS at hst; rw [if_neg h1, dif_neg h2] at hst; simp at hst
    · rw [if_neg hst] at hy
      exact absurd hy hst
theorem tree_of {g : GramD} (hg : GramOk g) {v : Int} (hv : 0 ≤ v) {rules : List Int} (hy : (yieldS g [v] rules).2 = 0) :
    ∃ T : PT, T.sym = v ∧ T.rules = rules ∧ T.leaves.map nt = (yieldS g [v] rules).1 ∧ T.valid g = true := by
  obtain ⟨ts, h1, h2, h3, h4⟩ := trees_of hg rules [v] (fun s hs h0 => by simp at hs; omega) hy
  obtain ⟨T, rfl⟩ : ∃ T, ts = [T] := by
    match ts, h1 with
    | [T], _ => exact ⟨T, rfl⟩
  refine ⟨T, by simpa using h1, by simpa [PT.rulesL] using h2, by simpa [PT.leavesL] using h3, h4 T (by simp)⟩
theorem valid_size {g : GramD} (hsm : Small g) (t : PT) (h : t.valid g = true) : t.size ≤ 1 + 8 * t.rules.length := by
  induction t using PT.ind with | h s r kids ih => ?_
  by_cases hs : 0 ≤ s
  · obtain ⟨k, rfl, hk, _, hsy, hv⟩ := valid_var h hs
    have hl : kids.length ≤ 8 := by have := congrArg List.length hsy; rw [List.length_map] at this; rw [this]; exact hsm.2 k hk
    have : PT.sizeL kids ≤ kids.length + 8 * (PT.rulesL kids).length := by
      clear hl hsy h
      induction kids with
      | nil => simp [PT.sizeL]
      | cons c cs ih2 =>
        have h1 := ih c (by simp) (hv c (by simp))
        have h2 := ih2 (fun x hx => ih x (by simp [hx])) (fun x hx => hv x (by simp [hx]))
        simp only [PT.sizeL, PT.rulesL, List.length_append, List.length_cons]
        omega
    simp only [PT.size, PT.rules, if_pos hs, List.length_append, List.length_singleton]
    omega
  · obtain ⟨_, _, rfl⟩ := valid_leaf h (by omega)
    simp [PT.size, PT.sizeL]
end Go.Proofs.Ytfiafmhnmafnbaa
