/- Rules that clash by more terminals clash by fewer. Plain. -/
import Derived.Test.YtmiiolgbjicocaaTFrame
namespace Go.Proofs.Ytmiiolgbjicocaa
open Go.RowKit
section
variable {g : GramD} {F1 Fo1 F2 Fo2 : List Wds} {T1 T2 : List (List TRow)} {n1 n2 : Int} {s1 s2 : Nat} {W1 W2 : World}
theorem more_look (h1 : GoodSets 1 n1 g s1 F1 Fo1 W1) (h2 : GoodSets 2 n2 g s2 F2 Fo2 W2) {k : Nat} (hk : k < g.rules.length) {l : List Int} (hl : l ∈ lookL 2 g F2 Fo2 k) : l.take 1 ∈ lookL 1 g F1 Fo1 k := by
  obtain ⟨-, -, -, a3, a4, -⟩ := h1
  obtain ⟨-, b1, b2, -⟩ := h2
  rw [lookL_at hk] at hl ⊢
  exact trunc_look b1 b2 a3 a4 _ _ hl
theorem more_clash (hg : GoodW g) (h1 : GoodSets 1 n1 g s1 F1 Fo1 W1) (h2 : GoodSets 2 n2 g s2 F2 Fo2 W2) (t1 : TOf (addsOf 1 g F1 Fo1 g.rules.length) T1) (t2 : TOf (addsOf 2 g F2 Fo2 g.rules.length) T2) (l1 : T1.length = g.vars.length) (l2 : T2.length = g.vars.length) {c : ClD} (hc : c ∈ clV g.rules T2 g.vars.length) :
    cnt3 (clV g.rules T1 g.vars.length) c.1 c.2.1 c.2.2.1 = 1 ∧ c.2.1 < c.2.2.1 ∧ ∃ (ha : c.2.1 < g.rules.length) (hb : c.2.2.1 < g.rules.length), g.rules[c.2.1].left = c.1 ∧ g.rules[c.2.2.1].left = c.1 := by
  obtain ⟨hv, hf⟩ := clV_mem hc
  obtain ⟨-, -, -, ha, hb, e1, e2, hab, hbt⟩ := clOf_form hf
  refine ⟨?_, hab, ha, hb, e1, e2⟩
  rw [cnt3_V, if_pos]
  refine ⟨hv, ha, hb, ?_⟩
  rw [clOf_at ha hb, if_pos ⟨e1, e2, hab⟩]
  have hv1 : c.1 < T1.length := by omega
  have hv2 : c.1 < T2.length := by omega
  have x1 : T1.getD c.1 [] = T1[c.1] := by rw [List.getD_eq_getElem?_getD, List.getElem?_eq_getElem hv1]; rfl
  have x2 : T2.getD c.1 [] = T2[c.1] := by rw [List.getD_eq_getElem?_getD, List.getElem?_eq_getElem hv2]; rfl
  rw [x2] at hbt
  obtain ⟨look, q1, q2⟩ := (both_some (fun k => (h2.ok hg (by decide) k).2) (t2 c.1 _ (List.getElem?_eq_getElem hv2)) (Nat.ne_of_lt hab)).1 ⟨_, hbt⟩
  obtain ⟨l, hl⟩ := (both_some (fun k => (h1.ok hg (by decide) k).2) (t1 c.1 _ (List.getElem?_eq_getElem hv1)) (Nat.ne_of_lt hab)).2 ⟨look.take 1, ⟨q1.1, q1.2.1, more_look h1 h2 q1.1 q1.2.2⟩, ⟨q2.1, q2.2.1, more_look h1 h2 q2.1 q2.2.2⟩⟩
  rw [x1, hl]
  rfl
theorem more_clear (hg : GoodW g) (h1 : GoodSets 1 n1 g s1 F1 Fo1 W1) (h2 : GoodSets 2 n2 g s2 F2 Fo2 W2) (t1 : TOf (addsOf 1 g F1 Fo1 g.rules.length) T1) (t2 : TOf (addsOf 2 g F2 Fo2 g.rules.length) T2) (l1 : T1.length = g.vars.length) (l2 : T2.length = g.vars.length) {v : Nat} (hv : v < g.vars.length) (hc : clearT (T1.getD v []) = true) : clearT (T2.getD v []) = true := by
  have hv1 : v < T1.length := by omega
  have hv2 : v < T2.length := by omega
  have x1 : T1.getD v [] = T1[v] := by rw [List.getD_eq_getElem?_getD, List.getElem?_eq_getElem hv1]; rfl
  have x2 : T2.getD v [] = T2[v] := by rw [List.getD_eq_getElem?_getD, List.getElem?_eq_getElem hv2]; rfl
  rw [x1] at hc
  rw [x2, clear_iff (fun k => (h2.ok hg (by decide) k).2) (t2 v _ (List.getElem?_eq_getElem hv2))]
  intro look a b q1 q2
  exact (clear_iff (fun k => (h1.ok hg (by decide) k).2) (t1 v _ (List.getElem?_eq_getElem hv1))).1 hc (look.take 1) a b ⟨q1.1, q1.2.1, more_look h1 h2 q1.1 q1.2.2⟩ ⟨q2.1, q2.2.1, more_look h1 h2 q2.1 q2.2.2⟩
end
/-- One more of the clashes counted. -/
theorem cnt3_take {L : List ClD} {j : Nat} (h : j < L.length) (v a b : Nat) : cnt3 (L.take (j + 1)) v a b = cnt3 (L.take j) v a b + if L[j].1 = v ∧ L[j].2.1 = a ∧ L[j].2.2.1 = b then 1 else 0 := by
  rw [List.take_succ_eq_append_getElem h, cnt3_app]
  congr 1
  unfold cnt3
  by_cases hh : L[j].1 = v ∧ L[j].2.1 = a ∧ L[j].2.2.1 = b
  · rw [if_pos hh, List.filter_cons_of_pos (by simpa using hh)]; rfl
  · rw [if_neg hh, List.filter_cons_of_neg (by simpa using hh)]; rfl
theorem cnt3_le (L : List ClD) (v a b : Nat) : cnt3 L v a b ≤ L.length := List.length_filter_le _ _
end Go.Proofs.Ytmiiolgbjicocaa
