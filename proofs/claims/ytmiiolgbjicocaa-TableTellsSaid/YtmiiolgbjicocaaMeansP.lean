/- At each step of a derivation what comes next means its rule. Plain. -/
import Derived.Test.YtmiiolgbjicocaaDerW
import Derived.Test.YtmiiolgbjicocaaTFrame
namespace Go.Proofs.Ytmiiolgbjicocaa
open Go.RowKit Dv
/-- What symbols become. -/
inductive FormD (R : Rls) : List Int → List Int → Prop
  | nil : FormD R [] []
  | term {s : Int} {f u : List Int} : s < 0 → FormD R f u → FormD R (s :: f) ((-s - 1) :: u)
  | var {s : Int} {right f u1 u2 : List Int} : 0 ≤ s → (s.toNat, right) ∈ R → FormD R right u1 → FormD R f u2 → FormD R (s :: f) (u1 ++ u2)
section
variable {R : Rls}
theorem FormD.app {a b u v : List Int} (h : FormD R a u) (k : FormD R b v) : FormD R (a ++ b) (u ++ v) := by
  induction h with
  | nil => exact k
  | term h0 _ ih => exact .term h0 ih
  | var h0 hr h1 _ _ ih => rw [List.append_assoc]; exact .var h0 hr h1 ih
theorem FormD.split : ∀ {a b u : List Int}, FormD R (a ++ b) u → ∃ u1 u2, u = u1 ++ u2 ∧ FormD R a u1 ∧ FormD R b u2
  | [], b, u, h => ⟨[], u, rfl, .nil, h⟩
  | s :: a, b, u, h => by
    rw [List.cons_append] at h
    cases h with
    | term h0 h1 =>
      obtain ⟨u1, u2, rfl, h2, h3⟩ := FormD.split h1
      exact ⟨_ :: u1, u2, rfl, .term h0 h2, h3⟩
    | var h0 hr h1 h4 =>
      obtain ⟨u1, u2, rfl, h2, h3⟩ := FormD.split h4
      exact ⟨_ ++ u1, u2, by rw [List.append_assoc], .var h0 hr h1 h2, h3⟩
theorem FormD.terms : ∀ {f u : List Int}, FormD R f u → (∀ s ∈ f, s < 0) → u = f.map (fun s => -s - 1)
  | _, _, .nil, _ => rfl
  | _, _, .term h0 h1, h => by rw [List.map_cons, ← FormD.terms h1 (fun s hs => h s (by simp [hs]))]
  | _, _, .var (s := s) h0 _ _ _, h => by have := h s (by simp); omega
theorem formD_terms : ∀ {f : List Int}, (∀ s ∈ f, s < 0) → FormD R f (f.map (fun s => -s - 1))
  | [], _ => .nil
  | s :: f, h => .term (h s (by simp)) (formD_terms (fun s hs => h s (by simp [hs])))
variable {K : Int} {C D : Nat → List Int → Prop}
theorem cut_cut (a b : List Int) (K : Int) : joinL (cutL a K) (cutL b K) K = cutL (a ++ b) K := by
  unfold joinL cutL
  generalize K.toNat = n
  have e : n - (a.take n).length = n - a.length := by rw [List.length_take]; omega
  rw [List.take_append, e, List.take_take, List.take_take, Nat.min_self, Nat.min_eq_left (by omega), List.take_append]
theorem cut_one (x : Int) (b : List Int) (K : Int) : joinL [x] (cutL b K) K = cutL (x :: b) K := by
  unfold joinL cutL
  cases K.toNat with
  | zero => rfl
  | succ n =>
    simp only [List.cons_append, List.nil_append, List.take_succ_cons, List.take_take]
    rw [Nat.min_eq_left (by omega)]
theorem cut_nil (b : List Int) (K : Int) : joinL (cutL b K) [] K = cutL b K := by
  unfold joinL cutL
  rw [List.append_nil, List.take_take, Nat.min_self]
/-- What symbols become is among their beginnings. -/
theorem FormD.ahead (hC : ClosedF K R C) {f u : List Int} (h : FormD R f u) : ∀ {T : List Int → Prop} {v : List Int}, T (cutL v K) → aheadP K C f T (cutL (u ++ v) K) := by
  induction h with
  | nil => intro T v hv; exact ⟨_, hv, cut_nil v K⟩
  | term h0 _ ih =>
    intro T v hv
    exact ⟨[_], by unfold xP; rw [if_neg (by omega)], _, ih hv, cut_one _ _ _⟩
  | var h0 hr h1 _ ih1 ih2 =>
    intro T v hv
    refine ⟨_, ?_, _, ih2 hv, by rw [List.append_assoc]; exact cut_cut _ _ _⟩
    unfold xP
    rw [if_pos h0]
    have := ih1 (T := (· = [])) (v := []) (by unfold cutL; simp)
    rw [List.append_nil] at this
    exact hC _ hr _ this
theorem FormD.tail (hC : ClosedF K R C) {T : List Int → Prop} {v : List Int} (hv : T (cutL v K)) : ∀ {f u : List Int}, FormD R f u → tailP K C T f (cutL (u ++ v) K)
  | [], u, h => by
    cases h
    exact hv
  | s :: f, u, h => by
    obtain ⟨u1, u2, rfl, h1, h2⟩ := FormD.split (a := [s]) h
    rw [List.append_assoc]
    exact h1.ahead hC (FormD.tail hC hv h2)
/-- What may come behind each variable of a form. -/
def InvD (R : Rls) (K : Int) (D : Nat → List Int → Prop) (f : List Int) : Prop := ∀ a X b, f = a ++ X :: b → 0 ≤ X → ∀ u, FormD R b u → D X.toNat (cutL u K)
theorem invD_start (hD : ClosedD K R C D) : InvD R K D [0] := fun a X b h h0 u hu => by
  cases a with
  | nil =>
    injection h with h1 h2
    subst h1 h2
    cases hu
    show D 0 (cutL [] K)
    unfold cutL
    rw [List.take_nil]
    exact hD.1
  | cons y a =>
    injection h with _ h2
    cases a <;> cases h2
theorem InvD.step (hC : ClosedF K R C) (hD : ClosedD K R C D) {a rest right : List Int} {X : Int} (h0 : 0 ≤ X) (hr : (X.toNat, right) ∈ R) (ha : ∀ s ∈ a, s < 0) (h : InvD R K D (a ++ X :: rest)) : InvD R K D (a ++ right ++ rest) := fun a' Y b e hY u hu => by
  rw [List.append_assoc] at e
  have key : ∀ c, a' = a ++ c → right ++ rest = c ++ Y :: b → D Y.toNat (cutL u K) := fun c hc0 hc => by
    subst hc0
    rcases List.append_eq_append_iff.1 hc with ⟨d, rfl, hd⟩ | ⟨d, hd1, hd⟩
    · exact h (a ++ X :: d) Y b (by rw [hd]; simp) hY u hu
    · cases d with
      | nil =>
        rw [List.nil_append] at hd
        rw [← hd] at h
        exact h (a ++ [X]) Y b (by simp) hY u hu
      | cons y d =>
        injection hd with hd2 hd3
        subst hd2 hd3
        obtain ⟨u1, u2, rfl, q1, q2⟩ := FormD.split hu
        have q3 := h a X rest rfl h0 u2 q2
        refine hD.2 _ hr c.length Y ?_ hY _ ?_
        · show right[c.length]? = some Y
          rw [hd1, List.getElem?_append_right (Nat.le_refl _), Nat.sub_self]
          rfl
        · have e3 : right.drop (c.length + 1) = d := by
            rw [hd1, List.drop_append, List.drop_of_length_le (by omega), Nat.add_sub_cancel_left]
            rfl
          show tailP K C (D X.toNat) (right.drop (c.length + 1)) _
          rw [e3]
          exact FormD.tail hC q3 q1
  rcases List.append_eq_append_iff.1 e with ⟨c, hc0, hc⟩ | ⟨c, hc0, hc⟩
  · exact key c hc0 hc
  · cases c with
    | nil => exact key [] (by rw [hc0]; simp) (by rw [hc]; rfl)
    | cons y c =>
      injection hc with hc1 hc2
      have := ha Y (by rw [hc0, hc1]; simp)
      omega
end
/-- What a step that can be done is. -/
theorem step_ok {g : GramD} {form : List Int} {r : Int} {f' : List Int} (h : stepS g form r = (f', 0)) : ∃ (k : Nat) (hk : k < g.rules.length) (hf : firstV form < form.length), r = k ∧ form[firstV form] = g.rules[k].left ∧ 0 ≤ form[firstV form] ∧ f' = form.take (firstV form) ++ g.rules[k].right ++ form.drop (firstV form + 1) := by
  unfold stepS at h
  split at h
  · simp at h
  · rename_i h1
    split at h
    · rename_i h2
      split at h
      · rename_i h3
        injection h with h4 h5
        refine ⟨r.toNat, h2.2, h2.1, by omega, h3, ?_, h4.symm⟩
        have := List.findIdx_getElem (w := by show firstV form < _; exact h2.1) (p := isv) (xs := form)
        simpa [isv, firstV] using this
      · simp at h
    · simp at h
theorem lead_terms (form : List Int) : ∀ s ∈ form.take (firstV form), s < 0 := head_terms form
/-- Symbols that have names. -/
def Rng (f : List Int) : Prop := ∀ s ∈ f, s < 0 → -9223372036854775808 ≤ s
theorem lead_map {form : List Int} (h : Rng form) : leadL form = (form.take (firstV form)).map (fun s => -s - 1) := by
  unfold leadL
  refine List.map_congr_left (fun s hs => ?_)
  have h1 := lead_terms form s hs
  have h2 := h s (List.mem_of_mem_take hs) h1
  exact nt_val ⟨h2, by omega⟩
theorem split_at {form : List Int} (hf : firstV form < form.length) : form = form.take (firstV form) ++ form[firstV form] :: form.drop (firstV form + 1) := by
  rw [← List.drop_eq_getElem_cons hf, List.take_append_drop]
section
variable {g : GramD} {K : Int} {C D : Nat → List Int → Prop} (hC : ClosedF K (rulesOf g) C) (hD : ClosedD K (rulesOf g) C D) (hrg : ∀ k (h : k < g.rules.length), Rng g.rules[k].right)
include hC hD hrg
/-- A derivation that ends: what comes next means each step's rule. -/
theorem means_all : ∀ (rules form : List Int) (k : Nat) {fe : List Int}, InvD (rulesOf g) K D form → Rng form → repS g form k rules = (fe, 0, 0) → fe.length ≤ firstV fe →
    FormD (rulesOf g) form (leadL fe) ∧ ∀ (at_ : Nat) (h : at_ < rules.length), ∃ f : List Int, repS g form k (rules.take at_) = (f, 0, 0) ∧ ∃ (r : Nat) (hr : r < g.rules.length), rules[at_] = r ∧ 0 ≤ g.rules[r].left ∧ (leadL f).length ≤ (leadL fe).length ∧ aheadP K C g.rules[r].right (D g.rules[r].left.toNat) (cutL ((leadL fe).drop (leadL f).length) K)
  | [], form, k, fe, _, hrn, h, hte => by
    unfold repS at h
    injection h with h
    subst h
    refine ⟨?_, fun a h => by simp at h⟩
    rw [lead_map hrn]
    have e : form.take (firstV form) = form := List.take_of_length_le hte
    rw [e]
    exact formD_terms (fun s hs => by have := lead_terms form s (by rw [e]; exact hs); exact this)
  | r :: rs, form, k, fe, hinv, hrn, h, hte => by
    unfold repS at h
    split at h
    · rename_i hz
      obtain ⟨f', hf'⟩ : ∃ f', stepS g form r = (f', 0) := ⟨(stepS g form r).1, by rw [← hz]⟩
      rw [hf'] at h
      obtain ⟨kr, hkr, hfl, rfl, hleft, h0, hfe⟩ := step_ok hf'
      have hmem : (form[firstV form].toNat, g.rules[kr].right) ∈ rulesOf g := by
        rw [hleft]
        exact List.mem_of_getElem? (rulesOf_at hkr)
      have hsp := split_at hfl
      have hinv' : InvD (rulesOf g) K D f' := by
        rw [hfe]
        exact InvD.step hC hD h0 hmem (lead_terms form) (by rw [← hsp]; exact hinv)
      have hrn' : Rng f' := fun s hs => by
        rw [hfe] at hs
        rcases List.mem_append.1 hs with hs | hs
        · rcases List.mem_append.1 hs with hs | hs
          · exact hrn s (List.mem_of_mem_take hs)
          · exact hrg kr hkr s hs
        · exact hrn s (List.mem_of_mem_drop hs)
      obtain ⟨q1, q2⟩ := means_all rs f' (k + 1) hinv' hrn' h hte
      have q3 := q1
      rw [hfe] at q3
      obtain ⟨u12, u3, e1, q4, q5⟩ := FormD.split q3
      obtain ⟨u1, u2, e2, q6, q7⟩ := FormD.split q4
      have e3 := q6.terms (lead_terms form)
      rw [← lead_map hrn] at e3
      refine ⟨?_, fun a ha => ?_⟩
      · rw [e1, e2, hsp]
        have := q6.app (FormD.var h0 hmem q7 q5)
        rw [← List.append_assoc] at this
        exact this
      · cases a with
        | zero =>
          refine ⟨form, rfl, kr, hkr, rfl, by rw [← hleft]; exact h0, ?_, ?_⟩
          · rw [e1, e2, e3]; simp
          · have e4 : (leadL fe).drop (leadL form).length = u2 ++ u3 := by
              rw [e1, e2, e3, List.append_assoc, List.drop_left]
            rw [e4]
            refine q7.ahead hC (T := D g.rules[kr].left.toNat) (v := u3) ?_
            rw [← hleft]
            exact hinv _ _ _ hsp h0 u3 q5
        | succ a =>
          obtain ⟨f, hf, rest⟩ := q2 a (by simpa using ha)
          refine ⟨f, ?_, by simpa using rest⟩
          rw [List.take_succ_cons]
          unfold repS
          rw [hf', if_pos rfl]
          exact hf
    · rename_i hz
      injection h with _ h
      injection h with _ h
      exact absurd h hz
end
end Go.Proofs.Ytmiiolgbjicocaa
