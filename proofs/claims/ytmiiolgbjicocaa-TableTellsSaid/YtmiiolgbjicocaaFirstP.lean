/- What grammars' words begin with, and what may follow, in plain lists. It speaks of no program. -/
import Derived.Test.YtmiiolgbjicocaaS4
namespace Go.Proofs.Ytmiiolgbjicocaa
abbrev Wds := List (List Int)
abbrev Rls := List (Nat × List Int)
/-- What a symbol begins with. -/
def xOf (F : List Wds) (s : Int) : Wds := if 0 ≤ s then F.getD s.toNat [] else [[-s - 1]]
def aheadL (k : Int) (F : List Wds) : List Int → Wds → Wds
  | [], T => timesL T [[]] k
  | s :: f, T => timesL (xOf F s) (aheadL k F f T) k
def tailL (k : Int) (F : List Wds) (T : Wds) : List Int → Wds
  | [] => T
  | s :: f => aheadL k F [s] (tailL k F T f)
def xP (C : Nat → List Int → Prop) (s : Int) (w : List Int) : Prop := if 0 ≤ s then C s.toNat w else w = [-s - 1]
def aheadP (k : Int) (C : Nat → List Int → Prop) : List Int → (List Int → Prop) → List Int → Prop
  | [], T, w => ∃ t, T t ∧ joinL t [] k = w
  | s :: f, T, w => ∃ a, xP C s a ∧ ∃ b, aheadP k C f T b ∧ joinL a b k = w
def tailP (k : Int) (C : Nat → List Int → Prop) (T : List Int → Prop) : List Int → List Int → Prop
  | [], w => T w
  | s :: f, w => aheadP k C [s] (tailP k C T f) w
def memF (F : List Wds) (v : Nat) (w : List Int) : Prop := w ∈ F.getD v []
theorem mem_xOf {F : List Wds} {s : Int} {w : List Int} : w ∈ xOf F s ↔ xP (memF F) s w := by
  unfold xOf xP memF
  by_cases h : 0 ≤ s
  · rw [if_pos h, if_pos h]
  · rw [if_neg h, if_neg h]; simp
theorem mem_ahead {k : Int} {F : List Wds} : ∀ {f : List Int} {T : Wds} {w : List Int}, w ∈ aheadL k F f T ↔ aheadP k (memF F) f (· ∈ T) w
  | [], T, w => by
    rw [aheadL, mem_timesL, aheadP]
    constructor
    · rintro ⟨a, ha, b, hb, rfl⟩
      obtain rfl : b = [] := by simpa using hb
      exact ⟨a, ha, rfl⟩
    · rintro ⟨t, ht, rfl⟩
      exact ⟨t, ht, [], by simp, rfl⟩
  | s :: f, T, w => by
    rw [aheadL, mem_timesL, aheadP]
    constructor
    · rintro ⟨a, ha, b, hb, rfl⟩
      exact ⟨a, mem_xOf.1 ha, b, mem_ahead.1 hb, rfl⟩
    · rintro ⟨a, ha, b, hb, rfl⟩
      exact ⟨a, mem_xOf.2 ha, b, mem_ahead.2 hb, rfl⟩
theorem aheadP_mono {k : Int} {C C' : Nat → List Int → Prop} (hC : ∀ v w, C v w → C' v w) : ∀ {f : List Int} {T T' : List Int → Prop} (_ : ∀ w, T w → T' w) {w : List Int}, aheadP k C f T w → aheadP k C' f T' w
  | [], T, T', hT, w, h => by
    obtain ⟨t, ht, h⟩ := h
    exact ⟨t, hT t ht, h⟩
  | s :: f, T, T', hT, w, h => by
    obtain ⟨a, ha, b, hb, h⟩ := h
    refine ⟨a, ?_, b, aheadP_mono hC hT hb, h⟩
    unfold xP at *
    split
    · rename_i h0; rw [if_pos h0] at ha; exact hC _ _ ha
    · rename_i h0; rw [if_neg h0] at ha; exact ha
theorem mem_tail {k : Int} {F : List Wds} {T : Wds} : ∀ {f : List Int} {w : List Int}, w ∈ tailL k F T f ↔ tailP k (memF F) (· ∈ T) f w
  | [], w => Iff.rfl
  | s :: f, w => by
    rw [tailL, tailP, mem_ahead]
    exact ⟨fun h => aheadP_mono (fun _ _ h => h) (fun _ h => mem_tail.1 h) h, fun h => aheadP_mono (fun _ _ h => h) (fun _ h => mem_tail.2 h) h⟩
theorem tailP_mono {k : Int} {C C' : Nat → List Int → Prop} (hC : ∀ v w, C v w → C' v w) {T T' : List Int → Prop} (hT : ∀ w, T w → T' w) : ∀ {f : List Int} {w : List Int}, tailP k C T f w → tailP k C' T' f w
  | [], w, h => hT w h
  | _ :: _, _, h => aheadP_mono hC (fun _ h => tailP_mono hC hT h) h
def ClosedF (k : Int) (R : Rls) (C : Nat → List Int → Prop) : Prop := ∀ r ∈ R, ∀ w, aheadP k C r.2 (· = []) w → C r.1 w
def ClosedD (k : Int) (R : Rls) (C D : Nat → List Int → Prop) : Prop :=
  D 0 [] ∧ ∀ r ∈ R, ∀ (i : Nat) (x : Int), r.2[i]? = some x → 0 ≤ x → ∀ w, tailP k C (D r.1) (r.2.drop (i + 1)) w → D x.toNat w
/-- Sets of words, of which all belong to each system that is closed. -/
structure SysF (k : Int) (R : Rls) (nv : Nat) (F : List Wds) : Prop where
  len : F.length = nv
  sorted : ∀ v, Sorted (F.getD v [])
  least : ∀ C, ClosedF k R C → ∀ v w, memF F v w → C v w
structure SysD (k : Int) (R : Rls) (nv : Nat) (Fo : List Wds) : Prop where
  len : Fo.length = nv
  sorted : ∀ v, Sorted (Fo.getD v [])
  least : ∀ C D, ClosedF k R C → ClosedD k R C D → ∀ v w, memF Fo v w → D v w
def takeL (A B : Wds) : Wds := B.foldl rAdd A
theorem mem_takeL {A B : Wds} {w : List Int} : w ∈ takeL A B ↔ w ∈ A ∨ w ∈ B := foldl_mem _ _ _
theorem getD_set {F : List Wds} {v u : Nat} {L : Wds} (hv : v < F.length) : (F.set v L).getD u [] = if u = v then L else F.getD u [] := by
  rw [List.getD_eq_getElem?_getD, List.getD_eq_getElem?_getD, List.getElem?_set]
  by_cases h : v = u
  · subst h
    simp [hv]
  · rw [if_neg h, if_neg (fun e => h e.symm)]
theorem memF_set {F : List Wds} {v u : Nat} {B : Wds} (hv : v < F.length) {w : List Int} : memF (F.set v (takeL (F.getD v []) B)) u w ↔ memF F u w ∨ (u = v ∧ w ∈ B) := by
  unfold memF
  rw [getD_set hv]
  by_cases h : u = v
  · subst h
    rw [if_pos rfl, mem_takeL]
    simp
  · rw [if_neg h]
    simp [h]
theorem sorted_set {F : List Wds} {v : Nat} {B : Wds} (hv : v < F.length) (hs : ∀ v, Sorted (F.getD v [])) : ∀ u, Sorted ((F.set v (takeL (F.getD v []) B)).getD u []) := fun u => by
  rw [getD_set hv]
  split
  · exact foldl_sorted _ _ (hs v)
  · exact hs u
theorem SysF.step {k : Int} {R : Rls} {nv : Nat} {F : List Wds} (h : SysF k R nv F) {r : Nat × List Int} (hr : r ∈ R) (hv : r.1 < nv) : SysF k R nv (F.set r.1 (takeL (F.getD r.1 []) (aheadL k F r.2 [[]]))) := by
  have hl : r.1 < F.length := by rw [h.len]; exact hv
  refine ⟨by rw [List.length_set, h.len], sorted_set hl h.sorted, fun C hC v w hw => ?_⟩
  rcases (memF_set hl).1 hw with h1 | ⟨rfl, h1⟩
  · exact h.least C hC v w h1
  · exact hC r hr w (aheadP_mono (h.least C hC) (fun w h => by simpa using h) (mem_ahead.1 h1))
theorem SysD.first {k : Int} {R : Rls} {nv : Nat} {Fo : List Wds} (h : SysD k R nv Fo) (hv : 0 < nv) : SysD k R nv (Fo.set 0 (takeL (Fo.getD 0 []) [[]])) := by
  have hl : 0 < Fo.length := by rw [h.len]; exact hv
  refine ⟨by rw [List.length_set, h.len], sorted_set hl h.sorted, fun C D hC hD v w hw => ?_⟩
  rcases (memF_set hl).1 hw with h1 | ⟨rfl, h1⟩
  · exact h.least C D hC hD v w h1
  · obtain rfl : w = [] := by simpa using h1
    exact hD.1
theorem SysD.step {k : Int} {R : Rls} {nv : Nat} {F Fo : List Wds} (h : SysD k R nv Fo) (hF : SysF k R nv F) {r : Nat × List Int} (hr : r ∈ R) {i : Nat} {x : Int} (hx : r.2[i]? = some x) (h0 : 0 ≤ x) (hv : x.toNat < nv) {B : Wds}
    (hB : ∀ w ∈ B, tailP k (memF F) (memF Fo r.1) (r.2.drop (i + 1)) w) : SysD k R nv (Fo.set x.toNat (takeL (Fo.getD x.toNat []) B)) := by
  have hl : x.toNat < Fo.length := by rw [h.len]; exact hv
  refine ⟨by rw [List.length_set, h.len], sorted_set hl h.sorted, fun C D hC hD v w hw => ?_⟩
  rcases (memF_set hl).1 hw with h1 | ⟨rfl, h1⟩
  · exact h.least C D hC hD v w h1
  · exact hD.2 r hr i x hx h0 w (tailP_mono (hF.least C hC) (h.least C D hC hD r.1) (hB w h1))
theorem sysF_nil (k : Int) (R : Rls) (nv : Nat) : SysF k R nv (List.replicate nv []) := by
  have h : ∀ v, (List.replicate nv ([] : Wds)).getD v [] = [] := fun v => by
    rw [List.getD_eq_getElem?_getD, List.getElem?_replicate]
    split <;> rfl
  exact ⟨by simp, fun v => by rw [h]; exact fun i j a b _ h _ => by simp at h, fun C _ v w hw => by unfold memF at hw; rw [h] at hw; cases hw⟩
theorem sysD_nil (k : Int) (R : Rls) (nv : Nat) : SysD k R nv (List.replicate nv []) :=
  ⟨(sysF_nil k R nv).len, (sysF_nil k R nv).sorted, fun C D _ _ v w hw => by
    have h : (List.replicate nv ([] : Wds)).getD v [] = [] := by
      rw [List.getD_eq_getElem?_getD, List.getElem?_replicate]
      split <;> rfl
    unfold memF at hw; rw [h] at hw; cases hw⟩
/-- All words of some sets. -/
def wordsN (F : List Wds) : Nat := (F.map List.length).sum
theorem wordsN_set : ∀ {F : List Wds} {v : Nat} {L : Wds}, v < F.length → wordsN (F.set v L) + (F.getD v []).length = wordsN F + L.length
  | [], v, L, h => by simp at h
  | A :: F, 0, L, h => by simp [wordsN]; omega
  | A :: F, v + 1, L, h => by
    have ih := wordsN_set (F := F) (v := v) (L := L) (by simpa using h)
    simp only [wordsN, List.set_cons_succ, List.map_cons, List.sum_cons, List.getD_cons_succ] at ih ⊢
    omega
theorem takeL_len (A B : Wds) : A.length ≤ (takeL A B).length := by
  have h : ∀ (Bs L : Wds), L.length ≤ (Bs.foldl rAdd L).length := fun Bs => by
    induction Bs with
    | nil => intro L; exact Nat.le_refl _
    | cons b t ih =>
      intro L
      rw [List.foldl_cons]
      refine Nat.le_trans ?_ (ih _)
      by_cases hb : b ∈ L
      · unfold rAdd; rw [if_pos hb]; exact Nat.le_refl _
      · rw [rAdd_new hb]; omega
  exact h _ _
/-- Nothing new: all were in. -/
theorem takeL_same : ∀ {A B : Wds}, (takeL A B).length = A.length → ∀ w ∈ B, w ∈ A
  | A, [], _, w, hw => by cases hw
  | A, b :: t, h, w, hw => by
    have h1 := takeL_len (rAdd A b) t
    have e : takeL A (b :: t) = takeL (rAdd A b) t := rfl
    rw [e] at h
    by_cases hb : b ∈ A
    · have hr : rAdd A b = A := by unfold rAdd; rw [if_pos hb]
      rw [hr] at h
      rcases List.mem_cons.1 hw with rfl | hw
      · exact hb
      · exact takeL_same h w hw
    · rw [rAdd_new hb] at h1; omega
theorem takeL_id : ∀ {A B : Wds}, (∀ w ∈ B, w ∈ A) → takeL A B = A
  | A, [], _ => rfl
  | A, b :: t, h => by
    have hr : rAdd A b = A := by unfold rAdd; rw [if_pos (h b (by simp))]
    show takeL (rAdd A b) t = A
    rw [hr]
    exact takeL_id (fun w hw => h w (by simp [hw]))
theorem set_same {F : List Wds} {v : Nat} (hv : v < F.length) : F.set v (F.getD v []) = F := by
  rw [List.getD_eq_getElem?_getD, List.getElem?_eq_getElem hv]
  simp
end Go.Proofs.Ytmiiolgbjicocaa
