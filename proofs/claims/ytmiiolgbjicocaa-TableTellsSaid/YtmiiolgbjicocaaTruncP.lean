/- What is told by two terminals, cut to one, is told by one. Plain. -/
import Derived.Test.YtmiiolgbjicocaaFirstP
namespace Go.Proofs.Ytmiiolgbjicocaa
theorem take1_join (a b : List Int) : (joinL a b 2).take 1 = joinL (a.take 1) (b.take 1) 1 := by
  unfold joinL
  cases a with
  | nil => cases b <;> simp
  | cons x a => simp
theorem xP_trunc {C2 C1 : Nat → List Int → Prop} (hC : ∀ v w, C2 v w → C1 v (w.take 1)) {s : Int} {w : List Int} (h : xP C2 s w) : xP C1 s (w.take 1) := by
  unfold xP at *
  split
  · rename_i h0; rw [if_pos h0] at h; exact hC _ _ h
  · rename_i h0; rw [if_neg h0] at h; rw [h]; rfl
theorem aheadP_trunc {C2 C1 : Nat → List Int → Prop} (hC : ∀ v w, C2 v w → C1 v (w.take 1)) : ∀ {f : List Int} {T2 T1 : List Int → Prop} (_ : ∀ w, T2 w → T1 (w.take 1)) {w : List Int}, aheadP 2 C2 f T2 w → aheadP 1 C1 f T1 (w.take 1)
  | [], T2, T1, hT, w, h => by
    obtain ⟨t, ht, rfl⟩ := h
    exact ⟨t.take 1, hT t ht, (take1_join t []).symm⟩
  | s :: f, T2, T1, hT, w, h => by
    obtain ⟨a, ha, b, hb, rfl⟩ := h
    exact ⟨a.take 1, xP_trunc hC ha, b.take 1, aheadP_trunc hC hT hb, (take1_join a b).symm⟩
theorem tailP_trunc {C2 C1 : Nat → List Int → Prop} (hC : ∀ v w, C2 v w → C1 v (w.take 1)) {T2 T1 : List Int → Prop} (hT : ∀ w, T2 w → T1 (w.take 1)) : ∀ {f : List Int} {w : List Int}, tailP 2 C2 T2 f w → tailP 1 C1 T1 f (w.take 1)
  | [], w, h => hT w h
  | _ :: _, _, h => aheadP_trunc hC (fun _ h => tailP_trunc hC hT h) h
theorem trunc_F {R : Rls} {nv : Nat} {F1 F2 : List Wds} (h2 : SysF 2 R nv F2) (h1 : ClosedF 1 R (memF F1)) : ∀ v w, memF F2 v w → memF F1 v (w.take 1) :=
  h2.least (fun v w => memF F1 v (w.take 1)) (fun r hr w hw => h1 r hr _ (aheadP_trunc (fun _ _ h => h) (fun w e => by rw [e]; rfl) hw))
theorem trunc_D {R : Rls} {nv : Nat} {F1 Fo1 Fo2 : List Wds} (h2 : SysD 2 R nv Fo2) (h1 : ClosedF 1 R (memF F1)) (h3 : ClosedD 1 R (memF F1) (memF Fo1)) : ∀ v w, memF Fo2 v w → memF Fo1 v (w.take 1) :=
  h2.least (fun v w => memF F1 v (w.take 1)) (fun v w => memF Fo1 v (w.take 1)) (fun r hr w hw => h1 r hr _ (aheadP_trunc (fun _ _ h => h) (fun w e => by rw [e]; rfl) hw))
    ⟨h3.1, fun r hr i x hx h0 w hw => h3.2 r hr i x hx h0 _ (tailP_trunc (fun _ _ h => h) (fun _ h => h) hw)⟩
/-- And of what may come where a rule is to be taken. -/
theorem trunc_look {R : Rls} {nv : Nat} {F1 Fo1 F2 Fo2 : List Wds} (hF2 : SysF 2 R nv F2) (hD2 : SysD 2 R nv Fo2) (h1 : ClosedF 1 R (memF F1)) (h3 : ClosedD 1 R (memF F1) (memF Fo1)) (f : List Int) (v : Nat) {w : List Int} (hw : w ∈ aheadL 2 F2 f (Fo2.getD v [])) : w.take 1 ∈ aheadL 1 F1 f (Fo1.getD v []) :=
  mem_ahead.2 (aheadP_trunc (trunc_F hF2 h1) (fun w h => trunc_D hD2 h1 h3 v w h) (mem_ahead.1 hw))
end Go.Proofs.Ytmiiolgbjicocaa
