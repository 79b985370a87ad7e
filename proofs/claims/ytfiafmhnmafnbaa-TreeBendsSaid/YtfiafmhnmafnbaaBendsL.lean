/- What a store into a node leaves. -/
import Derived.Test.YtfiafmhnmafnbaaSubsV
namespace Go.Proofs.Ytfiafmhnmafnbaa
open Go.RowKit
theorem box_set {w W : World} {g : GramD} (h : Box w g W) {xb k : Nat} (hx : w.heap.size < xb) (u : Value) : Box w g (W.setCell ⟨xb, k, none⟩ u) :=
  Boxed.next1 h (Nat.le_refl _) ((Below.refl _ _).setCell (p := ⟨xb, k, none⟩) hx _)
theorem grow_n (w : World) (n : Nat) : Grow w (w.drewN n) := ⟨rfl, rfl, rfl, Nat.le_refl _, fun _ _ => rfl⟩
theorem tre_set {W : World} {lo xb : Nat} {xv : Value} {xs xr : Int} {xk : List MT} {t : MT} (h : Tre lo W t) (hx : MT.node xb xv xs xr xk ∈ t.subs) (r' : Int) : Tre lo (W.setCell ⟨xb, 1, none⟩ (.int .i64 r')) (t.setR xb r') :=
  MT.At.setR ((show MT.At W lo t from h).sub hx).2.1 r' h
theorem setR_sub {t x : MT} {xb : Nat} {r' : Int} (hx : x ∈ t.subs) : x.setR xb r' ∈ (t.setR xb r').subs := by
  induction t using MT.ind with | h b v s r kids ih => ?_
  rw [MT.setR, MT.setRL_map]
  rcases MT.mem_subs.1 hx with rfl | ⟨k, hk, hx⟩
  · rw [MT.setR, MT.setRL_map]
    exact MT.mem_subs.2 (.inl rfl)
  · exact MT.mem_subs.2 (.inr ⟨k.setR xb r', List.mem_map_of_mem hk, ih k hk hx⟩)
theorem tre_restore {W : World} {lo xb : Nat} {xv : Value} {xs xr : Int} {xk : List MT} {t : MT} {r' : Int} (h : Tre lo W (t.setR xb r')) (hnd : t.blocks.Nodup) (hx : MT.node xb xv xs xr xk ∈ t.subs) : Tre lo (W.setCell ⟨xb, 1, none⟩ (.int .i64 xr)) t := by
  have h1 := ((show MT.At W lo (t.setR xb r') from h).sub (setR_sub (xb := xb) (r' := r') hx))
  have h2 := MT.At.setR h1.2.1 xr h
  rw [show (t.setR xb r').setR xb xr = t from setR_restore (x := .node xb xv xs xr xk) hnd hx] at h2
  exact h2
theorem tre_add {W w3 : World} {lo xb : Nat} {ka : Option Addr} {kc : Nat} {xs xr : Int} {xk : List MT} {t : MT} (h : Tre lo W t) (hnd : t.blocks.Nodup) (hx : MT.node xb (.slice ka xk.length kc) xs xr xk ∈ t.subs) (hlo : lo ≤ W.heap.size) {gg cap : Nat}
    (hgr : ((W.alloc (.cells #[.int .i64 0, .int .i64 (-1), .slice none 0 0] 45)).alloc (.cells #[.pointer (some ⟨W.heap.size, 0, none⟩)] 29)).grownBy w3 (Value.slice ka xk.length kc).ownBlock)
    (hrow : w3.ownsRow lo 29 1 (.slice (some ⟨gg, 0, none⟩) (xk.length + 1) cap) (xk.length + 1) (xk.map MT.ptr ++ [.pointer (some ⟨W.heap.size, 0, none⟩)]))
    (hat : (Value.slice ka xk.length kc).ownBlock = some gg ∨ gg = W.heap.size + 2) :
    Tre lo (w3.setCell ⟨xb, 2, none⟩ (.slice (some ⟨gg, 0, none⟩) (xk.length + 1) cap)) (MT.addK xb (.slice (some ⟨gg, 0, none⟩) (xk.length + 1) cap) (.node W.heap.size (.slice none 0 0) 0 (-1) []) t) := by
  have hxa := (show MT.At W lo t from h).sub hx
  have hxb := lt_of_block hxa.2.1
  have hown : ∀ k, (Value.slice ka xk.length kc).ownBlock = some k → k < W.heap.size ∧ k ≠ xb := fun k hk => by
    refine ⟨(row_lt hxa.2.2.1 hk).2, fun e => ?_⟩
    subst e
    have h6 := hxa.2.1
    rcases hxa.2.2.1.2 with ⟨hv, _⟩ | ⟨g', cap', cur, hv, _, hh, _⟩
    · rw [hv] at hk; simp [Value.ownBlock] at hk
    · rw [hv] at hk
      simp [Value.ownBlock] at hk
      subst hk
      rw [hh] at h6
      injection h6 with h6
      injection h6 with _ h6
      exact absurd h6 (by decide)
  refine MT.At.addK (x := .node xb (.slice ka xk.length kc) xs xr xk) h hnd hx hgr hrow ?_ ?_
  · refine ⟨hlo, ?_, World.ownsRow_nil _ _ _ _, trivial⟩
    refine (Below.heap_setCell _ _ _ _ (by show W.heap.size ≠ xb; omega)).trans ((hgr.block _ (by simp; omega) (fun e => ?_)).trans (heap_alloc_keep (heap_alloc_this W _)))
    have := (hown _ e.symm).1
    omega
  · intro e
    have e1 : gg = xb := by have e' : some gg = some xb := e; injection e'
    rcases hat with hat | hat
    · exact (hown _ hat).2 e1
    · omega
theorem row_not {w : World} {xb lo : Nat} {a b c : Value} {v : Value} {n : Nat} {xs : List Value} (hx : w.heap[xb]? = some (.cells #[a, b, c] 45 (0, 0))) (hr : w.ownsRow lo 29 1 v n xs) : ∀ k, v.ownBlock = some k → k ≠ xb := fun k hk e => by
  subst e
  rcases hr.2 with ⟨hv, _⟩ | ⟨g', cap', cur, hv, _, hh, _⟩
  · rw [hv] at hk; simp [Value.ownBlock] at hk
  · rw [hv] at hk
    simp [Value.ownBlock] at hk
    subst hk
    rw [hh] at hx
    injection hx with hx
    injection hx with _ hx
    exact absurd hx (by decide)
theorem leaf_bad (g : GramD) (b : Nat) (v : Value) : (MT.node b v 0 (-1) []).pt.valid g = false := by
  rw [MT.pt_node, PT.valid, if_pos (by decide)]
  unfold getR
  rw [if_neg (by decide)]
theorem sub_size {t x : MT} (hx : x ∈ t.subs) : x.pt.size ≤ t.pt.size := by
  induction t using MT.ind with | h b v s r kids ih => ?_
  rcases MT.mem_subs.1 hx with rfl | ⟨k, hk, hx⟩
  · exact Nat.le_refl _
  · have h1 := ih k hk hx
    have h2 := PT.size_le (List.mem_map_of_mem (f := MT.pt) hk)
    rw [MT.pt_node, PT.size]
    omega
theorem bent_val {g : GramD} {t : MT} {xb : Nat} {xv : Value} {xs xr r' : Int} {xk : List MT} (hok : GramOk g) (hnd : t.blocks.Nodup) (hx : MT.node xb xv xs xr xk ∈ t.subs) (hv : t.pt.valid g = true) : (MT.setR xb r' t).pt.valid g = fitsB g xs xr r' :=
  (valid_bent (x := .node xb xv xs xr xk) hnd hx hv).trans (fits_loc hok (valid_subs.1 hv _ hx))
theorem add_val {g : GramD} {t : MT} {xb b : Nat} {xv v' v : Value} {xs xr : Int} {xk : List MT} (hx : MT.node xb xv xs xr xk ∈ t.subs) : (MT.addK xb v' (.node b v 0 (-1) []) t).pt.valid g = false :=
  valid_addK (x := .node xb xv xs xr xk) hx (leaf_bad _ _ _)
end Go.Proofs.Ytfiafmhnmafnbaa
