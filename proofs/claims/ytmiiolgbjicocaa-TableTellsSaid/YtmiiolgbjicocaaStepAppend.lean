/- append of numbers to a list of the call's own, at a step of a region that draws its order. It speaks of no program. -/
import Derived.Test.YtmiiolgbjicocaaS1
import Derived.Laws.OwnMore
import Derived.RegionTactic
namespace Go
open Go.RowKit
theorem wp_append_ints {P : Program} {w : World} {o : Oper} {a : Act} {K : Act → World → Prop} {Q : Exit → Act → World → Prop} (s x : Operand) (t : TypeId)
    (ho : o.op = .call { callee := .builtin .append, args := #[s, x], argTypes := #[t, t] }) (ht : P.underlying t = some (.slice 3))
    (hinfo : (P.info? 3).map (fun i => (i.zero, i.size, i.bytes)) = some (some (.int .i64 0), 1, 8))
    (base : Nat) (v : Value) (xs : List Int) (hs : a.eval s = v) (hown : Own w base v xs) (ao : Option Addr) (c m : Nat) (ys : List Int) (hx : a.eval x = .slice ao m c) (hm : m = ys.length)
    (hnone : ao = none → c = 0) (hsrc : SrcI w ao ys) (hb : (xs.length + ys.length) * 8 ≤ 140737488355328) (hbase : base ≤ w.heap.size)
    (h : ∀ v' w', Own w' base v' (xs ++ ys) → w.grownBy w' v.ownBlock → K (a.put o.dst v') w') : o.wp P a w K Q := by
  obtain ⟨i0, hi, hz0, hz1, hz2⟩ := info_parts hinfo
  cases ao with
  | none =>
    have hc := hnone rfl
    subst hc
    have hy : ys = [] := by
      cases ys with
      | nil => rfl
      | cons y t => obtain ⟨_, _, h, _⟩ := hsrc 0 (by simp); cases h
    subst hy
    simp only [List.length_nil] at hm
    subst hm
    have hrun := run_append_owned_none (P := P) (w := w) base t o.type 3 i0 1 ht hi v xs.length _ hown
    unfold Oper.wp
    simp [execOp, ho, resolve, invoke, builtin, hs, hx, hrun, Result.andThen]
    exact h v w (by rw [List.append_nil]; exact hown) ⟨rfl, rfl, rfl, Nat.le_refl _, fun _ _ _ => rfl⟩
  | some ad =>
    subst hm
    refine wp_append_own w s x t ho base 3 i0 (.int .i64 0) 1 8 ht hi hz0 hz1 hz2 rfl (by decide) v xs.length _ hs hown ad ys.length c (ys.map (Value.int .i64)) hx (by simp) ?_ ?_ ?_ hb hbase ?_
    · intro j u hj
      rw [List.getElem?_map] at hj
      have hjl : j < ys.length := by
        rcases Nat.lt_or_ge j ys.length with h | h
        · exact h
        · rw [List.getElem?_eq_none h] at hj; cases hj
      rw [List.getElem?_eq_getElem hjl] at hj
      obtain ⟨b, off, hae, hc⟩ := hsrc j hjl
      injection hae with hae
      subst hae
      rw [addr_add, hc]
      exact hj
    · intro u hu
      obtain ⟨y, _, rfl⟩ := List.mem_map.1 hu
      rfl
    · unfold maxLen; omega
    · intro v' w' h1 h2 _
      exact h v' w' (by unfold Own; rw [List.length_append, List.map_append]; exact h1) h2
theorem step_append_ints {P : Program} {w : World} {ops : Array Oper} {o : Oper} {a : Act} {K : Act → World → Prop} {Q : Exit → Act → World → Prop} {E : Prop} (hgd : o.guard = none) (s x : Operand) (t : TypeId)
    (ho : o.op = .call { callee := .builtin .append, args := #[s, x], argTypes := #[t, t] }) (ht : P.underlying t = some (.slice 3))
    (hinfo : (P.info? 3).map (fun i => (i.zero, i.size, i.bytes)) = some (some (.int .i64 0), 1, 8))
    (base : Nat) (v : Value) (xs : List Int) (hs : a.eval s = v) (hown : Own w base v xs) (ao : Option Addr) (c m : Nat) (ys : List Int) (hx : a.eval x = .slice ao m c) (hm : m = ys.length)
    (hnone : ao = none → c = 0) (hsrc : SrcI w ao ys) (hb : (xs.length + ys.length) * 8 ≤ 140737488355328) (hbase : base ≤ w.heap.size)
    (h : ∀ v' w', Own w' base v' (xs ++ ys) → w.grownBy w' v.ownBlock → K (a.put o.dst v') w') :
    if Region.wanted o (yielded ops a.tmps) = true then Oper.wp P o a w K Q else E := by
  have hw : Region.wanted o (yielded ops a.tmps) = true := by simp [Region.wanted, hgd]
  rw [if_pos hw]
  exact wp_append_ints s x t ho ht hinfo base v xs hs hown ao c m ys hx hm hnone hsrc hb hbase h
end Go
