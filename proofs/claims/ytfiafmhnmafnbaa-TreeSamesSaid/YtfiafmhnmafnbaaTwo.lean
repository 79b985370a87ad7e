/- Two lists of the call's own, side by side. -/
import Derived.Test.YtfiafmhnmafnbaaOpen
import Derived.Maps.AppendAt
namespace Go.Proofs.Ytfiafmhnmafnbaa
open Go.RowKit
theorem append_ints_at {P : Program} {w : World} {ops : Array Oper} {rest : List Oper} {o : Oper} {a : Act} {Q : Exit → Act → World → Prop} (hgd : o.guard = none) (s x : Operand) (t : TypeId)
    (ho : o.op = .call { callee := .builtin .append, args := #[s, x], argTypes := #[t, t] }) (ht : P.underlying t = some (.slice 3))
    (hinfo : (P.info? 3).map (fun i => (i.zero, i.size, i.bytes)) = some (some (.int .i64 0), 1, 8))
    (base : Nat) (v : Value) (xs : List Int) (hs : a.eval s = v) (hown : OwnI w base v xs) (ao : Option Addr) (c m : Nat) (ys : List Int) (hx : a.eval x = .slice ao m c) (hm : m = ys.length)
    (hnone : ao = none → c = 0) (hsrc : Src w ao ys) (hb : (xs.length + ys.length) * 8 ≤ 140737488355328) (hbase : base ≤ w.heap.size)
    (h : ∀ v' w', OwnI w' base v' (xs ++ ys) → w.grownBy w' v.ownBlock → (v'.ownBlock = v.ownBlock ∨ v'.ownBlock = some w.heap.size) → wpList P ops Q rest (a.put o.dst v') w') : wpList P ops Q (o :: rest) a w := by
  obtain ⟨i0, hi, hz0, hz1, hz2⟩ := info_parts hinfo
  cases ao with
  | none =>
    have hc := hnone rfl
    subst hc
    have hy : ys = [] := by
      cases ys with
      | nil => rfl
      | cons y t => obtain ⟨_, _, h, _⟩ := hsrc 0 (by simp); cases h
    subst hy
    simp only [List.length_nil] at hm
    subst hm
    refine wpList_append_own_none hgd s x t ho base 3 i0 1 ht hi v xs.length _ hs hown hx ?_
    refine h v w (by rw [List.append_nil]; exact hown) ⟨rfl, rfl, rfl, Nat.le_refl _, fun _ _ _ => rfl⟩ (.inl rfl)
  | some ad =>
    subst hm
    refine wpList_append_own_at w hgd s x t ho base 3 i0 (.int .i64 0) 1 8 ht hi hz0 hz1 hz2 rfl (by decide) v xs.length _ hs hown ad ys.length c (ys.map (Value.int .i64)) hx (by simp) ?_ ?_ ?_ hb hbase ?_
    · intro j u hj
      rw [List.getElem?_map] at hj
      have hjl : j < ys.length := by
        rcases Nat.lt_or_ge j ys.length with h | h
        · exact h
        · rw [List.getElem?_eq_none h] at hj; cases hj
      rw [List.getElem?_eq_getElem hjl] at hj
      obtain ⟨b, off, hae, hc⟩ := hsrc j hjl
      injection hae with hae
      subst hae
      rw [addr_add, hc]
      exact hj
    · intro u hu
      obtain ⟨y, _, rfl⟩ := List.mem_map.1 hu
      rfl
    · unfold maxLen; omega
    · intro v' w' h1 h2 _ h4
      exact h v' w' (by unfold OwnI; rw [List.length_append, List.map_append]; exact h1) h2 h4
structure TwoL (base : Nat) (wr : World) (v1 : Value) (xs : List Int) (v2 : Value) (ys : List Int) : Prop where
  one : OwnI wr base v1 xs
  two : OwnI wr base v2 ys
  apart : ∀ k, v1.ownBlock = some k → v2.ownBlock ≠ some k
theorem TwoL.swap {base : Nat} {wr : World} {v1 v2 : Value} {xs ys : List Int} (h : TwoL base wr v1 xs v2 ys) : TwoL base wr v2 ys v1 xs :=
  ⟨h.two, h.one, fun k h1 h2 => h.apart k h2 h1⟩
theorem TwoL.go {base : Nat} {wr w1 : World} {v1 v2 : Value} {xs ys : List Int} (h : TwoL base wr v1 xs v2 ys) (k : Grow wr w1) : TwoL base w1 v1 xs v2 ys :=
  ⟨h.one.below k, h.two.below k, h.apart⟩
theorem TwoL.app {base : Nat} {w1 w2 : World} {v1 v2 v' : Value} {xs ys zs : List Int} (h : TwoL base w1 v1 xs v2 ys) (hg : w1.grownBy w2 v1.ownBlock) (ho : OwnI w2 base v' (xs ++ zs)) (hat : v'.ownBlock = v1.ownBlock ∨ v'.ownBlock = some w1.heap.size) :
    TwoL base w2 v' (xs ++ zs) v2 ys := by
  refine ⟨ho, h.two.kept fun g hgg => hg.block g (h.two.lt hgg).1 (fun e => h.apart g e.symm hgg), fun k hk hk2 => ?_⟩
  rcases hat with hat | hat
  · exact h.apart k (hat ▸ hk) hk2
  · have h1 := (h.two.lt hk2).1
    have h2 := hat.symm.trans hk
    injection h2 with h2
    omega
theorem TwoL.low {base B : Nat} {w1 w2 : World} {v1 v2 : Value} {xs ys : List Int} (h : TwoL base w1 v1 xs v2 ys) (hg : w1.grownBy w2 v1.ownBlock) (hB : B ≤ base) (hb : base ≤ w1.heap.size) : Below B w1 w2 :=
  (below_grown h.one hg hb).mono hB
theorem grow_drew {w w' : World} (h : Grow w w') : Grow w w'.drew := ⟨h.os, h.tape, h.output, h.size, h.block⟩
theorem Grow.trans' {a b c : World} (h : Grow a b) (k : Below a.heap.size b c) : Grow a c := Below.trans h k
theorem leavesL_size (ks : List PT) : (PT.leavesL ks).length ≤ PT.sizeL ks ∧ (PT.rulesL ks).length ≤ PT.sizeL ks := by
  induction ks with
  | nil => simp [PT.leavesL, PT.rulesL, PT.sizeL]
  | cons k ks ih =>
    have h3 := leaves_size k
    simp only [PT.leavesL, PT.rulesL, PT.sizeL, List.length_append]
    omega
theorem own_one {w : World} {b base : Nat} {x : Int} (h : w.heap[b]? = some (.cells #[.int .i64 x] 3 (0, 0))) (hb : base ≤ b) : OwnI w base (.slice (some ⟨b, 0, none⟩) 1 1) [x] :=
  ⟨rfl, .inr ⟨b, 1, #[.int .i64 x], rfl, hb, h, Nat.le_refl _, by unfold maxLen; omega, rfl, rfl⟩⟩
theorem own_zero {w : World} {b base : Nat} (h : w.heap[b]? = some (.cells #[] 3 (0, 0))) (hb : base ≤ b) : OwnI w base (.slice (some ⟨b, 0, none⟩) 0 0) [] :=
  ⟨rfl, .inr ⟨b, 0, #[], rfl, hb, h, Nat.le_refl _, Nat.zero_le _, rfl, rfl⟩⟩
theorem two_a (w : World) (r : Int) : TwoL w.heap.size ((w.alloc (.cells #[] 3)).alloc (.cells #[.int .i64 r] 3)).drew (.slice (some ⟨w.heap.size, 0, none⟩) 0 0) [] (.slice (some ⟨w.heap.size + 1, 0, none⟩) 1 1) [r] ∧ Grow w ((w.alloc (.cells #[] 3)).alloc (.cells #[.int .i64 r] 3)).drew := by
  refine ⟨⟨own_zero (heap_alloc_keep (heap_alloc_this w _)) (Nat.le_refl _), own_one (by have := heap_alloc_this (w.alloc (.cells #[] 3)) (.cells #[.int .i64 r] 3); rw [World.size_alloc] at this; exact this) (by omega), fun k h1 h2 => by simp [Value.ownBlock] at h1 h2; omega⟩, ?_⟩
  exact grow_drew (((Below.refl _ _).alloc (Nat.le_refl _) _).alloc (by simp) _)
theorem two_b (w : World) (r : Int) : TwoL w.heap.size ((w.alloc (.cells #[.int .i64 r] 3)).alloc (.cells #[] 3)).drew (.slice (some ⟨w.heap.size + 1, 0, none⟩) 0 0) [] (.slice (some ⟨w.heap.size, 0, none⟩) 1 1) [r] ∧ Grow w ((w.alloc (.cells #[.int .i64 r] 3)).alloc (.cells #[] 3)).drew := by
  refine ⟨⟨own_zero (by have := heap_alloc_this (w.alloc (.cells #[.int .i64 r] 3)) (.cells #[] 3); rw [World.size_alloc] at this; exact this) (by omega), own_one (heap_alloc_keep (heap_alloc_this w _)) (Nat.le_refl _), fun k h1 h2 => by simp [Value.ownBlock] at h1 h2; omega⟩, ?_⟩
  exact grow_drew (((Below.refl _ _).alloc (Nat.le_refl _) _).alloc (by simp) _)
end Go.Proofs.Ytfiafmhnmafnbaa
