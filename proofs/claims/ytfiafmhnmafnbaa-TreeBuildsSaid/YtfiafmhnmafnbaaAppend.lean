/- Lists of numbers that the call itself makes: append, whatever is appended; how they read. They speak of no program. -/
import Derived.Test.YtfiafmhnmafnbaaLib
import Derived.Laws.AppendOwnNone
namespace Go
open Go.RowKit
/-- The slice value v owns the numbers xs, in a block from base on. -/
def OwnI (w : World) (base : Nat) (v : Value) (xs : List Int) : Prop := w.ownsRow base 3 1 v xs.length (xs.map (Value.int .i64))
/-- The numbers at an address, wherever. -/
def Src (w : World) (a : Option Addr) (xs : List Int) : Prop :=
  ∀ i (h : i < xs.length), ∃ b off, a = some ⟨b, off, none⟩ ∧ w.cell? ⟨b, off + i, none⟩ = some (.int .i64 xs[i])
theorem own_nil (w : World) (base : Nat) : OwnI w base (.slice none 0 0) [] := World.ownsRow_nil _ _ _ _
theorem OwnI.kept {w w' : World} {base : Nat} {v : Value} {xs : List Int} (h : OwnI w base v xs) (hk : ∀ g, v.ownBlock = some g → w'.heap[g]? = w.heap[g]?) : OwnI w' base v xs := by
  obtain ⟨h1, h2⟩ := h
  refine ⟨h1, ?_⟩
  rcases h2 with h2 | ⟨g, cap, cur, rfl, hg, hh, r⟩
  · exact .inl h2
  · exact .inr ⟨g, cap, cur, rfl, hg, by rw [hk g rfl]; exact hh, r⟩
theorem OwnI.lt {w : World} {base : Nat} {v : Value} {xs : List Int} (h : OwnI w base v xs) {g : Nat} (hg : v.ownBlock = some g) : g < w.heap.size ∧ base ≤ g := by
  obtain ⟨h1, h2⟩ := h
  rcases h2 with ⟨rfl, _⟩ | ⟨g', cap, cur, rfl, hg', hh, r⟩
  · simp [Value.ownBlock] at hg
  · simp [Value.ownBlock] at hg
    subst hg
    exact ⟨lt_of_block hh, hg'⟩
theorem OwnI.below {w w' : World} {base : Nat} {v : Value} {xs : List Int} (h : OwnI w base v xs) (hk : Below w.heap.size w w') : OwnI w' base v xs :=
  h.kept (fun _ hg => hk.block _ (h.lt hg).1)
theorem OwnI.alloc {w : World} {base : Nat} {v : Value} {xs : List Int} (h : OwnI w base v xs) (o : Obj) : OwnI (w.alloc o) base v xs :=
  h.kept (fun _ hg => Below.heap_alloc _ _ _ (h.lt hg).1)
/-- What is owned, as a slice that is read. -/
theorem OwnI.shape {w : World} {base : Nat} {v : Value} {xs : List Int} (h : OwnI w base v xs) : ∃ a cap, v = .slice a xs.length cap ∧ (a = none → cap = 0 ∧ xs = []) ∧ Ints w w.heap.size a xs ∧ cap ≤ maxLen ∧ xs.length ≤ cap := by
  obtain ⟨h1, h2⟩ := h
  rcases h2 with ⟨rfl, h0⟩ | ⟨g, cap, cur, rfl, hg, hh, hn, hc, hsz, htk⟩
  · have : xs = [] := List.length_eq_zero_iff.1 h0
    subst this
    exact ⟨none, 0, rfl, fun _ => ⟨rfl, rfl⟩, fun i hi => by simp at hi, by simp, by simp⟩
  · refine ⟨some ⟨g, 0, none⟩, cap, rfl, (fun h => by cases h), (fun i hi => ⟨g, 0, rfl, lt_of_block hh, ?_⟩), hc, hn⟩
    have hcc : w.cell? ⟨g, 0 + i, none⟩ = cur[0 + i]? := cell_of_block hh
    rw [hcc, Nat.zero_add]
    have h3 : (cur.toList.take (xs.length * 1))[i]? = (xs.map (Value.int .i64))[i]? := by rw [htk]
    rw [List.getElem?_take, if_pos (by omega), List.getElem?_map, List.getElem?_eq_getElem hi] at h3
    simpa using h3
theorem OwnI.ints {w : World} {base : Nat} {a : Option Addr} {n cap : Nat} {xs : List Int} (h : OwnI w base (.slice a n cap) xs) : n = xs.length ∧ Ints w w.heap.size a xs := by
  obtain ⟨a', cap', hv, _, hi, _⟩ := h.shape
  injection hv with h1 h2 h3
  subst h1
  exact ⟨h2, hi⟩
theorem Ints.src {w : World} {B : Nat} {a : Option Addr} {xs : List Int} (h : Ints w B a xs) : Src w a xs := fun i hi => by
  obtain ⟨b, off, h1, _, h2⟩ := h i hi
  exact ⟨b, off, h1, h2⟩
theorem src_one (w : World) (x : Int) (t : TypeId) : Src (w.alloc (.cells #[.int .i64 x] t)) (some ⟨w.heap.size, 0, none⟩) [x] := fun i hi => by
  have : i = 0 := by simpa using hi
  subst this
  refine ⟨w.heap.size, 0, rfl, ?_⟩
  rw [Nat.add_zero, cell_of_block (off := 0) (heap_alloc_this w (.cells #[.int .i64 x] t))]
  rfl
theorem src_nil (w : World) (a : Option Addr) : Src w a [] := fun i hi => by simp at hi
theorem src_take {w : World} {a : Option Addr} {xs : List Int} (h : Src w a xs) (k : Nat) : Src w a (xs.take k) := fun i hi => by
  have h1 : i < xs.length := by simp at hi; omega
  obtain ⟨b, off, ha, hc⟩ := h i h1
  exact ⟨b, off, ha, by rw [List.getElem_take]; exact hc⟩
theorem src_drop {w : World} {b off : Nat} {xs : List Int} (h : Src w (some ⟨b, off, none⟩) xs) (k : Nat) : Src w (some ⟨b, off + k, none⟩) (xs.drop k) := fun i hi => by
  have h1 : k + i < xs.length := by simp at hi; omega
  obtain ⟨b', off', ha, hc⟩ := h (k + i) h1
  injection ha with ha
  injection ha with hb ho
  subst hb ho
  exact ⟨b, off + k, rfl, by rw [List.getElem_drop, Nat.add_assoc]; exact hc⟩
theorem append_ints {P : Program} {w : World} {ops : Array Oper} {rest : List Oper} {o : Oper} {a : Act} {Q : Exit → Act → World → Prop} (hgd : o.guard = none) (s x : Operand) (t : TypeId)
    (ho : o.op = .call { callee := .builtin .append, args := #[s, x], argTypes := #[t, t] }) (ht : P.underlying t = some (.slice 3))
    (hinfo : (P.info? 3).map (fun i => (i.zero, i.size, i.bytes)) = some (some (.int .i64 0), 1, 8))
    (base : Nat) (v : Value) (xs : List Int) (hs : a.eval s = v) (hown : OwnI w base v xs) (ao : Option Addr) (c m : Nat) (ys : List Int) (hx : a.eval x = .slice ao m c) (hm : m = ys.length)
    (hnone : ao = none → c = 0) (hsrc : Src w ao ys) (hb : (xs.length + ys.length) * 8 ≤ 140737488355328) (hbase : base ≤ w.heap.size)
    (h : ∀ v' w', OwnI w' base v' (xs ++ ys) → w.grownBy w' v.ownBlock → wpList P ops Q rest (a.put o.dst v') w') : wpList P ops Q (o :: rest) a w := by
  obtain ⟨i0, hi, hz0, hz1, hz2⟩ := info_parts hinfo
  cases ao with
  | none =>
    have hc := hnone rfl
    subst hc
    have hy : ys = [] := by
      cases ys with
      | nil => rfl
      | cons y t => obtain ⟨_, _, h, _⟩ := hsrc 0 (by simp); cases h
    subst hy
    simp only [List.length_nil] at hm
    subst hm
    refine wpList_append_own_none hgd s x t ho base 3 i0 1 ht hi v xs.length _ hs hown hx ?_
    refine h v w (by rw [List.append_nil]; exact hown) ⟨rfl, rfl, rfl, Nat.le_refl _, fun _ _ _ => rfl⟩
  | some ad =>
    subst hm
    refine wpList_append_own w hgd s x t ho base 3 i0 (.int .i64 0) 1 8 ht hi hz0 hz1 hz2 rfl (by decide) v xs.length _ hs hown ad ys.length c (ys.map (Value.int .i64)) hx (by simp) ?_ ?_ ?_ hb hbase ?_
    · intro j u hj
      rw [List.getElem?_map] at hj
      have hjl : j < ys.length := by
        rcases Nat.lt_or_ge j ys.length with h | h
        · exact h
        · rw [List.getElem?_eq_none h] at hj; cases hj
      rw [List.getElem?_eq_getElem hjl] at hj
      obtain ⟨b, off, hae, hc⟩ := hsrc j hjl
      injection hae with hae
      subst hae
      rw [addr_add, hc]
      exact hj
    · intro u hu
      obtain ⟨y, _, rfl⟩ := List.mem_map.1 hu
      rfl
    · unfold maxLen; omega
    · intro v' w' h1 h2 _
      exact h v' w' (by unfold OwnI; rw [List.length_append, List.map_append]; exact h1) h2
theorem own_empty (w : World) {base : Nat} (h : base ≤ w.heap.size) : OwnI (w.alloc (.cells #[] 3)) base (.slice (some ⟨w.heap.size, 0, none⟩) 0 0) [] :=
  ⟨rfl, .inr ⟨w.heap.size, 0, #[], rfl, h, heap_alloc_this _ _, Nat.le_refl _, Nat.zero_le _, rfl, rfl⟩⟩
/-- What an append leaves below base. -/
theorem below_grown {w w' : World} {base : Nat} {v : Value} {xs : List Int} (h : OwnI w base v xs) (hg : w.grownBy w' v.ownBlock) (hb : base ≤ w.heap.size) : Below base w w' :=
  (Below.refl _ _).grown hg hb (fun _ hk => (h.lt hk).2)
end Go
