/- A base, read: what a round leaves. -/
import Derived.Test.YtlnaepemkeodoaaDoorText
namespace Go.Proofs.YtlnaepemkeodoaaDoor
open Go.RowKit
theorem info34 : (Tryd.prog.info? 34).map (fun i => (i.zero, i.size, i.bytes)) = some (some (.agg #[.int .i64 0, .int .i64 0]), 2, 16) := by kernel_rfl
def badV (l : List (Int × Nat)) : List Value := l.flatMap fun p => [.int .i64 p.1, .int .i64 (p.2 : Int)]
theorem badV_snoc (l : List (Int × Nat)) (e : Int) (k : Nat) : badV (l ++ [(e, k + 1)]) = badV l ++ [.int .i64 e, .int .i64 ((k : Int) + 1)] := by
  simp [badV]
def RowB (w : World) (base : Nat) (v : Value) (l : List (Int × Nat)) : Prop := w.ownsRow base 34 2 v l.length (badV l)
theorem rowB_ge {w : World} {base : Nat} {v : Value} {l : List (Int × Nat)} (h : RowB w base v l) {g : Nat} (hg : v.ownBlock = some g) : g < w.heap.size ∧ base ≤ g ∧ ∃ cs, w.heap[g]? = some (.cells cs 34 (0, 0)) := by
  obtain ⟨h1, h2⟩ := h
  rcases h2 with ⟨rfl, _⟩ | ⟨g', cap, cur, rfl, hg', hh, r⟩
  · simp [Value.ownBlock] at hg
  · simp [Value.ownBlock] at hg
    subst hg
    exact ⟨lt_of_block hh, hg', cur, hh⟩
theorem RowB.kept {w w' : World} {base : Nat} {v : Value} {l : List (Int × Nat)} (h : RowB w base v l) (hk : ∀ k, v.ownBlock = some k → w'.heap[k]? = w.heap[k]?) : RowB w' base v l := by
  obtain ⟨h1, h2⟩ := h
  refine ⟨h1, ?_⟩
  rcases h2 with h2 | ⟨g, cap, cur, rfl, hg, hh, r⟩
  · exact .inl h2
  · exact .inr ⟨g, cap, cur, rfl, hg, by rw [hk g rfl]; exact hh, r⟩
/-- A round's world. -/
structure RInv (w0 : World) (base bb lb : Nat) (arr : Array Value) (wr : World) (st : St) (bv : Value) : Prop where
  b : ∃ mv hv, BaseAt wr base bb st.marks st.heads mv hv
  r : RowB wr base bv st.bad
  l : wr.heap[lb]? = some (.cells arr 9 (0, 0))
  k : Below w0.heap.size w0 wr
  s : base ≤ wr.heap.size
  o : w0.heap.size ≤ bb ∧ w0.heap.size ≤ base ∧ lb < base ∧ lb ≠ bb
theorem RInv.go {w0 wr w' : World} {base bb lb : Nat} {arr : Array Value} {st : St} {bv : Value} (h : RInv w0 base bb lb arr wr st bv) (hb : Below wr.heap.size wr w') : RInv w0 base bb lb arr w' st bv := by
  obtain ⟨mv, hv, hB⟩ := h.b
  exact ⟨⟨mv, hv, hB.go hb⟩, h.r.kept (fun k hk => hb.block k (rowB_ge h.r hk).1), (hb.block lb (lt_of_block h.l)).trans h.l, h.k.trans (hb.mono h.k.size), Nat.le_trans h.s hb.size, h.o⟩
theorem RInv.turn {w0 wr w' : World} {base bb lb : Nat} {arr : Array Value} {st : St} {bv : Value} {m h : List (List UInt8)} (hi : RInv w0 base bb lb arr wr st bv) (hk : Kept (Mine wr base bb) wr w') (hB : ∃ mv hv, BaseAt w' base bb m h mv hv) : RInv w0 base bb lb arr w' ⟨m, h, st.bad⟩ bv := by
  obtain ⟨mv, hv, hB0⟩ := hi.b
  refine ⟨hB, hi.r.kept (fun k hx => hk.block k (rowB_ge hi.r hx).1 ?_), (hk.block lb (lt_of_block hi.l) ?_).trans hi.l, hi.k.trans (hk.below hi.k.size ?_), Nat.le_trans hi.s hk.size, hi.o⟩
  · obtain ⟨_, _, cs, h3⟩ := rowB_ge hi.r hx
    rintro (rfl | ⟨_, cs', h4⟩)
    · rw [hB0.blk] at h3; cases h3
    · rw [h4] at h3; cases h3
  · rintro (h1 | ⟨h1, _⟩)
    · exact hi.o.2.2.2 h1
    · have := hi.o.2.2.1; omega
  · rintro k hk1 (h1 | ⟨h1, _⟩)
    · have := hi.o.1; omega
    · have := hi.o.2.1; omega
theorem RInv.app {w0 wr w' : World} {base bb lb g cap k n : Nat} {arr : Array Value} {st : St} {bv : Value} {e : Int} (hi : RInv w0 base bb lb arr wr st bv) (hn : st.bad.length = n)
    (ho : w'.ownsRow base 34 2 (.slice (some ⟨g, 0, none⟩) (n + 1) cap) (n + 1) (badV st.bad ++ [.int .i64 e, .int .i64 ((k : Int) + 1)])) (hg : wr.grownBy w' bv.ownBlock) :
    RInv w0 base bb lb arr w' ⟨st.marks, st.heads, st.bad ++ [(e, k + 1)]⟩ (.slice (some ⟨g, 0, none⟩) (n + 1) cap) := by
  subst hn
  obtain ⟨mv, hv, hB⟩ := hi.b
  have hfar : ∀ x (cs : Array Value) (t : TypeId), wr.heap[x]? = some (Obj.cells cs t (0, 0)) → t ≠ 34 → w'.heap[x]? = wr.heap[x]? := fun x cs t hx ht => hg.block x (lt_of_block hx) (fun e => by
    obtain ⟨_, _, cs', h3⟩ := rowB_ge hi.r e.symm
    rw [hx] at h3
    cases h3
    exact ht rfl)
  refine ⟨⟨mv, hv, (hfar bb _ 37 hB.blk (by decide)).trans hB.blk, hB.mr.kept (fun k hk => ?_), hB.hr.kept (fun k hk => ?_), hB.far⟩, ?_, (hfar lb _ 9 hi.l (by decide)).trans hi.l, hi.k.trans ⟨hg.os, hg.tape, hg.output, hg.size, fun k hk => hg.block k (Nat.lt_of_lt_of_le hk hi.k.size) (fun e => by have := (rowB_ge hi.r e.symm).2.1; have := hi.o.2.1; omega)⟩, Nat.le_trans hi.s hg.size, hi.o⟩
  · obtain ⟨_, _, cs, hh⟩ := row_ge hB.mr hk
    exact hfar k _ 9 hh (by decide)
  · obtain ⟨_, _, cs, hh⟩ := row_ge hB.hr hk
    exact hfar k _ 9 hh (by decide)
  · unfold RowB
    rw [badV_snoc, List.length_append]
    exact ho
theorem rowB_nil (w : World) (base : Nat) : RowB w base (.slice none 0 0) [] := World.ownsRow_nil _ _ _ _
theorem RowB.shape {w : World} {base : Nat} {v : Value} {l : List (Int × Nat)} (h : RowB w base v l) : ∃ a c, v = .slice a l.length c := by
  rcases h.2 with ⟨rfl, h0⟩ | ⟨g, cap, cur, rfl, _⟩
  · exact ⟨none, 0, by rw [h0]⟩
  · exact ⟨_, _, rfl⟩
theorem splitL_count (l : List UInt8) : (splitL l).length = Lib.count l [10] + 1 := by
  induction l with
  | nil => rw [Lib.count_miss (by simp [Lib.index])]; rfl
  | cons c r ih =>
    rw [splitL]
    by_cases h : c = 10
    · subst h
      rw [if_pos rfl, Lib.count_cons_eq, List.length_cons, ih]; omega
    · rw [if_neg h, Lib.count_cons_ne c 10 r h]
      cases hs : splitL r with
      | nil => exact absurd hs (splitL_ne r)
      | cons x t => rw [hs] at ih; exact ih
theorem split_any (l : List UInt8) (m : Int) (w : World) (hl : l.length ≤ 65536) (hm : w.cell? ⟨0, 0, none⟩ = some (.int .i64 m)) :
    Calls Tryd.prog 11 #[.string (bOf l), .string { data := #[10] }] w fun e w' => e = .returned (.slice (some ⟨w.heap.size, 0, none⟩) (splitL l).length (splitL l).length) ∧ w' = w.alloc (.cells (strV (splitL l)).toArray 9) := by
  have h := strings_Split (bOf l) { data := #[10] } m w (by rw [bOf_size]; omega) hm (by decide)
  have e1 : Lib.countB (bOf l) { data := #[10] } + 1 = (splitL l).length := (splitL_count l).symm
  have e2 : (Lib.splitB { data := #[10] } 0 (Lib.countB (bOf l) { data := #[10] }) (bOf l)).map Value.string = strV (splitL l) := by
    have h1 : (Lib.splitB { data := #[10] } 0 (Lib.countB (bOf l) { data := #[10] }) (bOf l)).map (·.data.toList) = splitL l := (Lib.splitB_data _ _ _ _).trans (splitK_lines l)
    unfold strV
    rw [← h1, List.map_map]
    exact List.map_congr_left fun s _ => congrArg Value.string (bOf_self s).symm
  rw [e1, e2] at h
  exact h
end Go.Proofs.YtlnaepemkeodoaaDoor
