/- The state of a derivation that is under way, in memory: a block of five cells and two lists of its own. It speaks of no program. -/
import Derived.Test.YtfiafmhnmafnbaaAppend
import Derived.Deep.AppendLies
namespace Go
open Go.RowKit
/-- In block rb: the grammar's three slices, what is done, what is left (turned round). -/
structure RunAt (B rb : Nat) (g : GramD) (dv lv : Value) (dn lf : List Int) (w : World) : Prop where
  blk : w.heap[rb]? = some (.cells #[.slice g.ta g.terms.length g.tc, .slice g.va g.vars.length g.vc, .slice g.ra g.rules.length g.rc, dv, lv] 107 (0, 0))
  down : OwnI w (rb + 1) dv dn
  lown : OwnI w (rb + 1) lv lf
  far : ∀ k, dv.ownBlock = some k → lv.ownBlock ≠ some k
  gram : GramAt w B g
  low : B ≤ rb
theorem own_ge {w : World} {base : Nat} {v : Value} {xs : List Int} (h : OwnI w base v xs) {k : Nat} (hk : v.ownBlock = some k) : base ≤ k := (h.lt hk).2
/-- Behind a turn that leaves all old blocks as they were. -/
theorem RunAt.next {B rb : Nat} {g : GramD} {dv lv : Value} {dn lf : List Int} {w w' : World} (h : RunAt B rb g dv lv dn lf w) (hb : Below w.heap.size w w') : RunAt B rb g dv lv dn lf w' :=
  ⟨(hb.block _ (lt_of_block h.blk)).trans h.blk, h.down.below hb, h.lown.below hb, h.far, h.gram.below (hb.mono (by have := lt_of_block h.blk; have := h.low; omega)), h.low⟩
theorem own_slot {w : World} {base : Nat} {v u : Value} {xs : List Int} (h : OwnI w base v xs) {b off : Nat} (hb : b < base) : OwnI (w.setCell ⟨b, off, none⟩ u) base v xs :=
  h.kept (fun k hk => Below.heap_setCell _ _ _ _ (by have := own_ge h hk; simp only; omega))
/-- Something was appended to what is left. -/
theorem RunAt.pushL {B rb : Nat} {g : GramD} {dv lv lv' : Value} {dn lf lf' : List Int} {w wa w1 : World} (h : RunAt B rb g dv lv dn lf w) (ha : Below w.heap.size w wa) (hg : wa.grownBy w1 lv.ownBlock)
    (hat : ∀ k, lv'.ownBlock = some k → lv.ownBlock = some k ∨ w.heap.size ≤ k) (hown : OwnI w1 (rb + 1) lv' lf') :
    RunAt B rb g dv lv' dn lf' (w1.setCell ⟨rb, 4, none⟩ lv') := by
  have hr := lt_of_block h.blk
  have hk : ∀ k, k < w.heap.size → lv.ownBlock ≠ some k → w1.heap[k]? = w.heap[k]? := fun k hk hne =>
    (hg.block k (by have := ha.size; omega) (fun e => hne e.symm)).trans (ha.block k hk)
  have hne : lv.ownBlock ≠ some rb := fun e => by have := own_ge h.lown e; omega
  have hB : Below B w w1 := (ha.mono (by have := h.low; omega)).trans ⟨hg.os, hg.tape, hg.output, hg.size, fun k hk => hg.block k (by have := ha.size; have := h.low; omega) (fun e => by have := own_ge h.lown e.symm; have := h.low; omega)⟩
  refine ⟨?_, ?_, own_slot hown (by omega), ?_, ?_, h.low⟩
  · have := heap_setCell_known (off := 4) (u := lv') ((hk rb hr hne).trans h.blk)
    simpa using this
  · refine own_slot ?_ (by omega)
    exact h.down.kept (fun k hkk => hk k (h.down.lt hkk).1 (h.far k hkk))
  · intro k hkk e
    rcases hat k e with hh | hh
    · exact h.far k hkk hh
    · have := (h.down.lt hkk).1; omega
  · exact h.gram.below (hB.trans ⟨rfl, rfl, rfl, by simp [World.setCell], fun k hk => Below.heap_setCell _ _ _ _ (by have := h.low; simp only; omega)⟩)
/-- Something was appended to what is done. -/
theorem RunAt.pushD {B rb : Nat} {g : GramD} {dv lv dv' : Value} {dn lf dn' : List Int} {w wa w1 : World} (h : RunAt B rb g dv lv dn lf w) (ha : Below w.heap.size w wa) (hg : wa.grownBy w1 dv.ownBlock)
    (hat : ∀ k, dv'.ownBlock = some k → dv.ownBlock = some k ∨ w.heap.size ≤ k) (hown : OwnI w1 (rb + 1) dv' dn') :
    RunAt B rb g dv' lv dn' lf (w1.setCell ⟨rb, 3, none⟩ dv') := by
  have hr := lt_of_block h.blk
  have hk : ∀ k, k < w.heap.size → dv.ownBlock ≠ some k → w1.heap[k]? = w.heap[k]? := fun k hk hne =>
    (hg.block k (by have := ha.size; omega) (fun e => hne e.symm)).trans (ha.block k hk)
  have hne : dv.ownBlock ≠ some rb := fun e => by have := own_ge h.down e; omega
  have hB : Below B w w1 := (ha.mono (by have := h.low; omega)).trans ⟨hg.os, hg.tape, hg.output, hg.size, fun k hk => hg.block k (by have := ha.size; have := h.low; omega) (fun e => by have := own_ge h.down e.symm; have := h.low; omega)⟩
  refine ⟨?_, own_slot hown (by omega), ?_, ?_, ?_, h.low⟩
  · have := heap_setCell_known (off := 3) (u := dv') ((hk rb hr hne).trans h.blk)
    simpa using this
  · refine own_slot ?_ (by omega)
    exact h.lown.kept (fun k hkk => hk k (h.lown.lt hkk).1 (fun e => h.far k e hkk))
  · intro k hkk e
    rcases hat k hkk with hh | hh
    · exact h.far k hh e
    · have := (h.lown.lt e).1; omega
  · exact h.gram.below (hB.trans ⟨rfl, rfl, rfl, by simp [World.setCell], fun k hk => Below.heap_setCell _ _ _ _ (by have := h.low; simp only; omega)⟩)
/-- The last of what is left was taken off. -/
theorem RunAt.pop {B rb : Nat} {g : GramD} {dv : Value} {a : Option Addr} {n cap : Nat} {dn lf : List Int} {w : World} (h : RunAt B rb g dv (.slice a (n + 1) cap) dn lf w) :
    RunAt B rb g dv (.slice a n cap) dn (lf.take n) (w.setCell ⟨rb, 4, none⟩ (.slice a n cap)) := by
  have hr := lt_of_block h.blk
  have hbel : Below rb w (w.setCell ⟨rb, 4, none⟩ (.slice a n cap)) := ⟨rfl, rfl, rfl, by simp [World.setCell], fun k hk => Below.heap_setCell _ _ _ _ (by simp only; omega)⟩
  refine ⟨?_, own_slot h.down (by omega), ?_, ?_, h.gram.below (hbel.mono h.low), h.low⟩
  · have := heap_setCell_known (off := 4) (u := .slice a n cap) h.blk
    simpa using this
  · refine own_slot ?_ (by omega)
    obtain ⟨h1, h2⟩ := h.lown
    rcases h2 with ⟨h2, h0⟩ | ⟨gb, cap', cur, hv, hg, hh, hn, hc, hsz, htk⟩
    · injection h2 with e1 e2 e3; omega
    · injection hv with e1 e2 e3
      subst e1 e3
      have hl : (lf.take n).length = n := by simp; omega
      refine ⟨by simp, .inr ⟨gb, cap, cur, by rw [hl], hg, hh, by omega, hc, hsz, ?_⟩⟩
      rw [hl, List.map_take, ← htk, List.take_take]
      congr 1
      omega
  · intro k hkk e
    refine h.far k hkk ?_
    cases a with
    | none => simp [Value.ownBlock] at e
    | some a => exact e
/-- What lies below the block stays. -/
theorem run_grown {rb : Nat} {v u : Value} {xs : List Int} {w wa w1 : World} {off : Nat} (h : OwnI w (rb + 1) v xs) (hr : rb ≤ w.heap.size) (ha : Below w.heap.size w wa) (hg : wa.grownBy w1 v.ownBlock) :
    Below rb w (w1.setCell ⟨rb, off, none⟩ u) :=
  ((ha.mono hr).trans ⟨hg.os, hg.tape, hg.output, hg.size, fun k hk => hg.block k (by have := ha.size; omega) (fun e => by have := own_ge h e.symm; omega)⟩).trans
    ⟨rfl, rfl, rfl, by simp [World.setCell], fun k hk => Below.heap_setCell _ _ _ _ (by simp only; omega)⟩
theorem run_slot {rb : Nat} {u : Value} (w : World) {off : Nat} : Below rb w (w.setCell ⟨rb, off, none⟩ u) :=
  ⟨rfl, rfl, rfl, by simp [World.setCell], fun k hk => Below.heap_setCell _ _ _ _ (by simp only; omega)⟩
/-- The block as the walk asks for it. -/
theorem RunAt.cellG {B rb : Nat} {g : GramD} {dv lv : Value} {dn lf : List Int} {w : World} (h : RunAt B rb g dv lv dn lf w) : w.cell? ⟨rb, 2, none⟩ = some (.slice g.ra g.rules.length g.rc) := cell_of_block h.blk
theorem RunAt.cellD {B rb : Nat} {g : GramD} {dv lv : Value} {dn lf : List Int} {w : World} (h : RunAt B rb g dv lv dn lf w) : w.cell? ⟨rb, 3, none⟩ = some dv := cell_of_block h.blk
theorem RunAt.cellL {B rb : Nat} {g : GramD} {dv lv : Value} {dn lf : List Int} {w : World} (h : RunAt B rb g dv lv dn lf w) : w.cell? ⟨rb, 4, none⟩ = some lv := cell_of_block h.blk
end Go
