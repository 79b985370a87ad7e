/- Plain lemmas on worlds, blocks and deferred closures that recover; they speak of no program. -/
import Derived.WalkKit
import Derived.ProofKit
import Derived.Below
import Derived.Recover
import Derived.RegionTactic
import Derived.ChangeAlike
import Derived.WalkLawsBesides
import Derived.LaidEqlPtr
import Derived.Lib.Hide
import Derived.Lib.Builder
namespace Go
section
variable {P : Program}
/-- A deferred closure whose first region is recover alone: behind it the body goes on as any. -/
theorem callsD_recover {f : FuncId} {fn : Func} {rest : Code} {o : Oper} {id : Nat} {args : Array Value} {u u' : FrameMode} {w : World} {R : Ending → FrameMode → World → Prop}
    {T : Array Value} {v : Value}
    (hf : P.funcs[f]? = some fn) (hb : fn.body = some ((Code.region id #[o] false).seq rest)) (hT : args ++ Array.replicate (fn.ntmps - args.size) undef = T)
    (hr : ∀ c : Frame, c.mode = u → ∀ cs Q, wpOpsS P #[o] Q [0] ⟨T, []⟩ (c :: cs) w = Q .normal ((⟨T, []⟩ : Act).put o.dst v) ({ c with mode := u' } :: cs) w)
    (h : rest.wp P (bodyPost P fn (fun e w' => R e u' w')) ((⟨T, []⟩ : Act).put o.dst v) w) : CallsD P f args u w R := by
  refine callsD_of_wpS hf hb fun c₀ cs hu => ?_
  rw [hT]
  refine wpS_seq (wpS_region ?_)
  show wpOpsS P #[o] _ [0] _ _ _
  rw [hr c₀ hu]
  refine wpS_of_wp (Code.wp_mono ?_ h)
  intro e a w' hq
  cases e with
  | normal => obtain ⟨hd, v, hr, hR⟩ := hq; exact ⟨hd, u', rfl, v, hr, hR⟩
  | ret => obtain ⟨hd, v, hr, hR⟩ := hq; exact ⟨hd, u', rfl, v, hr, hR⟩
  | panic chain => obtain ⟨hd, hR⟩ := hq; exact ⟨hd, u', rfl, hR⟩
  | exit id => exact hq.elim
  | goto l => exact hq.elim
  | outgrown => exact ⟨u', hq⟩
end
end Go

namespace Go
open Go.RowKit
/-- All blocks that were there, but for those of S, are as they were. -/
structure Kept (S : Nat → Prop) (w w' : World) : Prop where
  os : w'.os = w.os
  tape : w'.tape = w.tape
  output : w'.output = w.output
  size : w.heap.size ≤ w'.heap.size
  block : ∀ k, k < w.heap.size → ¬ S k → w'.heap[k]? = w.heap[k]?

theorem Kept.refl (S : Nat → Prop) (w : World) : Kept S w w := ⟨rfl, rfl, rfl, Nat.le_refl _, fun _ _ _ => rfl⟩
theorem Kept.trans {S : Nat → Prop} {a b c : World} (h : Kept S a b) (k : Kept S b c) : Kept S a c :=
  ⟨k.os.trans h.os, k.tape.trans h.tape, k.output.trans h.output, Nat.le_trans h.size k.size, fun i hi hs => (k.block i (Nat.lt_of_lt_of_le hi h.size) hs).trans (h.block i hi hs)⟩
theorem Kept.then {S S' S'' : Nat → Prop} {a b c : World} (h : Kept S a b) (k : Kept S' b c) (h1 : ∀ i, i < a.heap.size → S i → S'' i) (h2 : ∀ i, i < a.heap.size → S' i → S'' i) : Kept S'' a c :=
  ⟨k.os.trans h.os, k.tape.trans h.tape, k.output.trans h.output, Nat.le_trans h.size k.size, fun i hi hs => (k.block i (Nat.lt_of_lt_of_le hi h.size) (fun x => hs (h2 i hi x))).trans (h.block i hi (fun x => hs (h1 i hi x)))⟩
theorem Kept.mono {S S' : Nat → Prop} {w w' : World} (h : Kept S w w') (hS : ∀ k, k < w.heap.size → S k → S' k) : Kept S' w w' := ⟨h.os, h.tape, h.output, h.size, fun k hk hs => h.block k hk (fun hx => hs (hS k hk hx))⟩
theorem Kept.drew {S : Nat → Prop} {a w : World} (h : Kept S a w) : Kept S a w.drew := ⟨h.os, h.tape, h.output, h.size, h.block⟩
theorem Kept.alloc {S : Nat → Prop} {a w : World} (h : Kept S a w) (o : Obj) : Kept S a (w.alloc o) :=
  h.trans ⟨rfl, rfl, rfl, by simp, fun k hk _ => Below.heap_alloc _ _ _ hk⟩
theorem Kept.setCell {S : Nat → Prop} {a w : World} (h : Kept S a w) {p : Addr} (hp : S p.block ∨ a.heap.size ≤ p.block) (u : Value) : Kept S a (w.setCell p u) :=
  ⟨h.os, h.tape, h.output, by simpa [World.setCell] using h.size, fun k hk hs => (Below.heap_setCell _ _ _ _ (by
    rintro rfl
    rcases hp with hp | hp
    · exact hs hp
    · omega)).trans (h.block k hk hs)⟩
theorem Kept.get {S : Nat → Prop} {w w' : World} (h : Kept S w w') {k : Nat} {o : Obj} (hk : w.heap[k]? = some o) (hs : ¬ S k) : w'.heap[k]? = some o :=
  (h.block k (lt_of_block hk) hs).trans hk
theorem Kept.below {S : Nat → Prop} {w w' : World} {B : Nat} (h : Kept S w w') (hB : B ≤ w.heap.size) (hS : ∀ k, k < B → ¬ S k) : Below B w w' :=
  ⟨h.os, h.tape, h.output, h.size, fun k hk => h.block k (by omega) (hS k hk)⟩
theorem kept_of_below {w w' : World} (h : Below w.heap.size w w') (S : Nat → Prop) : Kept S w w' := ⟨h.os, h.tape, h.output, h.size, fun k hk _ => h.block k hk⟩

/-- What a store makes of a block that is known. -/
theorem heap_setCell_known {w : World} {b off : Nat} {vs : Array Value} {t : TypeId} {u : Value} (h : w.heap[b]? = some (.cells vs t (0, 0))) :
    (w.setCell ⟨b, off, none⟩ u).heap[b]? = some (.cells (vs.setIfInBounds off u) t (0, 0)) := by
  have hlt := lt_of_block h
  have h' : w.heap[b] = .cells vs t (0, 0) := by simpa [Array.getElem?_eq_getElem hlt] using h
  show (w.heap.modify b _)[b]? = _
  rw [Array.getElem?_eq_getElem (by simpa using hlt), Array.getElem_modify_self, h']
  rfl
theorem heap_alloc_this (w : World) (o : Obj) : (w.alloc o).heap[w.heap.size]? = some o := by
  show (w.heap.push o)[w.heap.size]? = _
  simp
theorem heap_alloc_keep {w : World} {b : Nat} {o x : Obj} (h : w.heap[b]? = some x) : (w.alloc o).heap[b]? = some x := by
  rw [Below.heap_alloc _ _ _ (lt_of_block h)]; exact h
theorem cell_alloc_keep {w : World} {p : Addr} {o : Obj} {x : Value} (hb : p.block < w.heap.size) (h : w.cell? p = some x) : (w.alloc o).cell? p = some x := by
  rw [World.cell?_of_block (w := w) (Below.heap_alloc _ _ _ hb)]; exact h
theorem frozen_alloc_keep {w : World} {p : Addr} {o : Obj} {x : Bool} (hb : p.block < w.heap.size) (h : w.frozen? p = x) : (w.alloc o).frozen? p = x := by
  rw [World.frozen?_of_block (w := w) (Below.heap_alloc _ _ _ hb)]; exact h
theorem cell_of_block {w : World} {b off : Nat} {vs : Array Value} {t : TypeId} (h : w.heap[b]? = some (.cells vs t (0, 0))) : w.cell? ⟨b, off, none⟩ = vs[off]? := by simp [World.cell?, h]
theorem free_of_block {w : World} {b off : Nat} {vs : Array Value} {t : TypeId} (h : w.heap[b]? = some (.cells vs t (0, 0))) : w.frozen? ⟨b, off, none⟩ = false := by simp [World.frozen?, h]
end Go

namespace Go
theorem run_neq_ptr_other {P : Program} (w : World) {tp te : TypeId} {j : TypeInfo} {a b : Addr} {ca cb : Array Value} {ta tb : TypeId} (hp : P.underlying tp = some (.pointer te)) (hte : P.info? te = some j) (hsz : j.size ≠ 0)
    (hne : a ≠ b) (ha : w.heap[a.block]? = some (.cells ca ta (0, 0))) (hb : w.heap[b.block]? = some (.cells cb tb (0, 0))) :
    (binOp .neq tp (.pointer (some a)) (.pointer (some b))).run P w = .ok (.bool true) w := by
  have h : ∀ d : Nat, (Op.equalIn (d + 1) tp (.pointer (some a)) (.pointer (some b))).run P w = .ok false w := fun d => by
    simp [Op.equalIn, run_underlying hp, sizeOf, typeInfo, hte, hsz, run_sameAddr_other w hne ha hb]
  simp only [binOp]
  simp [Op.equal, Op.maxDepth, h 9999]
end Go
