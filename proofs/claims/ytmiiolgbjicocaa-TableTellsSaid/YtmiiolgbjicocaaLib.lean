/- Plain lemmas on worlds and blocks; how a grammar reads in memory. They speak of no program. -/
import Derived.WalkKit
import Derived.ProofKit
import Derived.Below
import Derived.RegionTactic
import Derived.ChangeAlike
import Derived.WalkLawsBesides
import Derived.Lib.Hide
import Derived.Deep.QuietTactic
import Derived.BigQuiet
namespace Go
open Go.RowKit
/-- All blocks that were there, but for those of S, are as they were. -/
structure Kept (S : Nat → Prop) (w w' : World) : Prop where
  os : w'.os = w.os
  tape : w'.tape = w.tape
  output : w'.output = w.output
  size : w.heap.size ≤ w'.heap.size
  block : ∀ k, k < w.heap.size → ¬ S k → w'.heap[k]? = w.heap[k]?

theorem Kept.refl (S : Nat → Prop) (w : World) : Kept S w w := ⟨rfl, rfl, rfl, Nat.le_refl _, fun _ _ _ => rfl⟩
theorem Kept.trans {S : Nat → Prop} {a b c : World} (h : Kept S a b) (k : Kept S b c) : Kept S a c :=
  ⟨k.os.trans h.os, k.tape.trans h.tape, k.output.trans h.output, Nat.le_trans h.size k.size, fun i hi hs => (k.block i (Nat.lt_of_lt_of_le hi h.size) hs).trans (h.block i hi hs)⟩
theorem Kept.then {S S' S'' : Nat → Prop} {a b c : World} (h : Kept S a b) (k : Kept S' b c) (h1 : ∀ i, i < a.heap.size → S i → S'' i) (h2 : ∀ i, i < a.heap.size → S' i → S'' i) : Kept S'' a c :=
  ⟨k.os.trans h.os, k.tape.trans h.tape, k.output.trans h.output, Nat.le_trans h.size k.size, fun i hi hs => (k.block i (Nat.lt_of_lt_of_le hi h.size) (fun x => hs (h2 i hi x))).trans (h.block i hi (fun x => hs (h1 i hi x)))⟩
theorem Kept.mono {S S' : Nat → Prop} {w w' : World} (h : Kept S w w') (hS : ∀ k, k < w.heap.size → S k → S' k) : Kept S' w w' := ⟨h.os, h.tape, h.output, h.size, fun k hk hs => h.block k hk (fun hx => hs (hS k hk hx))⟩
theorem Kept.drew {S : Nat → Prop} {a w : World} (h : Kept S a w) : Kept S a w.drew := ⟨h.os, h.tape, h.output, h.size, h.block⟩
theorem Kept.alloc {S : Nat → Prop} {a w : World} (h : Kept S a w) (o : Obj) : Kept S a (w.alloc o) :=
  h.trans ⟨rfl, rfl, rfl, by simp, fun k hk _ => Below.heap_alloc _ _ _ hk⟩
theorem Kept.setCell {S : Nat → Prop} {a w : World} (h : Kept S a w) {p : Addr} (hp : S p.block ∨ a.heap.size ≤ p.block) (u : Value) : Kept S a (w.setCell p u) :=
  ⟨h.os, h.tape, h.output, by simpa [World.setCell] using h.size, fun k hk hs => (Below.heap_setCell _ _ _ _ (by
    rintro rfl
    rcases hp with hp | hp
    · exact hs hp
    · omega)).trans (h.block k hk hs)⟩
theorem Kept.get {S : Nat → Prop} {w w' : World} (h : Kept S w w') {k : Nat} {o : Obj} (hk : w.heap[k]? = some o) (hs : ¬ S k) : w'.heap[k]? = some o :=
  (h.block k (lt_of_block hk) hs).trans hk
theorem Kept.below {S : Nat → Prop} {w w' : World} {B : Nat} (h : Kept S w w') (hB : B ≤ w.heap.size) (hS : ∀ k, k < B → ¬ S k) : Below B w w' :=
  ⟨h.os, h.tape, h.output, h.size, fun k hk => h.block k (by omega) (hS k hk)⟩
theorem kept_of_below {w w' : World} (h : Below w.heap.size w w') (S : Nat → Prop) : Kept S w w' := ⟨h.os, h.tape, h.output, h.size, fun k hk _ => h.block k hk⟩

/-- What a store makes of a block that is known. -/
theorem heap_setCell_known {w : World} {b off : Nat} {vs : Array Value} {t : TypeId} {u : Value} (h : w.heap[b]? = some (.cells vs t (0, 0))) :
    (w.setCell ⟨b, off, none⟩ u).heap[b]? = some (.cells (vs.setIfInBounds off u) t (0, 0)) := by
  have hlt := lt_of_block h
  have h' : w.heap[b] = .cells vs t (0, 0) := by simpa [Array.getElem?_eq_getElem hlt] using h
  show (w.heap.modify b _)[b]? = _
  rw [Array.getElem?_eq_getElem (by simpa using hlt), Array.getElem_modify_self, h']
  rfl
theorem heap_alloc_this (w : World) (o : Obj) : (w.alloc o).heap[w.heap.size]? = some o := by
  show (w.heap.push o)[w.heap.size]? = _
  simp
theorem heap_alloc_keep {w : World} {b : Nat} {o x : Obj} (h : w.heap[b]? = some x) : (w.alloc o).heap[b]? = some x := by
  rw [Below.heap_alloc _ _ _ (lt_of_block h)]; exact h
theorem cell_alloc_keep {w : World} {p : Addr} {o : Obj} {x : Value} (hb : p.block < w.heap.size) (h : w.cell? p = some x) : (w.alloc o).cell? p = some x := by
  rw [World.cell?_of_block (w := w) (Below.heap_alloc _ _ _ hb)]; exact h
theorem frozen_alloc_keep {w : World} {p : Addr} {o : Obj} {x : Bool} (hb : p.block < w.heap.size) (h : w.frozen? p = x) : (w.alloc o).frozen? p = x := by
  rw [World.frozen?_of_block (w := w) (Below.heap_alloc _ _ _ hb)]; exact h
theorem cell_of_block {w : World} {b off : Nat} {vs : Array Value} {t : TypeId} (h : w.heap[b]? = some (.cells vs t (0, 0))) : w.cell? ⟨b, off, none⟩ = vs[off]? := by simp [World.cell?, h]
theorem free_of_block {w : World} {b off : Nat} {vs : Array Value} {t : TypeId} (h : w.heap[b]? = some (.cells vs t (0, 0))) : w.frozen? ⟨b, off, none⟩ = false := by simp [World.frozen?, h]
end Go

namespace Go
open Go.RowKit
theorem addr_add (b off i : Nat) : (⟨b, off, none⟩ : Addr).add i = ⟨b, off + i, none⟩ := by unfold Addr.add; split <;> simp_all
theorem block_of_cell {w : World} {b off : Nat} {s : Option Nat} {v : Value} (h : w.cell? ⟨b, off, s⟩ = some v) : b < w.heap.size := by
  unfold World.cell? at h
  rcases Nat.lt_or_ge b w.heap.size with h' | h'
  · exact h'
  · simp only [Array.getElem?_eq_none h'] at h
    simp at h
/-- The numbers at an address, in blocks below B. -/
def Ints (w : World) (B : Nat) (a : Option Addr) (xs : List Int) : Prop :=
  ∀ i (h : i < xs.length), ∃ b off, a = some ⟨b, off, none⟩ ∧ b < B ∧ w.cell? ⟨b, off + i, none⟩ = some (.int .i64 xs[i])
/-- What lies below B stays. -/
theorem below_cell {w w' : World} {B b off : Nat} (hk : Below B w w') (hb : b < B) : w'.cell? ⟨b, off, none⟩ = w.cell? ⟨b, off, none⟩ :=
  World.cell?_of_block (hk.block b hb)
theorem Ints.below {w w' : World} {B : Nat} {a : Option Addr} {xs : List Int} (h : Ints w B a xs) (hk : Below B w w') : Ints w' B a xs := by
  intro i hi
  obtain ⟨b, off, ha, hb, hc⟩ := h i hi
  exact ⟨b, off, ha, hb, by rw [below_cell hk hb]; exact hc⟩
/-- The texts at an address. -/
def StrsAt (w : World) (B : Nat) (a : Option Addr) (ss : List ByteArray) : Prop :=
  ∀ i (h : i < ss.length), ∃ b off, a = some ⟨b, off, none⟩ ∧ b < B ∧ w.cell? ⟨b, off + i, none⟩ = some (.string ss[i]) ∧ ss[i].size ≤ 9223372036854775807
theorem StrsAt.below {w w' : World} {B : Nat} {a : Option Addr} {xs : List ByteArray} (h : StrsAt w B a xs) (hk : Below B w w') : StrsAt w' B a xs := by
  intro i hi
  obtain ⟨b, off, ha, hb, hc, hs⟩ := h i hi
  exact ⟨b, off, ha, hb, by rw [below_cell hk hb]; exact hc, hs⟩
/-- A rule in memory. -/
structure RuleD where
  left : Int
  ra : Option Addr
  right : List Int
  rc : Nat
  wt : Nat
def RulesAt (w : World) (B : Nat) (a : Option Addr) (rs : List RuleD) : Prop :=
  ∀ i (h : i < rs.length), ∃ b off, a = some ⟨b, off, none⟩ ∧ b < B ∧ w.cell? ⟨b, off + i * 3, none⟩ = some (.int .i64 rs[i].left) ∧
    w.cell? ⟨b, off + i * 3 + 1, none⟩ = some (.slice rs[i].ra rs[i].right.length rs[i].rc) ∧ w.cell? ⟨b, off + i * 3 + 2, none⟩ = some (.float .f64 rs[i].wt) ∧
    Ints w B rs[i].ra rs[i].right ∧ rs[i].right.length ≤ 9223372036854775807
theorem RulesAt.below {w w' : World} {B : Nat} {a : Option Addr} {xs : List RuleD} (h : RulesAt w B a xs) (hk : Below B w w') : RulesAt w' B a xs := by
  intro i hi
  obtain ⟨b, off, ha, hb, h1, h2, h3, h4, h5⟩ := h i hi
  exact ⟨b, off, ha, hb, by rw [below_cell hk hb]; exact h1, by rw [below_cell hk hb]; exact h2, by rw [below_cell hk hb]; exact h3, h4.below hk, h5⟩
/-- A grammar by value. -/
structure GramD where
  ta : Option Addr
  terms : List ByteArray
  tc : Nat
  va : Option Addr
  vars : List ByteArray
  vc : Nat
  ra : Option Addr
  rules : List RuleD
  rc : Nat
def GramD.tv (g : GramD) : Value := .slice g.ta g.terms.length g.tc
def GramD.vv (g : GramD) : Value := .slice g.va g.vars.length g.vc
def GramD.rv (g : GramD) : Value := .slice g.ra g.rules.length g.rc
structure GramAt (w : World) (B : Nat) (g : GramD) : Prop where
  terms : StrsAt w B g.ta g.terms
  vars : StrsAt w B g.va g.vars
  rules : RulesAt w B g.ra g.rules
  lt : g.terms.length ≤ 9223372036854775807
  lv : g.vars.length ≤ 9223372036854775807
  lr : g.rules.length ≤ 9223372036854775807
  nils : ∀ i (h : i < g.rules.length), g.rules[i].ra = none → g.rules[i].rc = 0
theorem GramAt.below {w w' : World} {B : Nat} {g : GramD} (h : GramAt w B g) (hk : Below B w w') : GramAt w' B g :=
  ⟨h.terms.below hk, h.vars.below hk, h.rules.below hk, h.lt, h.lv, h.lr, h.nils⟩
/-- It answers some bool, and writes nothing. -/
def SomeBool (w : World) (e : Ending) (w' : World) : Prop := ∃ b : Bool, e = .returned (.bool b) ∧ w = w'
def SomeBoolB (w : World) (e : Ending) (w' : World) : Prop := ∃ b : Bool, e = .returned (.bool b) ∧ Below w.heap.size w w'
def SomeInt (w : World) (e : Ending) (w' : World) : Prop := ∃ n : Int, e = .returned (.int .i64 n) ∧ w = w'
def SomeIntB (w : World) (e : Ending) (w' : World) : Prop := ∃ n : Int, e = .returned (.int .i64 n) ∧ Below w.heap.size w w'
end Go
