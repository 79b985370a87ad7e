/- A tree is built. -/
import Derived.Test.YtfiafmhnmafnbaaRight
import Derived.Test.YtfiafmhnmafnbaaRStep
import Derived.Test.YtfiafmhnmafnbaaHeight
import Derived.Deep.RegionLaw
import Derived.Deep.AppendLies
namespace Go.Proofs.Ytfiafmhnmafnbaa
open Go.RowKit
/-- The rule of a number. -/
def getR (g : GramD) (r : Int) : Option RuleD := if 0 ≤ r then g.rules[r.toNat]? else none
mutual
/-- Is it a tree of the grammar? -/
def _root_.Go.PT.valid (g : GramD) : PT → Bool
  | .node s r kids =>
    if 0 ≤ s then
      match getR g r with
      | some rl => decide (rl.left = s) && (PT.validL g kids && decide (kids.map PT.sym = rl.right))
      | none => false
    else decide (nt s < g.terms.length) && (decide (r = -1) && kids.isEmpty)
def _root_.Go.PT.validL (g : GramD) : List PT → Bool
  | [] => true
  | k :: ks => k.valid g && PT.validL g ks
end
theorem validL_iff {g : GramD} {ks : List PT} : PT.validL g ks = true ↔ ∀ k ∈ ks, k.valid g = true := by
  induction ks with
  | nil => simp [PT.validL]
  | cons k ks ih => simp [PT.validL, ih]
theorem valid_leaf {g : GramD} {s r : Int} {kids : List PT} (h : (PT.node s r kids).valid g = true) (hs : s < 0) : nt s < g.terms.length ∧ r = -1 ∧ kids = [] := by
  rw [PT.valid, if_neg (by omega)] at h
  simp at h
  exact h
theorem valid_var {g : GramD} {s r : Int} {kids : List PT} (h : (PT.node s r kids).valid g = true) (hs : 0 ≤ s) :
    ∃ k : Nat, r = k ∧ ∃ hk : k < g.rules.length, g.rules[k].left = s ∧ kids.map PT.sym = g.rules[k].right ∧ ∀ c ∈ kids, c.valid g = true := by
  rw [PT.valid, if_pos hs] at h
  unfold getR at h
  by_cases h0 : 0 ≤ r
  · rw [if_pos h0] at h
    by_cases hk : r.toNat < g.rules.length
    · rw [List.getElem?_eq_getElem hk] at h
      simp at h
      exact ⟨r.toNat, by omega, hk, h.1, h.2.2, validL_iff.1 h.2.1⟩
    · rw [List.getElem?_eq_none (by omega)] at h
      simp at h
  · rw [if_neg h0] at h
    simp at h
/-- The builder, in block bb: the grammar, and what is left of the derivation. -/
def BuildAt (B bb : Nat) (g : GramD) (rl : List Int) (w : World) : Prop :=
  B ≤ bb ∧ GramAt w B g ∧ ∃ a c, w.heap[bb]? = some (.cells #[.slice g.ta g.terms.length g.tc, .slice g.va g.vars.length g.vc, .slice g.ra g.rules.length g.rc, .slice a rl.length c] 62 (0, 0)) ∧ Ints w B a rl ∧ rl.length ≤ c ∧ c ≤ 9223372036854775807
def NodePost (T : PT) (B bb : Nat) (g : GramD) (rest : List Int) (w : World) (e : Ending) (w' : World) : Prop :=
  ∃ t : MT, e = .returned t.ptr ∧ t.pt = T ∧ MT.At w' w.heap.size t ∧ t.blocks.Nodup ∧ BuildAt B bb g rest w' ∧ Kept (· = bb) w w'
set_option maxRecDepth 100000 in
theorem slice_l (W : World) (a : Option Addr) (len cap c : Nat) (h : c ≤ len) :
    (Instr.slice 26 (.slice a len cap) (some (.int .i64 (c : Int))) none none).run Try.prog W = .ok (.slice (if cap = c then a else a.map (fun x => x.add c)) (len - c) (cap - c)) W := by
  have hz : (Go.sizeOf 3).run Try.prog W = .ok 1 W := rfl
  have he : Try.prog.elem 26 = 3 := by simp [Program.elem, Try.underlying26]
  rw [run_slice_l W 26 _ _ _ (by simp [Program.elem, Try.underlying26]) .i64 _ (by omega) (by omega), he, hz]
  simp [Result.andThen, sliced]
theorem slice_1 (W : World) (a : Option Addr) (len cap : Nat) (h : 1 ≤ len) :
    (Instr.slice 26 (.slice a len cap) (some (.int .i64 1)) none none).run Try.prog W = .ok (.slice (if cap = 1 then a else a.map (fun x => x.add 1)) (len - 1) (cap - 1)) W := slice_l W a len cap 1 h
theorem ints_tail {w : World} {B : Nat} {a : Option Addr} {x : Int} {xs : List Int} (h : Ints w B a (x :: xs)) {cap : Nat} (hl : (x :: xs).length ≤ cap) : Ints w B (if cap = 1 then a else a.map (fun x => x.add 1)) xs := fun i hi => by
  obtain ⟨b, off, ha, hb, hc⟩ := h (i + 1) (by simpa using hi)
  simp only [List.length_cons] at hl
  rw [if_neg (by omega)]
  subst ha
  exact ⟨b, off + 1, by rw [Option.map_some, addr_add], hb, by rw [Nat.add_assoc, Nat.add_comm 1 i]; simpa using hc⟩
/-- Behind k kids. -/
structure NodeInv (B bb nb : Nat) (g : GramD) (s r : Int) (kids : List PT) (rest : List Int) (w : World) (k : Nat) (ms : List MT) (v : Value) (wr : World) : Prop where
  len : ms.length = k
  pts : ms.map MT.pt = kids.take k
  node : wr.heap[nb]? = some (.cells #[.int .i64 s, .int .i64 r, v] 45 (0, 0))
  row : wr.ownsRow (nb + 1) 29 1 v k (ms.map MT.ptr)
  lies : ∀ m ∈ ms, MT.At wr (nb + 1) m
  apart : (v.ownBlock.toList ++ MT.blocksL ms).Nodup
  build : BuildAt B bb g (PT.rulesL (kids.drop k) ++ rest) wr
  kept : Kept (· = bb) w wr
  low : bb < nb
  nbw : nb = w.heap.size
theorem nodup_row {v : Value} {ms : List MT} {wr : World} {nb k : Nat} {xs : List Value} (h : (v.ownBlock.toList ++ MT.blocksL ms).Nodup) (hr : wr.ownsRow (nb + 1) 29 1 v k xs) (hl : ∀ m ∈ ms, MT.At wr (nb + 1) m)
    {t : MT} {w1 : World} {H : Nat} (hs : wr.heap.size ≤ H) (ht : MT.At w1 H t) (hn : t.blocks.Nodup) {gg n cap : Nat} {H' : Nat} (hs' : w1.heap.size ≤ H') (hat : v.ownBlock = some gg ∨ gg = H') :
    ((Value.slice (some ⟨gg, 0, none⟩) n cap).ownBlock.toList ++ MT.blocksL (ms ++ [t])).Nodup := by
  have e : MT.blocksL (ms ++ [t]) = MT.blocksL ms ++ t.blocks := by simp [MT.blocksL_flat]
  have hml : ∀ x ∈ MT.blocksL ms, nb + 1 ≤ x ∧ x < wr.heap.size := fun x hx => by
    rw [MT.blocksL_flat] at hx
    obtain ⟨m, hm, hx⟩ := List.mem_flatMap.1 hx
    exact (hl m hm).lt x hx
  have htl : ∀ x ∈ t.blocks, H ≤ x ∧ x < w1.heap.size := fun x hx => ht.lt x hx
  have h2 := (List.nodup_append.1 h).2.1
  have h3 := (List.nodup_append.1 h).2.2
  rw [e, show (Value.slice (some ⟨gg, 0, none⟩) n cap).ownBlock.toList = [gg] from by simp [Value.ownBlock]]
  refine List.nodup_append.2 ⟨by simp, List.nodup_append.2 ⟨h2, hn, fun a ha b hb he => ?_⟩, fun a ha b hb he => ?_⟩
  · have := hml a ha; have := htl b hb; omega
  · obtain rfl : a = gg := by simpa using ha
    subst he
    rcases hat with hat | hat
    · rcases List.mem_append.1 hb with hb | hb
      · exact h3 a (by rw [hat]; simp) a hb rfl
      · have := (row_lt hr hat).2; have := htl a hb; omega
    · rcases List.mem_append.1 hb with hb | hb
      · have := hml a hb
        have h5 : ∀ x ∈ t.blocks, H ≤ w1.heap.size := fun x hx => by have := htl x hx; omega
        have h6 : t.blocks ≠ [] := by cases t; simp [MT.blocks]
        obtain ⟨x, hx⟩ := List.exists_mem_of_ne_nil _ h6
        have := h5 x hx
        omega
      · have := htl a hb; omega
theorem NodeInv.next {B bb nb : Nat} {g : GramD} {s r : Int} {kids : List PT} {rest : List Int} {w : World} {k : Nat} {ms : List MT} {v : Value} {wr : World} (h : NodeInv B bb nb g s r kids rest w k ms v wr) (hk : k < kids.length)
    {t : MT} {w1 w2 w3 : World} {gg cap : Nat} (hp : t.pt = kids[k]) (ht : MT.At w1 wr.heap.size t) (hn : t.blocks.Nodup) (hbu : BuildAt B bb g (PT.rulesL (kids.drop (k + 1)) ++ rest) w1) (hkp : Kept (· = bb) wr w1)
    {o : Obj} (hw2 : w2 = w1.alloc o) (hgr : w2.grownBy w3 v.ownBlock) (hrow : w3.ownsRow (nb + 1) 29 1 (.slice (some ⟨gg, 0, none⟩) (k + 1) cap) (k + 1) (ms.map MT.ptr ++ [t.ptr])) (hat : v.ownBlock = some gg ∨ gg = w1.heap.size + 1) :
    NodeInv B bb nb g s r kids rest w (k + 1) (ms ++ [t]) (.slice (some ⟨gg, 0, none⟩) (k + 1) cap) (w3.setCell ⟨nb, 2, none⟩ (.slice (some ⟨gg, 0, none⟩) (k + 1) cap)) := by
  subst hw2
  have hnb := lt_of_block h.node
  have hrl := fun x (hx : v.ownBlock = some x) => row_lt h.row hx
  have hlow := h.low
  have hs1 := hkp.size
  have hs2 : (w1.alloc o).heap.size = w1.heap.size + 1 := World.size_alloc _ _
  have hs3 := hgr.size
  obtain ⟨gb, hggr, ga, gc, hblk, hints, hgc⟩ := hbu
  have hb1 := lt_of_block hblk
  have k1 : ∀ x, x < w1.heap.size → v.ownBlock ≠ some x → x ≠ nb → (w3.setCell ⟨nb, 2, none⟩ (.slice (some ⟨gg, 0, none⟩) (k + 1) cap)).heap[x]? = w1.heap[x]? := fun x hx h1 h2 =>
    (Below.heap_setCell _ _ _ _ h2).trans ((hgr.block x (by omega) (fun e => h1 e.symm)).trans (Below.heap_alloc _ _ _ hx))
  have hnl : ∀ m ∈ ms, ∀ x ∈ m.blocks, v.ownBlock ≠ some x := fun m hm x hx e => by
    have h3 := (List.nodup_append.1 h.apart).2.2 x (by rw [e]; simp) x (by rw [MT.blocksL_flat]; exact List.mem_flatMap.2 ⟨m, hm, hx⟩)
    exact h3 rfl
  have hB : Below B w1 (w3.setCell ⟨nb, 2, none⟩ (.slice (some ⟨gg, 0, none⟩) (k + 1) cap)) := by
    refine ⟨hgr.os, hgr.tape, hgr.output, by simpa [World.setCell] using (by omega : w1.heap.size ≤ w3.heap.size), fun x hx => ?_⟩
    exact k1 x (by omega) (fun e => by have := hrl x e; omega) (by omega)
  refine ⟨by simp [h.len], by rw [List.map_append, h.pts, List.take_succ_eq_append_getElem hk]; simp [hp], ?_, ?_, ?_, ?_, ?_, ?_, h.low, h.nbw⟩
  · have h1 : w3.heap[nb]? = some (.cells #[.int .i64 s, .int .i64 r, v] 45 (0, 0)) :=
      ((hgr.block nb (by omega) (fun e => by have := hrl nb e.symm; omega)).trans ((Below.heap_alloc _ _ _ (by omega)).trans ((hkp.block nb hnb (by omega))))).trans h.node
    exact heap_setCell_known h1
  · rw [List.map_append]
    refine row_kept hrow fun x hx => Below.heap_setCell _ _ _ _ (fun e => ?_)
    have e : x = nb := e
    simp [Value.ownBlock] at hx
    subst hx
    rcases hat with hat | hat
    · have := hrl _ hat; omega
    · omega
  · intro m hm
    rcases List.mem_append.1 hm with hm | hm
    · refine (h.lies m hm).kept fun x hx => ?_
      have h5 := (h.lies m hm).lt x hx
      exact (k1 x (by omega) (hnl m hm x hx) (by omega)).trans (hkp.block x h5.2 (by omega))
    · obtain rfl : m = t := by simpa using hm
      refine (ht.low (lo' := nb + 1) (by omega)).kept fun x hx => ?_
      have h5 := ht.lt x hx
      exact k1 x h5.2 (fun e => by have := hrl x e; omega) (by omega)
  · exact nodup_row h.apart h.row h.lies (Nat.le_refl _) ht hn (H' := w1.heap.size + 1) (by omega) hat
  · exact ⟨gb, hggr.below hB, ga, gc, (k1 bb hb1 (fun e => by have := hrl bb e; omega) (by omega)).trans hblk, hints.below hB, hgc⟩
  · have h6 := h.kept
    refine ⟨(hgr.os.trans hkp.os).trans h6.os, (hgr.tape.trans hkp.tape).trans h6.tape, (hgr.output.trans hkp.output).trans h6.output, by have := h6.size; simpa [World.setCell] using (by omega : w.heap.size ≤ w3.heap.size), fun x hx hs => ?_⟩
    have := h6.size
    have hnw := h.nbw
    exact (k1 x (by omega) (fun e => by have := hrl x e; omega) (by omega)).trans ((hkp.block x (by omega) hs).trans (h6.block x hx hs))
end Go.Proofs.Ytfiafmhnmafnbaa
