/- Trees: plain ones and those that lie in memory. They speak of no program. -/
import Derived.Test.YtfiafmhnmafnbaaAppend
import Derived.RangeFuncBox
namespace Go
open Go.RowKit
/-- A tree. -/
inductive PT where
  | node (s r : Int) (kids : List PT)
/-- A tree in memory: the node's block, its kids' slice. -/
inductive MT where
  | node (b : Nat) (v : Value) (s r : Int) (kids : List MT)
theorem PT.size_lt {s r : Int} {kids : List PT} {k : PT} (h : k ∈ kids) : _root_.SizeOf.sizeOf k < _root_.SizeOf.sizeOf (PT.node s r kids) := by
  have := List.sizeOf_lt_of_mem h
  simp only [PT.node.sizeOf_spec]; omega
theorem PT.ind {P : PT → Prop} (h : ∀ s r kids, (∀ k ∈ kids, P k) → P (.node s r kids)) : ∀ t, P t
  | .node s r kids => h s r kids fun k _hk => PT.ind h k
termination_by t => _root_.SizeOf.sizeOf t
decreasing_by exact PT.size_lt _hk
theorem MT.size_lt {b : Nat} {v : Value} {s r : Int} {kids : List MT} {k : MT} (h : k ∈ kids) : _root_.SizeOf.sizeOf k < _root_.SizeOf.sizeOf (MT.node b v s r kids) := by
  have := List.sizeOf_lt_of_mem h
  simp only [MT.node.sizeOf_spec]; omega
theorem MT.ind {P : MT → Prop} (h : ∀ b v s r kids, (∀ k ∈ kids, P k) → P (.node b v s r kids)) : ∀ t, P t
  | .node b v s r kids => h b v s r kids fun k _hk => MT.ind h k
termination_by t => _root_.SizeOf.sizeOf t
decreasing_by exact MT.size_lt _hk
def PT.sym : PT → Int | .node s _ _ => s
def PT.rule : PT → Int | .node _ r _ => r
def PT.kids : PT → List PT | .node _ _ k => k
def MT.sym : MT → Int | .node _ _ s _ _ => s
def MT.rule : MT → Int | .node _ _ _ r _ => r
def MT.kids : MT → List MT | .node _ _ _ _ k => k
def MT.blk : MT → Nat | .node b _ _ _ _ => b
def MT.sl : MT → Value | .node _ v _ _ _ => v
mutual
def MT.pt : MT → PT | .node _ _ s r kids => .node s r (MT.ptL kids)
def MT.ptL : List MT → List PT | [] => [] | k :: ks => k.pt :: MT.ptL ks
end
theorem MT.ptL_map (ks : List MT) : MT.ptL ks = ks.map MT.pt := by
  induction ks with
  | nil => rfl
  | cons k ks ih => rw [MT.ptL, ih]; rfl
theorem MT.pt_node (b : Nat) (v : Value) (s r : Int) (kids : List MT) : (MT.node b v s r kids).pt = .node s r (kids.map MT.pt) := by rw [MT.pt, MT.ptL_map]
def MT.ptr (t : MT) : Value := .pointer (some ⟨t.blk, 0, none⟩)
mutual
/-- The tree lies in the world, in blocks from lo on. -/
def MT.At (w : World) (lo : Nat) : MT → Prop
  | .node b v s r kids => lo ≤ b ∧ w.heap[b]? = some (.cells #[.int .i64 s, .int .i64 r, v] 45 (0, 0)) ∧ w.ownsRow lo 29 1 v kids.length (kids.map MT.ptr) ∧ MT.AtL w lo kids
def MT.AtL (w : World) (lo : Nat) : List MT → Prop
  | [] => True
  | k :: ks => MT.At w lo k ∧ MT.AtL w lo ks
end
theorem MT.atL_iff {w : World} {lo : Nat} {ks : List MT} : MT.AtL w lo ks ↔ ∀ k ∈ ks, MT.At w lo k := by
  induction ks with
  | nil => simp [MT.AtL]
  | cons k ks ih => simp [MT.AtL, ih]
mutual
/-- The blocks of a tree: its nodes, and their kids' rows. -/
def MT.blocks : MT → List Nat
  | .node b v _ _ kids => b :: (v.ownBlock.toList ++ MT.blocksL kids)
def MT.blocksL : List MT → List Nat
  | [] => []
  | k :: ks => MT.blocks k ++ MT.blocksL ks
end
theorem MT.blocksL_flat (ks : List MT) : MT.blocksL ks = ks.flatMap MT.blocks := by
  induction ks with
  | nil => rfl
  | cons k ks ih => simp [MT.blocksL, ih]
theorem MT.mem_blocks {b : Nat} {v : Value} {s r : Int} {kids : List MT} {k : Nat} : k ∈ (MT.node b v s r kids).blocks ↔ k = b ∨ v.ownBlock = some k ∨ ∃ c ∈ kids, k ∈ c.blocks := by
  simp [MT.blocks, MT.blocksL_flat]
theorem row_kept {w w' : World} {base : Nat} {e : TypeId} {size : Nat} {v : Value} {n : Nat} {xs : List Value} (h : w.ownsRow base e size v n xs) (hk : ∀ g, v.ownBlock = some g → w'.heap[g]? = w.heap[g]?) : w'.ownsRow base e size v n xs := by
  obtain ⟨h1, h2⟩ := h
  refine ⟨h1, ?_⟩
  rcases h2 with h2 | ⟨g, cap, cur, rfl, hg, hh, r⟩
  · exact .inl h2
  · exact .inr ⟨g, cap, cur, rfl, hg, by rw [hk g rfl]; exact hh, r⟩
theorem row_lt {w : World} {base : Nat} {e : TypeId} {size : Nat} {v : Value} {n : Nat} {xs : List Value} (h : w.ownsRow base e size v n xs) {g : Nat} (hg : v.ownBlock = some g) : base ≤ g ∧ g < w.heap.size := by
  obtain ⟨h1, h2⟩ := h
  rcases h2 with ⟨rfl, _⟩ | ⟨g', cap, cur, rfl, hg', hh, r⟩
  · simp [Value.ownBlock] at hg
  · simp [Value.ownBlock] at hg
    subst hg
    exact ⟨hg', lt_of_block hh⟩
theorem row_low {w : World} {base base' : Nat} (hb : base' ≤ base) {e : TypeId} {size : Nat} {v : Value} {n : Nat} {xs : List Value} (h : w.ownsRow base e size v n xs) : w.ownsRow base' e size v n xs := by
  obtain ⟨h1, h2⟩ := h
  refine ⟨h1, ?_⟩
  rcases h2 with h2 | ⟨g, cap, cur, rfl, hg, r⟩
  · exact .inl h2
  · exact .inr ⟨g, cap, cur, rfl, by omega, r⟩
/-- What a row of one-celled elements reads. -/
theorem row_reads {w : World} {base : Nat} {e : TypeId} {v : Value} {xs : List Value} (h : w.ownsRow base e 1 v xs.length xs) : ∃ a cap, v = .slice a xs.length cap ∧ (a = none → cap = 0) ∧ xs.length ≤ cap ∧ cap ≤ maxLen ∧
    ∀ i (hi : i < xs.length), ∃ g, a = some ⟨g, 0, none⟩ ∧ w.cell? ⟨g, i, none⟩ = some xs[i] := by
  obtain ⟨h1, h2⟩ := h
  rcases h2 with ⟨rfl, h0⟩ | ⟨g, cap, cur, rfl, hg, hh, hn, hc, hsz, htk⟩
  · exact ⟨none, 0, by rw [h0], fun _ => rfl, by omega, by simp, fun i hi => by omega⟩
  · refine ⟨some ⟨g, 0, none⟩, cap, rfl, (fun h => by cases h), by omega, hc, fun i hi => ⟨g, rfl, ?_⟩⟩
    have hcc : w.cell? ⟨g, i, none⟩ = cur[i]? := cell_of_block hh
    rw [hcc]
    have h3 : (cur.toList.take (xs.length * 1))[i]? = xs[i]? := by rw [htk]
    rw [List.getElem?_take, if_pos (by omega), List.getElem?_eq_getElem hi] at h3
    simpa using h3
theorem MT.At.kept {w w' : World} {lo : Nat} {t : MT} (h : MT.At w lo t) (hk : ∀ k ∈ t.blocks, w'.heap[k]? = w.heap[k]?) : MT.At w' lo t := by
  induction t using MT.ind with | h b v s r kids ih => ?_
  obtain ⟨h1, h2, h3, h4⟩ := h
  refine ⟨h1, (hk b (MT.mem_blocks.2 (.inl rfl))).trans h2, row_kept h3 (fun g hg => hk g (MT.mem_blocks.2 (.inr (.inl hg)))), MT.atL_iff.2 fun k hkk => ?_⟩
  exact ih k hkk (MT.atL_iff.1 h4 k hkk) fun j hj => hk j (MT.mem_blocks.2 (.inr (.inr ⟨k, hkk, hj⟩)))
theorem MT.At.lt {w : World} {lo : Nat} {t : MT} (h : MT.At w lo t) (k : Nat) (hk : k ∈ t.blocks) : lo ≤ k ∧ k < w.heap.size := by
  induction t using MT.ind with | h b v s r kids ih => ?_
  obtain ⟨h1, h2, h3, h4⟩ := h
  rcases MT.mem_blocks.1 hk with rfl | hk | ⟨c, hc, hk⟩
  · exact ⟨h1, lt_of_block h2⟩
  · exact row_lt h3 hk
  · exact ih c hc (MT.atL_iff.1 h4 c hc) hk
theorem MT.At.low {w : World} {lo lo' : Nat} (hl : lo' ≤ lo) {t : MT} (h : MT.At w lo t) : MT.At w lo' t := by
  induction t using MT.ind with | h b v s r kids ih => ?_
  obtain ⟨h1, h2, h3, h4⟩ := h
  exact ⟨by omega, h2, row_low hl h3, MT.atL_iff.2 fun k hk => ih k hk (MT.atL_iff.1 h4 k hk)⟩
theorem MT.At.below {w w' : World} {lo : Nat} {t : MT} (h : MT.At w lo t) (hb : Below w.heap.size w w') : MT.At w' lo t :=
  h.kept fun k hk => hb.block k (h.lt k hk).2
theorem MT.At.drew {w : World} {lo : Nat} {t : MT} (h : MT.At w lo t) : MT.At w.drew lo t := h.kept fun _ _ => rfl
theorem MT.At.drewN {w : World} {lo : Nat} {t : MT} (h : MT.At w lo t) (n : Nat) : MT.At (w.drewN n) lo t := h.kept fun _ _ => rfl
theorem MT.At.kid {w : World} {lo : Nat} {b : Nat} {v : Value} {s r : Int} {kids : List MT} (h : MT.At w lo (.node b v s r kids)) {k : MT} (hk : k ∈ kids) : MT.At w lo k := MT.atL_iff.1 h.2.2.2 k hk
/-- A node, read. -/
theorem MT.At.reads {w : World} {lo : Nat} {b : Nat} {v : Value} {s r : Int} {kids : List MT} (h : MT.At w lo (.node b v s r kids)) :
    ∃ a cap, v = .slice a kids.length cap ∧ (a = none → cap = 0) ∧ kids.length ≤ cap ∧ cap ≤ maxLen ∧ ∀ i (hi : i < kids.length), ∃ g, a = some ⟨g, 0, none⟩ ∧ w.cell? ⟨g, i, none⟩ = some kids[i].ptr := by
  have h3 := h.2.2.1
  rw [show kids.length = (kids.map MT.ptr).length by simp] at h3
  obtain ⟨a, cap, h1, h2, h4, h5, h6⟩ := row_reads h3
  refine ⟨a, cap, by simpa using h1, h2, by simpa using h4, h5, fun i hi => ?_⟩
  obtain ⟨g, hg, hc⟩ := h6 i (by simpa using hi)
  exact ⟨g, hg, by simpa using hc⟩
mutual
def PT.size : PT → Nat | .node _ _ kids => 1 + PT.sizeL kids
def PT.sizeL : List PT → Nat | [] => 0 | k :: ks => k.size + PT.sizeL ks
end
mutual
def PT.height : PT → Nat | .node _ _ kids => PT.heightL kids + 1
def PT.heightL : List PT → Nat | [] => 0 | k :: ks => max k.height (PT.heightL ks)
end
mutual
def PT.rules : PT → List Int | .node s r kids => (if 0 ≤ s then [r] else []) ++ PT.rulesL kids
def PT.rulesL : List PT → List Int | [] => [] | k :: ks => k.rules ++ PT.rulesL ks
end
mutual
/-- A tree's terminals (as symbols). -/
def PT.leaves : PT → List Int | .node s _ kids => (if 0 ≤ s then [] else [s]) ++ PT.leavesL kids
def PT.leavesL : List PT → List Int | [] => [] | k :: ks => k.leaves ++ PT.leavesL ks
end
theorem PT.sizeL_append (a b : List PT) : PT.sizeL (a ++ b) = PT.sizeL a + PT.sizeL b := by
  induction a with
  | nil => simp [PT.sizeL]
  | cons k ks ih => simp [PT.sizeL, ih]; omega
theorem PT.heightL_append (a b : List PT) : PT.heightL (a ++ b) = max (PT.heightL a) (PT.heightL b) := by
  induction a with
  | nil => simp [PT.heightL]
  | cons k ks ih => simp [PT.heightL, ih]
theorem PT.rulesL_append (a b : List PT) : PT.rulesL (a ++ b) = PT.rulesL a ++ PT.rulesL b := by
  induction a with
  | nil => simp [PT.rulesL]
  | cons k ks ih => simp [PT.rulesL, ih]
theorem PT.leavesL_append (a b : List PT) : PT.leavesL (a ++ b) = PT.leavesL a ++ PT.leavesL b := by
  induction a with
  | nil => simp [PT.leavesL]
  | cons k ks ih => simp [PT.leavesL, ih]
theorem PT.size_le {ks : List PT} {k : PT} (h : k ∈ ks) : k.size ≤ PT.sizeL ks := by
  induction ks with
  | nil => cases h
  | cons x xs ih =>
    simp only [PT.sizeL]
    rcases List.mem_cons.1 h with rfl | h
    · omega
    · have := ih h; omega
theorem PT.size_pos (t : PT) : 0 < t.size := by cases t; simp only [PT.size]; omega
theorem PT.height_le (t : PT) : t.height ≤ t.size := by
  induction t using PT.ind with | h s r kids ih => ?_
  have : PT.heightL kids ≤ PT.sizeL kids := by
    clear s r
    induction kids with
    | nil => simp [PT.heightL]
    | cons k ks ih2 =>
      have h1 := ih k (by simp)
      have h2 := ih2 (fun x hx => ih x (by simp [hx]))
      simp only [PT.heightL, PT.sizeL]; omega
  simp only [PT.height, PT.size]; omega
theorem PT.len_le (ks : List PT) : ks.length ≤ PT.sizeL ks := by
  induction ks with
  | nil => simp
  | cons k ks ih => have := PT.size_pos k; simp only [PT.sizeL, List.length_cons]; omega
end Go
