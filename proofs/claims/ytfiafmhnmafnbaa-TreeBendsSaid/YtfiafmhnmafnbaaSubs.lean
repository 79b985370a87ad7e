/- A tree's nodes; a node is turned. -/
import Derived.Test.YtfiafmhnmafnbaaTwo
namespace Go
open Go.RowKit
mutual
def MT.subs : MT → List MT | .node b v s r kids => .node b v s r kids :: MT.subsL kids
def MT.subsL : List MT → List MT | [] => [] | k :: ks => k.subs ++ MT.subsL ks
end
theorem MT.subsL_flat (ks : List MT) : MT.subsL ks = ks.flatMap MT.subs := by
  induction ks with
  | nil => rfl
  | cons k ks ih => simp [MT.subsL, ih]
theorem MT.mem_subs {b : Nat} {v : Value} {s r : Int} {kids : List MT} {n : MT} : n ∈ (MT.node b v s r kids).subs ↔ n = .node b v s r kids ∨ ∃ k ∈ kids, n ∈ k.subs := by
  rw [MT.subs, MT.subsL_flat, List.mem_cons, List.mem_flatMap]
theorem MT.self_subs (t : MT) : t ∈ t.subs := by cases t; exact MT.mem_subs.2 (.inl rfl)
theorem MT.kid_subs {t : MT} {b : Nat} {v : Value} {s r : Int} {kids : List MT} (h : MT.node b v s r kids ∈ t.subs) {k : MT} (hk : k ∈ kids) : k ∈ t.subs := by
  induction t using MT.ind with | h b2 v2 s2 r2 kids2 ih => ?_
  rcases MT.mem_subs.1 h with h | ⟨c, hc, h⟩
  · injection h with h1 h2 h3 h4 h5
    subst h5
    exact MT.mem_subs.2 (.inr ⟨k, hk, MT.self_subs k⟩)
  · exact MT.mem_subs.2 (.inr ⟨c, hc, ih c hc h⟩)
def MT.lbl (n : MT) : List Nat := n.blk :: n.sl.ownBlock.toList
theorem MT.blocks_subs (t : MT) : t.blocks = t.subs.flatMap MT.lbl := by
  induction t using MT.ind with | h b v s r kids ih => ?_
  have : MT.blocksL kids = (MT.subsL kids).flatMap MT.lbl := by
    induction kids with
    | nil => rfl
    | cons k ks ih2 => rw [MT.blocksL, MT.subsL, List.flatMap_append, ih k (by simp), ih2 (fun x hx => ih x (by simp [hx]))]
  rw [MT.blocks, MT.subs, List.flatMap_cons, this]
  rfl
theorem flat_inj {α : Type} {f : α → List Nat} : ∀ {l : List α}, (l.flatMap f).Nodup → ∀ {a b : α} {x : Nat}, a ∈ l → b ∈ l → x ∈ f a → x ∈ f b → a = b
  | [], _, _, _, _, ha, _, _, _ => by cases ha
  | c :: l, h, a, b, x, ha, hb, hxa, hxb => by
    rw [List.flatMap_cons] at h
    obtain ⟨h1, h2, h3⟩ := List.nodup_append.1 h
    rcases List.mem_cons.1 ha with rfl | ha'
    · rcases List.mem_cons.1 hb with rfl | hb'
      · rfl
      · exact absurd rfl (h3 x hxa x (List.mem_flatMap.2 ⟨b, hb', hxb⟩))
    · rcases List.mem_cons.1 hb with rfl | hb'
      · exact absurd rfl (h3 x hxb x (List.mem_flatMap.2 ⟨a, ha', hxa⟩))
      · exact flat_inj h2 ha' hb' hxa hxb
theorem MT.uniq {t n x : MT} (h : t.blocks.Nodup) (hn : n ∈ t.subs) (hx : x ∈ t.subs) (he : n.blk = x.blk) : n = x := by
  rw [MT.blocks_subs] at h
  exact flat_inj h hn hx (x := n.blk) (by simp [MT.lbl]) (by simp [MT.lbl, he])
theorem MT.uniq_row {t n x : MT} (h : t.blocks.Nodup) (hn : n ∈ t.subs) (hx : x ∈ t.subs) {g : Nat} (h1 : n.sl.ownBlock = some g) (h2 : x.sl.ownBlock = some g) : n = x := by
  rw [MT.blocks_subs] at h
  exact flat_inj h hn hx (x := g) (by simp [MT.lbl, h1]) (by simp [MT.lbl, h2])
theorem MT.At.sub {w : World} {lo : Nat} {t : MT} (h : MT.At w lo t) {n : MT} (hn : n ∈ t.subs) : MT.At w lo n := by
  induction t using MT.ind with | h b v s r kids ih => ?_
  rcases MT.mem_subs.1 hn with rfl | ⟨c, hc, hn⟩
  · exact h
  · exact ih c hc (h.kid hc) hn
mutual
/-- The node of block xb gets the rule r. -/
def MT.setR (xb : Nat) (r' : Int) : MT → MT | .node b v s r kids => .node b v s (if b = xb then r' else r) (MT.setRL xb r' kids)
def MT.setRL (xb : Nat) (r' : Int) : List MT → List MT | [] => [] | k :: ks => k.setR xb r' :: MT.setRL xb r' ks
end
theorem MT.setRL_map (xb : Nat) (r' : Int) (ks : List MT) : MT.setRL xb r' ks = ks.map (MT.setR xb r') := by
  induction ks with
  | nil => rfl
  | cons k ks ih => rw [MT.setRL, ih]; rfl
theorem MT.setR_blk (xb : Nat) (r' : Int) (t : MT) : (t.setR xb r').blk = t.blk := by cases t; rfl
theorem MT.setR_sym (xb : Nat) (r' : Int) (t : MT) : (t.setR xb r').sym = t.sym := by cases t; rfl
theorem MT.setR_ptr (xb : Nat) (r' : Int) (t : MT) : (t.setR xb r').ptr = t.ptr := by unfold MT.ptr; rw [MT.setR_blk]
theorem MT.setR_size (xb : Nat) (r' : Int) (t : MT) : (t.setR xb r').pt.size = t.pt.size := by
  induction t using MT.ind with | h b v s r kids ih => ?_
  rw [MT.setR, MT.pt_node, MT.pt_node, PT.size, PT.size, MT.setRL_map]
  congr 1
  induction kids with
  | nil => rfl
  | cons k ks ih2 => simp only [List.map_cons, PT.sizeL, ih k (by simp), ih2 (fun x hx => ih x (by simp [hx]))]
theorem MT.setR_twice (xb : Nat) (r1 r2 : Int) (t : MT) : (t.setR xb r1).setR xb r2 = t.setR xb r2 := by
  induction t using MT.ind with | h b v s r kids ih => ?_
  rw [MT.setR, MT.setR, MT.setR, MT.setRL_map, MT.setRL_map, MT.setRL_map, List.map_map]
  congr 1
  · split <;> rfl
  · exact List.map_congr_left fun k hk => ih k hk
theorem MT.setR_id {xb : Nat} {r1 : Int} {t : MT} (h : ∀ n ∈ t.subs, n.blk = xb → n.rule = r1) : t.setR xb r1 = t := by
  induction t using MT.ind with | h b v s r kids ih => ?_
  rw [MT.setR, MT.setRL_map]
  congr 1
  · split
    · rename_i hb
      exact (h _ (MT.self_subs _) hb).symm
    · rfl
  · exact (List.map_congr_left (g := id) fun k hk => ih k hk fun n hn => h n (MT.mem_subs.2 (.inr ⟨k, hk, hn⟩))).trans (List.map_id _)
theorem MT.At.setR {w : World} {lo xb : Nat} {a b c : Value} (hx : w.heap[xb]? = some (.cells #[a, b, c] 45 (0, 0))) (r' : Int) {t : MT} (h : MT.At w lo t) : MT.At (w.setCell ⟨xb, 1, none⟩ (.int .i64 r')) lo (t.setR xb r') := by
  induction t using MT.ind with | h b v s r kids ih => ?_
  obtain ⟨h1, h2, h3, h4⟩ := h
  rw [MT.setR, MT.setRL_map]
  refine ⟨h1, ?_, ?_, MT.atL_iff.2 fun k hk => ?_⟩
  · by_cases hb : b = xb
    · subst hb
      rw [if_pos rfl]
      exact heap_setCell_known h2
    · rw [if_neg hb]
      exact (Below.heap_setCell _ _ _ _ hb).trans h2
  · rw [List.length_map, List.map_map, show (MT.ptr ∘ MT.setR xb r') = MT.ptr from funext fun k => MT.setR_ptr xb r' k]
    refine row_kept h3 fun g hg => Below.heap_setCell _ _ _ _ fun e => ?_
    have e' : g = xb := e
    subst e'
    rcases h3.2 with ⟨rfl, _⟩ | ⟨g', cap, cur, rfl, _, hh, _⟩
    · simp [Value.ownBlock] at hg
    · simp [Value.ownBlock] at hg
      subst hg
      rw [hh] at hx
      injection hx with hx
      injection hx with _ hx
      exact absurd hx (by decide)
  · obtain ⟨c, hc, rfl⟩ := List.mem_map.1 hk
    exact ih c hc (MT.atL_iff.1 h4 c hc)
mutual
/-- The node of block xb gets one more kid. -/
def MT.addK (xb : Nat) (v' : Value) (l : MT) : MT → MT | .node b v s r kids => if b = xb then .node b v' s r (MT.addKL xb v' l kids ++ [l]) else .node b v s r (MT.addKL xb v' l kids)
def MT.addKL (xb : Nat) (v' : Value) (l : MT) : List MT → List MT | [] => [] | k :: ks => MT.addK xb v' l k :: MT.addKL xb v' l ks
end
theorem MT.addKL_map (xb : Nat) (v' : Value) (l : MT) (ks : List MT) : MT.addKL xb v' l ks = ks.map (MT.addK xb v' l) := by
  induction ks with
  | nil => rfl
  | cons k ks ih => rw [MT.addKL, ih]; rfl
theorem MT.addK_blk (xb : Nat) (v' : Value) (l t : MT) : (MT.addK xb v' l t).blk = t.blk := by
  cases t; rw [MT.addK]; split <;> rfl
theorem MT.addK_ptr (xb : Nat) (v' : Value) (l t : MT) : (MT.addK xb v' l t).ptr = t.ptr := by unfold MT.ptr; rw [MT.addK_blk]
theorem MT.addK_size (xb : Nat) (v' : Value) (l t : MT) (hl : l.pt.size = 1) : (MT.addK xb v' l t).pt.size ≤ 2 * t.pt.size := by
  induction t using MT.ind with | h b v s r kids ih => ?_
  have : PT.sizeL ((kids.map (MT.addK xb v' l)).map MT.pt) ≤ 2 * PT.sizeL (kids.map MT.pt) := by
    clear b v s r
    induction kids with
    | nil => simp [PT.sizeL]
    | cons k ks ih2 =>
      have h1 := ih k (by simp)
      have h2 := ih2 (fun x hx => ih x (by simp [hx]))
      simp only [List.map_cons, PT.sizeL]
      omega
  rw [MT.addK, MT.addKL_map]
  split
  · rw [MT.pt_node, MT.pt_node, PT.size, PT.size, List.map_append, PT.sizeL_append]
    simp only [List.map_cons, List.map_nil, PT.sizeL, hl]
    omega
  · rw [MT.pt_node, MT.pt_node, PT.size, PT.size]
    omega
theorem MT.At.addK {w w3 : World} {lo : Nat} {t x l : MT} (ht : MT.At w lo t) (hnd : t.blocks.Nodup) (hx : x ∈ t.subs) {v' : Value} {o1 o2 : Obj}
    (hgr : ((w.alloc o1).alloc o2).grownBy w3 x.sl.ownBlock) (hrow : w3.ownsRow lo 29 1 v' (x.kids.length + 1) (x.kids.map MT.ptr ++ [l.ptr])) (hl : MT.At (w3.setCell ⟨x.blk, 2, none⟩ v') lo l)
    (hv' : v'.ownBlock ≠ some x.blk) : MT.At (w3.setCell ⟨x.blk, 2, none⟩ v') lo (MT.addK x.blk v' l t) := by
  have hxb := (ht.sub hx)
  have hkeep : ∀ k, k < w.heap.size → x.sl.ownBlock ≠ some k → k ≠ x.blk → (w3.setCell ⟨x.blk, 2, none⟩ v').heap[k]? = w.heap[k]? := fun k hk h1 h2 =>
    (Below.heap_setCell _ _ _ _ h2).trans ((hgr.block k (by simp; omega) (fun e => h1 e.symm)).trans ((Below.heap_alloc _ _ _ (by simp; omega)).trans (Below.heap_alloc _ _ _ hk)))
  have hblk : ∀ n ∈ t.subs, x.sl.ownBlock ≠ some n.blk := fun n hn e => by
    have h1 := (ht.sub hn)
    obtain ⟨nb, nv, ns, nr, nk⟩ := n
    obtain ⟨xb, xv, xs, xr, xk⟩ := x
    have h2 := h1.2.1
    rcases hxb.2.2.1.2 with ⟨hv, _⟩ | ⟨g', cap, cur, hv, _, hh, _⟩
    · have e' : xv.ownBlock = some nb := e
      rw [hv] at e'
      simp [Value.ownBlock] at e'
    · have e' : xv.ownBlock = some nb := e
      rw [hv] at e'
      simp [Value.ownBlock] at e'
      subst e'
      rw [hh] at h2
      injection h2 with h2
      injection h2 with _ h2
      exact absurd h2 (by decide)
  suffices H : ∀ s : MT, (∀ n ∈ s.subs, n ∈ t.subs) → MT.At w lo s → MT.At (w3.setCell ⟨x.blk, 2, none⟩ v') lo (MT.addK x.blk v' l s) from H t (fun _ h => h) ht
  intro s
  induction s using MT.ind with | h b v s r kids ih => ?_
  intro hsub h
  have hself := hsub _ (MT.self_subs _)
  have hk2 : ∀ k ∈ kids.map (MT.addK x.blk v' l), MT.At (w3.setCell ⟨x.blk, 2, none⟩ v') lo k := fun k hk => by
    obtain ⟨c, hc, rfl⟩ := List.mem_map.1 hk
    exact ih c hc (fun n hn => hsub n (MT.mem_subs.2 (.inr ⟨c, hc, hn⟩))) (h.kid hc)
  have hps : (kids.map (MT.addK x.blk v' l)).map MT.ptr = kids.map MT.ptr := by
    rw [List.map_map]
    exact List.map_congr_left fun k _ => MT.addK_ptr _ _ _ _
  rw [MT.addK, MT.addKL_map]
  by_cases hb : b = x.blk
  · obtain rfl := MT.uniq hnd hself hx hb
    rw [if_pos hb]
    have hlt := lt_of_block h.2.1
    refine ⟨h.1, ?_, ?_, MT.atL_iff.2 fun k hk => ?_⟩
    · have h5 : w3.heap[b]? = some (.cells #[.int .i64 s, .int .i64 r, v] 45 (0, 0)) :=
        (hgr.block b (by simp; omega) (fun e => hblk _ hself e.symm)).trans ((Below.heap_alloc _ _ _ (by simp; omega)).trans ((Below.heap_alloc _ _ _ hlt).trans h.2.1))
      exact heap_setCell_known h5
    · rw [List.length_append, List.length_map, List.map_append, hps]
      exact row_kept hrow fun g hg => Below.heap_setCell _ _ _ _ fun e => hv' (by rw [hg]; exact congrArg some e)
    · rcases List.mem_append.1 hk with hk | hk
      · exact hk2 k hk
      · obtain rfl : k = l := by simpa using hk
        exact hl
  · rw [if_neg hb]
    have hlt := lt_of_block h.2.1
    refine ⟨h.1, (hkeep b hlt (hblk _ hself) hb).trans h.2.1, ?_, MT.atL_iff.2 fun k hk => hk2 k hk⟩
    rw [List.length_map, hps]
    refine row_kept h.2.2.1 fun g hg => hkeep g (row_lt h.2.2.1 hg).2 (fun e => hb ?_) (fun e => ?_)
    · exact congrArg MT.blk (MT.uniq_row hnd hself hx hg e)
    · subst e
      obtain ⟨xb, xv, xs, xr, xk⟩ := x
      have h6 := hxb.2.1
      rcases h.2.2.1.2 with ⟨rfl, _⟩ | ⟨g', cap, cur, rfl, _, hh, _⟩
      · simp [Value.ownBlock] at hg
      · simp [Value.ownBlock] at hg
        subst hg
        rw [hh] at h6
        injection h6 with h6
        injection h6 with _ h6
        exact absurd h6 (by decide)
end Go
