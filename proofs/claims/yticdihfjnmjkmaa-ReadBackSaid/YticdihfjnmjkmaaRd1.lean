/- The reader of words; trees of cells; definitions, plainly. -/
import Derived.Test.YticdihfjnmjkmaaAllB
import Derived.Deep.AppendLies
import Derived.Lib.SmallJoins
namespace Go.Proofs.Yticdihfjnmjkmaa
open Go.RowKit
/-- The reader: in block rb, at the p-th word, d brackets deep. -/
def RS (w : World) (rb : Nat) (a : Option Addr) (c : Nat) (ts : List Tok) (p d : Nat) : Prop :=
  w.heap[rb]? = some (.cells #[.slice a ts.length c, .int .i64 p, .int .i64 d] 71 (0, 0)) ∧ ToksAt w rb a ts
def faultV (e : Int) (p : Nat) : Value := .iface 26 (.agg #[.int .i64 e, .int .i64 p])
theorem RS.lt {w : World} {rb : Nat} {a : Option Addr} {c : Nat} {ts : List Tok} {p d : Nat} (h : RS w rb a c ts p d) : rb < w.heap.size := lt_of_block h.1
theorem RS.cells {w : World} {rb : Nat} {a : Option Addr} {c : Nat} {ts : List Tok} {p d : Nat} (h : RS w rb a c ts p d) :
    w.cell? ⟨rb, 0, none⟩ = some (.slice a ts.length c) ∧ w.cell? ⟨rb, 1, none⟩ = some (.int .i64 p) ∧ w.cell? ⟨rb, 2, none⟩ = some (.int .i64 d) :=
  ⟨cell_of_block (off := 0) h.1, cell_of_block (off := 1) h.1, cell_of_block (off := 2) h.1⟩
theorem RS.free {w : World} {rb : Nat} {a : Option Addr} {c : Nat} {ts : List Tok} {p d : Nat} (h : RS w rb a c ts p d) : ∀ o, w.frozen? ⟨rb, o, none⟩ = false := fun _ => free_of_block h.1
theorem RS.kept {w w' : World} {rb : Nat} {a : Option Addr} {c : Nat} {ts : List Tok} {p d : Nat} (h : RS w rb a c ts p d) {S : Nat → Prop} (hk : Kept S w w') (hS : ∀ k, S k → rb < k) : RS w' rb a c ts p d :=
  ⟨hk.get h.1 (fun hs => by have := hS _ hs; omega), h.2.go (hk.below (Nat.le_of_lt h.lt) (fun k hk hs => by have := hS _ hs; omega)) (Nat.le_refl _)⟩
theorem RS.below {w w' : World} {rb : Nat} {a : Option Addr} {c : Nat} {ts : List Tok} {p d : Nat} (h : RS w rb a c ts p d) (hk : Below w.heap.size w w') : RS w' rb a c ts p d :=
  ⟨(hk.block _ h.lt).trans h.1, h.2.go (hk.mono (Nat.le_of_lt h.lt)) (Nat.le_refl _)⟩
/-- The place, turned. -/
theorem RS.set1 {w : World} {rb : Nat} {a : Option Addr} {c : Nat} {ts : List Tok} {p d : Nat} (h : RS w rb a c ts p d) (q : Nat) : RS (w.setCell ⟨rb, 1, none⟩ (.int .i64 q)) rb a c ts q d :=
  ⟨by have := heap_setCell_known (off := 1) (u := .int .i64 q) h.1; simpa using this, h.2.go ((Below.refl _ _).setCell (p := ⟨rb, 1, none⟩) (Nat.le_refl _) _) (Nat.le_refl _)⟩
theorem RS.set2 {w : World} {rb : Nat} {a : Option Addr} {c : Nat} {ts : List Tok} {p d : Nat} (h : RS w rb a c ts p d) (q : Nat) : RS (w.setCell ⟨rb, 2, none⟩ (.int .i64 q)) rb a c ts p q :=
  ⟨by have := heap_setCell_known (off := 2) (u := .int .i64 q) h.1; simpa using this, h.2.go ((Below.refl _ _).setCell (p := ⟨rb, 2, none⟩) (Nat.le_refl _) _) (Nat.le_refl _)⟩
theorem RS.alloc {w : World} {rb : Nat} {a : Option Addr} {c : Nat} {ts : List Tok} {p d : Nat} (h : RS w rb a c ts p d) (o : Obj) : RS (w.alloc o) rb a c ts p d := h.below (below_one _ _)
theorem RS.drew {w : World} {rb : Nat} {a : Option Addr} {c : Nat} {ts : List Tok} {p d : Nat} (h : RS w rb a c ts p d) : RS w.drew rb a c ts p d := h.below ⟨rfl, rfl, rfl, Nat.le_refl _, fun _ _ => rfl⟩
def tokC (t : Tok) : Value := .agg #[.int .i64 t.kind, .int .i64 t.pos, .string (bOf t.text), .float .f64 t.wt]
attribute [local go_sem] run_store_float
set_option maxRecDepth 100000 in
theorem now_any {w : World} {rb : Nat} {a : Option Addr} {c : Nat} {ts : List Tok} {p d : Nat} (h : RS w rb a c ts p d) (hp : p < ts.length) :
    Calls Try.prog 37 #[.pointer (some ⟨rb, 0, none⟩)] w fun e w' => e = .returned (tokC ts[p]) ∧ Below w.heap.size w w' := by
  obtain ⟨c0, c1, c2⟩ := h.cells
  obtain ⟨b, o, rfl, hb, x0, x1, x2, x3⟩ := h.2.cells (Below.refl _ _) hp
  have hlt := h.lt
  have hb2 : b < w.heap.size := by omega
  have hpi : (p : Int) < ts.length := by omega
  unfold tokC
  generalize ts[p] = t at *
  obtain ⟨kd, ps, tx, wt⟩ := t
  simp only at *
  generalize bOf tx = T at *
  clear h
  go_enter Try.func37, Try.ntmps37
  go_wp2
  go_region
  all_goals go_wp2
  refine bodyPost_ret (v := .agg #[.int .i64 kd, .int .i64 ps, .string T, .float .f64 wt]) (by simp [results, Try.results37, go_sem]) rfl ⟨rfl, ?_⟩
  exact below_drew (below_one _ _)
def sgnB (t : Tok) (S : List UInt8) : Bool := decide (t.kind = 4) && decide (t.text = S)
theorem str_ne {x y : List UInt8} (h : x ≠ y) : ((bOf x).toList == (bOf y).toList) = false := by
  rw [ByteArray.toList_eq, ByteArray.toList_eq, bOf_list, bOf_list, beq_eq_false_iff_ne]
  exact h
/-- Behind a look at a sign: it is passed, if it is there. -/
def SignPost (rb : Nat) (a : Option Addr) (c : Nat) (ts : List Tok) (p d : Nat) (x : Bool) (w : World) (e : Ending) (w' : World) : Prop :=
  e = .returned (.bool x) ∧ RS w' rb a c ts (if x = true then p + 1 else p) d ∧ Kept (· = rb) w w'
theorem kept_of_below {S : Nat → Prop} {w w' : World} (h : Below w.heap.size w w') : Kept S w w' := ⟨h.os, h.tape, h.output, h.size, fun k hk _ => h.block k hk⟩
set_option maxRecDepth 100000 in
theorem sign_any {w : World} {rb : Nat} {a : Option Addr} {c : Nat} {ts : List Tok} {p d : Nat} (h : RS w rb a c ts p d) (hp : p < ts.length) (hl : ts.length ≤ 100000) (S : List UInt8) :
    Calls Try.prog 72 #[.pointer (some ⟨rb, 0, none⟩), .string (bOf S)] w (SignPost rb a c ts p d (sgnB ts[p] S) w) := by
  have HR := Lib.hid h
  have HN := Lib.hid (now_any h hp)
  have hlt := h.lt
  clear h
  unfold tokC at HN
  have HSG := Lib.hid (show sgnB ts[p] S = (decide ((ts[p]).kind = 4) && decide ((ts[p]).text = S)) from rfl)
  generalize sgnB ts[p] S = x at *
  generalize ts[p] = t at *
  obtain ⟨kd, ps, tx, wt⟩ := t
  simp only at *
  by_cases hk : kd = 4
  · by_cases ht : tx = S
    · have hx : x = true := by rw [HSG.out]; simp [ht, hk]
      clear HSG
      subst hk ht hx
      generalize bOf tx = T at *
      go_enter Try.func72, Try.ntmps72
      go_wp2_with (first | (go_at_call 37; refine HN.out.mono ?_; rintro e w1 ⟨rfl, hb⟩; have hw1 := hb.size; have hwl : rb < w1.heap.size := (by omega); obtain ⟨r0, r1, r2⟩ := (HR.out.below hb).cells; have f1 := (HR.out.below hb).free 1))
      go_ret
      refine ⟨rfl, ?_, ?_⟩
      · exact ((HR.out.below hb).set1 (p + 1)).alloc _
      · exact (Kept.setCell (S := (· = rb)) (kept_of_below hb) (p := ⟨rb, 1, none⟩) (.inl rfl) _).alloc _
    · have hne := str_ne ht
      have hx : x = false := by rw [HSG.out]; simp [ht]
      clear HSG
      subst hk hx
      clear ht
      generalize bOf tx = T at *
      generalize bOf S = SS at *
      go_enter Try.func72, Try.ntmps72
      go_wp2_with (first | (go_at_call 37; refine HN.out.mono ?_; rintro e w1 ⟨rfl, hb⟩))
      go_ret
      exact ⟨rfl, (HR.out.below hb).alloc _, (kept_of_below hb).alloc _⟩
  · have hx : x = false := by rw [HSG.out]; simp [hk]
    have hk1 : (kd == 4) = false := by simpa using hk
    have hk2 : (kd != 4) = true := by simpa using hk
    clear HSG
    subst hx
    clear hk
    generalize bOf tx = T at *
    generalize bOf S = SS at *
    go_enter Try.func72, Try.ntmps72
    go_wp2_with (first | (go_at_call 37; refine HN.out.mono ?_; rintro e w1 ⟨rfl, hb⟩))
    go_ret
    exact ⟨rfl, (HR.out.below hb).alloc _, (kept_of_below hb).alloc _⟩
theorem field_tok (j : Nat) (hj : j < 4) (a b c d : Value) (w : World) : (Instr.field 36 (.agg #[a, b, c, d]) j).run Try.prog w = .ok ((#[a, b, c, d] : Array Value).getD j undef) w := by
  rcases (by omega : j = 0 ∨ j = 1 ∨ j = 2 ∨ j = 3) with h | h | h | h <;> subst h <;> kernel_rfl
theorem field_tok1 (a b c d : Value) (w : World) : (Instr.field 36 (.agg #[a, b, c, d]) 1).run Try.prog w = .ok b w := field_tok 1 (by decide) a b c d w
theorem field_tok0 (a b c d : Value) (w : World) : (Instr.field 36 (.agg #[a, b, c, d]) 0).run Try.prog w = .ok a w := field_tok 0 (by decide) a b c d w
/-- A fault ends it all. -/
def FailPost (rb : Nat) (er : Int) (ps : Nat) (w : World) (e : Ending) (w' : World) : Prop :=
  e = .panicked [{ v := faultV er ps, recovered := false }] ∧ Kept (· = rb) w w'
set_option maxRecDepth 100000 in
theorem fail_any {w : World} {rb : Nat} {a : Option Addr} {c : Nat} {ts : List Tok} {p d : Nat} (h : RS w rb a c ts p d) (hp : p < ts.length) (er : Int) :
    Calls Try.prog 55 #[.pointer (some ⟨rb, 0, none⟩), .int .i64 er] w (FailPost rb er (ts[p]).pos w) := by
  have HN := Lib.hid (now_any h hp)
  clear h
  unfold tokC at HN
  generalize ts[p] = t at *
  obtain ⟨kd, ps, tx, wt⟩ := t
  simp only at *
  generalize bOf tx = T at *
  have hfl := field_tok1
  go_enter Try.func55, Try.ntmps55
  go_wp2_with (first | (go_at_call 37; refine HN.out.mono ?_; rintro e w1 ⟨rfl, hb⟩))
  go_wp2
  exact ⟨rfl, rfl, kept_of_below hb⟩
/-- A sign that must come next. -/
def WantPost (rb : Nat) (a : Option Addr) (c : Nat) (ts : List Tok) (p d : Nat) (x : Bool) (ps : Nat) (w : World) (e : Ending) (w' : World) : Prop :=
  if x = true then e = .returned (.tuple #[]) ∧ RS w' rb a c ts (p + 1) d ∧ Kept (· = rb) w w' else FailPost rb 5 ps w e w'
set_option maxRecDepth 100000 in
theorem want_any {w : World} {rb : Nat} {a : Option Addr} {c : Nat} {ts : List Tok} {p d : Nat} (h : RS w rb a c ts p d) (hp : p < ts.length) (hl : ts.length ≤ 100000) (S : List UInt8) :
    Calls Try.prog 56 #[.pointer (some ⟨rb, 0, none⟩), .string (bOf S)] w (WantPost rb a c ts p d (sgnB ts[p] S) (ts[p]).pos w) := by
  have HS := Lib.hid (sign_any h hp hl S)
  clear h
  unfold WantPost SignPost at *
  generalize bOf S = SS at *
  cases hx : sgnB ts[p] S
  · rw [hx] at HS
    simp only [Bool.false_eq_true, if_false] at HS ⊢
    go_enter Try.func56, Try.ntmps56
    go_wp2_with (first
      | (go_at_call 72; refine HS.out.mono ?_; rintro e w1 ⟨rfl, hr, hk⟩; have HF := Lib.hid (fail_any hr hp 5); have HK := Lib.hid hk; clear hr hk)
      | (go_at_call 55; refine HF.out.mono ?_; rintro e w2 ⟨rfl, hk2⟩))
    exact ⟨rfl, rfl, HK.out.trans hk2⟩
  · rw [hx] at HS
    simp only [if_true] at HS ⊢
    go_enter Try.func56, Try.ntmps56
    go_wp2_with (first
      | (go_at_call 72; refine HS.out.mono ?_; rintro e w1 ⟨rfl, hr, hk⟩))
    go_end0
    exact ⟨rfl, hr, hk⟩
end Go.Proofs.Yticdihfjnmjkmaa
namespace Go.Proofs.Yticdihfjnmjkmaa
open Go.RowKit
/-- A tree: cells ahead of its kids' list, cells behind it, the kids. -/
inductive PN where
  | node (pre post : List Value) (kids : List PN)
/-- In memory: the kids' slice besides. -/
inductive MN where
  | node (pre post : List Value) (v : Value) (kids : List MN)
theorem PN.size_lt {a b : List Value} {kids : List PN} {k : PN} (h : k ∈ kids) : _root_.SizeOf.sizeOf k < _root_.SizeOf.sizeOf (PN.node a b kids) := by
  have := List.sizeOf_lt_of_mem h
  simp only [PN.node.sizeOf_spec]; omega
theorem PN.ind {P : PN → Prop} (h : ∀ a b kids, (∀ k ∈ kids, P k) → P (.node a b kids)) : ∀ t, P t
  | .node a b kids => h a b kids fun k _hk => PN.ind h k
termination_by t => _root_.SizeOf.sizeOf t
decreasing_by exact PN.size_lt _hk
theorem MN.size_lt {a b : List Value} {v : Value} {kids : List MN} {k : MN} (h : k ∈ kids) : _root_.SizeOf.sizeOf k < _root_.SizeOf.sizeOf (MN.node a b v kids) := by
  have := List.sizeOf_lt_of_mem h
  simp only [MN.node.sizeOf_spec]; omega
theorem MN.ind {P : MN → Prop} (h : ∀ a b v kids, (∀ k ∈ kids, P k) → P (.node a b v kids)) : ∀ t, P t
  | .node a b v kids => h a b v kids fun k _hk => MN.ind h k
termination_by t => _root_.SizeOf.sizeOf t
decreasing_by exact MN.size_lt _hk
def MN.cells : MN → List Value | .node a b v _ => a ++ v :: b
def MN.sl : MN → Value | .node _ _ v _ => v
def MN.kids : MN → List MN | .node _ _ _ k => k
mutual
def MN.pn : MN → PN | .node a b _ kids => .node a b (MN.pnL kids)
def MN.pnL : List MN → List PN | [] => [] | k :: ks => k.pn :: MN.pnL ks
end
theorem MN.pnL_map (ks : List MN) : MN.pnL ks = ks.map MN.pn := by
  induction ks with
  | nil => rfl
  | cons k ks ih => rw [MN.pnL, ih]; rfl
def rowC (ms : List MN) : List Value := ms.flatMap MN.cells
theorem rowC_append (a b : List MN) : rowC (a ++ b) = rowC a ++ rowC b := by simp [rowC]
mutual
/-- The tree lies in the world, in blocks from lo on; its kids are of type e (sz cells), theirs of type e' (sz' cells). -/
def MN.At (w : World) (lo : Nat) (e : TypeId) (sz : Nat) (e' : TypeId) (sz' : Nat) : MN → Prop
  | .node _ _ v kids => w.ownsRow lo e sz v kids.length (rowC kids) ∧ (∀ k ∈ kids, k.cells.length = sz) ∧ MN.AtL w lo e' sz' e sz kids
def MN.AtL (w : World) (lo : Nat) (e : TypeId) (sz : Nat) (e' : TypeId) (sz' : Nat) : List MN → Prop
  | [] => True
  | k :: ks => MN.At w lo e sz e' sz' k ∧ MN.AtL w lo e sz e' sz' ks
end
theorem MN.atL_iff {w : World} {lo : Nat} {e e' : TypeId} {sz sz' : Nat} {ks : List MN} : MN.AtL w lo e sz e' sz' ks ↔ ∀ k ∈ ks, MN.At w lo e sz e' sz' k := by
  induction ks with
  | nil => simp [MN.AtL]
  | cons k ks ih => simp [MN.AtL, ih]
mutual
/-- The blocks of a tree: its rows. -/
def MN.blocks : MN → List Nat
  | .node _ _ v kids => v.ownBlock.toList ++ MN.blocksL kids
def MN.blocksL : List MN → List Nat
  | [] => []
  | k :: ks => MN.blocks k ++ MN.blocksL ks
end
theorem MN.blocksL_flat (ks : List MN) : MN.blocksL ks = ks.flatMap MN.blocks := by
  induction ks with
  | nil => rfl
  | cons k ks ih => simp [MN.blocksL, ih]
theorem MN.mem_blocks {a b : List Value} {v : Value} {kids : List MN} {k : Nat} : k ∈ (MN.node a b v kids).blocks ↔ v.ownBlock = some k ∨ ∃ c ∈ kids, k ∈ c.blocks := by
  simp [MN.blocks, MN.blocksL_flat]
theorem MN.mem_blocksL {ks : List MN} {k : Nat} : k ∈ MN.blocksL ks ↔ ∃ c ∈ ks, k ∈ c.blocks := by simp [MN.blocksL_flat]
theorem row_kept {w w' : World} {base : Nat} {e : TypeId} {size : Nat} {v : Value} {n : Nat} {xs : List Value} (h : w.ownsRow base e size v n xs) (hk : ∀ g, v.ownBlock = some g → w'.heap[g]? = w.heap[g]?) : w'.ownsRow base e size v n xs := by
  obtain ⟨h1, h2⟩ := h
  refine ⟨h1, ?_⟩
  rcases h2 with h2 | ⟨g, cap, cur, rfl, hg, hh, r⟩
  · exact .inl h2
  · exact .inr ⟨g, cap, cur, rfl, hg, by rw [hk g rfl]; exact hh, r⟩
theorem row_lt {w : World} {base : Nat} {e : TypeId} {size : Nat} {v : Value} {n : Nat} {xs : List Value} (h : w.ownsRow base e size v n xs) {g : Nat} (hg : v.ownBlock = some g) : base ≤ g ∧ g < w.heap.size := by
  obtain ⟨h1, h2⟩ := h
  rcases h2 with ⟨rfl, _⟩ | ⟨g', cap, cur, rfl, hg', hh, r⟩
  · simp [Value.ownBlock] at hg
  · simp [Value.ownBlock] at hg
    subst hg
    exact ⟨hg', lt_of_block hh⟩
theorem row_low {w : World} {base base' : Nat} (hb : base' ≤ base) {e : TypeId} {size : Nat} {v : Value} {n : Nat} {xs : List Value} (h : w.ownsRow base e size v n xs) : w.ownsRow base' e size v n xs := by
  obtain ⟨h1, h2⟩ := h
  refine ⟨h1, ?_⟩
  rcases h2 with h2 | ⟨g, cap, cur, rfl, hg, r⟩
  · exact .inl h2
  · exact .inr ⟨g, cap, cur, rfl, by omega, r⟩
theorem MN.At.kept {w w' : World} {lo : Nat} {t : MN} : ∀ {e e' : TypeId} {sz sz' : Nat}, MN.At w lo e sz e' sz' t → (∀ k ∈ t.blocks, w'.heap[k]? = w.heap[k]?) → MN.At w' lo e sz e' sz' t := by
  induction t using MN.ind with | h a b v kids ih => ?_
  intro e e' sz sz' h hk
  obtain ⟨h1, h2, h3⟩ := h
  refine ⟨row_kept h1 (fun g hg => hk g (MN.mem_blocks.2 (.inl hg))), h2, MN.atL_iff.2 fun k hkk => ?_⟩
  exact ih k hkk (MN.atL_iff.1 h3 k hkk) fun j hj => hk j (MN.mem_blocks.2 (.inr ⟨k, hkk, hj⟩))
theorem MN.At.lt {w : World} {lo : Nat} {t : MN} : ∀ {e e' : TypeId} {sz sz' : Nat}, MN.At w lo e sz e' sz' t → ∀ k ∈ t.blocks, lo ≤ k ∧ k < w.heap.size := by
  induction t using MN.ind with | h a b v kids ih => ?_
  intro e e' sz sz' h k hk
  obtain ⟨h1, h2, h3⟩ := h
  rcases MN.mem_blocks.1 hk with hk | ⟨c, hc, hk⟩
  · exact row_lt h1 hk
  · exact ih c hc (MN.atL_iff.1 h3 c hc) k hk
theorem MN.At.low {w : World} {lo lo' : Nat} (hl : lo' ≤ lo) {t : MN} : ∀ {e e' : TypeId} {sz sz' : Nat}, MN.At w lo e sz e' sz' t → MN.At w lo' e sz e' sz' t := by
  induction t using MN.ind with | h a b v kids ih => ?_
  intro e e' sz sz' h
  obtain ⟨h1, h2, h3⟩ := h
  exact ⟨row_low hl h1, h2, MN.atL_iff.2 fun k hk => ih k hk (MN.atL_iff.1 h3 k hk)⟩
theorem MN.At.below {w w' : World} {lo : Nat} {t : MN} {e e' : TypeId} {sz sz' : Nat} (h : MN.At w lo e sz e' sz' t) (hb : Below w.heap.size w w') : MN.At w' lo e sz e' sz' t :=
  h.kept fun k hk => hb.block k (h.lt k hk).2
theorem MN.At.go {w w' : World} {lo : Nat} {t : MN} {e e' : TypeId} {sz sz' : Nat} (h : MN.At w lo e sz e' sz' t) {S : Nat → Prop} (hk : Kept S w w') (hS : ∀ k, S k → k < lo) : MN.At w' lo e sz e' sz' t :=
  h.kept fun k hkk => hk.block k (h.lt k hkk).2 (fun hs => by have := hS _ hs; have := (h.lt k hkk).1; omega)
/-- A row that is being made: what it holds lies apart from it. -/
structure RowOf (w : World) (lo : Nat) (e : TypeId) (sz : Nat) (e' : TypeId) (sz' : Nat) (v : Value) (ms : List MN) : Prop where
  row : w.ownsRow lo e sz v ms.length (rowC ms)
  sizes : ∀ k ∈ ms, k.cells.length = sz
  lies : ∀ k ∈ ms, MN.At w lo e' sz' e sz k
  apart : ∀ k ∈ ms, ∀ g, v.ownBlock = some g → g ∉ k.blocks
theorem RowOf.at {w : World} {lo : Nat} {e e' : TypeId} {sz sz' : Nat} {v : Value} {ms : List MN} (h : RowOf w lo e sz e' sz' v ms) (a b : List Value) : MN.At w lo e sz e' sz' (.node a b v ms) := ⟨h.row, h.sizes, MN.atL_iff.2 h.lies⟩
theorem RowOf.nil (w : World) (lo : Nat) (e : TypeId) (sz : Nat) (e' : TypeId) (sz' : Nat) : RowOf w lo e sz e' sz' (.slice none 0 0) [] :=
  ⟨World.ownsRow_nil _ _ _ _, fun _ h => by simp at h, fun _ h => by simp at h, fun _ h => by simp at h⟩
theorem RowOf.go {w w' : World} {lo : Nat} {e e' : TypeId} {sz sz' : Nat} {v : Value} {ms : List MN} (h : RowOf w lo e sz e' sz' v ms) {S : Nat → Prop} (hk : Kept S w w') (hS : ∀ k, S k → k < lo) : RowOf w' lo e sz e' sz' v ms :=
  ⟨row_kept h.row (fun g hg => hk.block g (row_lt h.row hg).2 (fun hs => by have := hS _ hs; have := (row_lt h.row hg).1; omega)), h.sizes, fun k hkk => (h.lies k hkk).go hk hS, h.apart⟩
theorem RowOf.low {w : World} {lo lo' : Nat} (hl : lo' ≤ lo) {e e' : TypeId} {sz sz' : Nat} {v : Value} {ms : List MN} (h : RowOf w lo e sz e' sz' v ms) : RowOf w lo' e sz e' sz' v ms :=
  ⟨row_low hl h.row, h.sizes, fun k hk => (h.lies k hk).low hl, h.apart⟩
/-- One more at its end. -/
theorem RowOf.next {w w1 w2 : World} {lo : Nat} {e e' : TypeId} {sz sz' : Nat} {v : Value} {ms : List MN} (h : RowOf w lo e sz e' sz' v ms) {m : MN} (hm : MN.At w1 w.heap.size e' sz' e sz m) (hms : m.cells.length = sz)
    {S : Nat → Prop} (hk : Kept S w w1) (hS : ∀ k, S k → k < lo) {g n cap : Nat} (hn : n = ms.length + 1) {o : Obj} (hgr : (w1.alloc o).grownBy w2 v.ownBlock) (hrow : w2.ownsRow lo e sz (.slice (some ⟨g, 0, none⟩) n cap) n (rowC ms ++ m.cells)) (hat : v.ownBlock = some g ∨ g = w1.heap.size + 1) (hlo : lo ≤ w.heap.size) :
    RowOf w2 lo e sz e' sz' (.slice (some ⟨g, 0, none⟩) n cap) (ms ++ [m]) := by
  subst hn
  have hg1 := h.go hk hS
  have hs := hk.size
  have hkeep : ∀ x, x < w1.heap.size → v.ownBlock ≠ some x → w2.heap[x]? = w1.heap[x]? := fun x hx h1 =>
    (hgr.block x (by simp only [World.size_alloc]; omega) (fun e => h1 e.symm)).trans (Below.heap_alloc _ _ _ hx)
  have hlt : ∀ k ∈ ms, ∀ x ∈ k.blocks, lo ≤ x ∧ x < w.heap.size := fun k hkk x hx => (h.lies k hkk).lt x hx
  have hmt : ∀ x ∈ m.blocks, w.heap.size ≤ x ∧ x < w1.heap.size := fun x hx => hm.lt x hx
  have hvl : ∀ x, v.ownBlock = some x → lo ≤ x ∧ x < w.heap.size := fun x hx => row_lt h.row hx
  refine ⟨?_, fun k hkk => ?_, fun k hkk => ?_, fun k hkk x hx hxk => ?_⟩
  · rw [List.length_append, rowC_append, show rowC [m] = m.cells by simp [rowC]]
    exact hrow
  · rcases List.mem_append.1 hkk with hkk | hkk
    · exact h.sizes k hkk
    · obtain rfl := List.mem_singleton.1 hkk
      exact hms
  · rcases List.mem_append.1 hkk with hkk | hkk
    · refine (hg1.lies k hkk).kept fun x hx => hkeep x (by have := hlt k hkk x hx; omega) (fun e => h.apart k hkk x e hx)
    · obtain rfl := List.mem_singleton.1 hkk
      exact (hm.low hlo).kept fun x hx => hkeep x (hmt x hx).2 (fun e => by have := hvl x e; have := hmt x hx; omega)
  · simp [Value.ownBlock] at hx
    subst hx
    rcases List.mem_append.1 hkk with hkk | hkk
    · rcases hat with hat | hat
      · exact h.apart k hkk g hat hxk
      · have := hlt k hkk g hxk; omega
    · obtain rfl := List.mem_singleton.1 hkk
      have h5 := hmt g hxk
      rcases hat with hat | hat
      · have := hvl g hat; omega
      · omega
/-- A row of one. -/
theorem RowOf.one {w : World} {lo : Nat} {e e' : TypeId} {sz sz' : Nat} {m : MN} (hm : MN.At w lo e' sz' e sz m) (hms : m.cells.length = sz) (hlo : lo ≤ w.heap.size) (cs : Array Value) (hcs : cs.toList = m.cells) :
    RowOf (w.alloc (.cells cs e)) lo e sz e' sz' (.slice (some ⟨w.heap.size, 0, none⟩) 1 1) [m] := by
  have hc : rowC [m] = m.cells := by simp [rowC]
  have hsz : cs.size = sz := by rw [← hms, ← hcs]; simp
  refine ⟨?_, fun k hk => by obtain rfl := List.mem_singleton.1 hk; exact hms, fun k hk => ?_, fun k hk g hg hx => ?_⟩
  · refine ⟨by simp [hc, hms], .inr ⟨w.heap.size, 1, cs, rfl, hlo, heap_alloc_this _ _, Nat.le_refl _, by unfold maxLen; omega, by omega, ?_⟩⟩
    rw [hc, hcs, ← hms]; simp
  · obtain rfl := List.mem_singleton.1 hk
    exact hm.below (below_one _ _)
  · obtain rfl := List.mem_singleton.1 hk
    simp [Value.ownBlock] at hg
    have := hm.lt g hx
    omega
end Go.Proofs.Yticdihfjnmjkmaa
namespace Go.Proofs.Yticdihfjnmjkmaa
open Go.RowKit
/-- What comes of it: trees and the words behind them, or an error and where. -/
inductive Out where
  | ok (ns : List PN) (l : List Tok)
  | err (e : Int) (p : Nat)
def Out.pres (ks : List PN) : Out → Out
  | .ok ns l => .ok (ks ++ ns) l
  | .err e p => .err e p
theorem Out.pres_nil (o : Out) : o.pres [] = o := by cases o <;> rfl
theorem Out.pres_pres (a b : List PN) (o : Out) : (o.pres b).pres a = o.pres (a ++ b) := by cases o <;> simp [Out.pres]
/-- Alternatives of what comes. -/
def Out.alt (t : Tok) : Out → Out
  | .ok ns l => .ok [.node [.int .i64 t.pos, .float .f64 (if t.kind = 3 then t.wt else 0)] [] ns] l
  | .err e p => .err e p
inductive Ph where | alts | more | alt | items | item
/-- How often. -/
def opP : List Tok → Int × List Tok
  | [] => (0, [])
  | t :: r => if sgnB t [63] = true then (63, r) else if sgnB t [42] = true then (42, r) else if sgnB t [43] = true then (43, r) else (0, t :: r)
def startB (t : Tok) : Bool := decide (t.kind = 1) || (decide (t.kind = 2) || sgnB t [40])
def wordN (t : Tok) (op : Int) : PN := .node [.int .i64 t.pos, .int .i64 (t.kind - 1), .string (bOf t.text)] [.int .u8 op] []
def groupN (t : Tok) (op : Int) (ks : List PN) : PN := .node [.int .i64 t.pos, .int .i64 2, .string ⟨#[]⟩] [.int .u8 op] ks
inductive Ps : Ph → Nat → List Tok → Out → Prop
  | alts {d l a l1 o} : Ps .alt d l (.ok a l1) → Ps .more d l1 o → Ps .alts d l (o.pres a)
  | alts_err {d l e p} : Ps .alt d l (.err e p) → Ps .alts d l (.err e p)
  | more_nil {d t r} : sgnB t [124] = false → Ps .more d (t :: r) (.ok [] (t :: r))
  | more {d t r a l1 o} : sgnB t [124] = true → Ps .alt d r (.ok a l1) → Ps .more d l1 o → Ps .more d (t :: r) (o.pres a)
  | more_err {d t r e p} : sgnB t [124] = true → Ps .alt d r (.err e p) → Ps .more d (t :: r) (.err e p)
  | alt {d t r o} : Ps .items d (if t.kind = 3 then r else t :: r) o → Ps .alt d (t :: r) (o.alt t)
  | items_nil {d t r} : startB t = false → Ps .items d (t :: r) (.ok [] (t :: r))
  | items {d t r a l1 o} : startB t = true → Ps .item d (t :: r) (.ok a l1) → Ps .items d l1 o → Ps .items d (t :: r) (o.pres a)
  | items_err {d t r e p} : startB t = true → Ps .item d (t :: r) (.err e p) → Ps .items d (t :: r) (.err e p)
  | word {d t r} : t.kind = 1 ∨ t.kind = 2 → Ps .item d (t :: r) (.ok [wordN t (opP r).1] (opP r).2)
  | deep {d t r} : sgnB t [40] = true → d = 16 → Ps .item d (t :: r) (.err 6 t.pos)
  | group_err {d t r e p} : sgnB t [40] = true → d ≠ 16 → Ps .alts (d + 1) r (.err e p) → Ps .item d (t :: r) (.err e p)
  | close {d t r ks u r'} : sgnB t [40] = true → d ≠ 16 → Ps .alts (d + 1) r (.ok ks (u :: r')) → sgnB u [41] = false → Ps .item d (t :: r) (.err 5 u.pos)
  | group {d t r ks u r'} : sgnB t [40] = true → d ≠ 16 → Ps .alts (d + 1) r (.ok ks (u :: r')) → sgnB u [41] = true → Ps .item d (t :: r) (.ok [groupN t (opP r').1 ks] (opP r').2)
theorem sgn_kind {t : Tok} {S : List UInt8} (h : sgnB t S = true) : t.kind = 4 := by
  unfold sgnB at h; simp at h; exact h.1
theorem sgn_text {t : Tok} {S : List UInt8} (h : sgnB t S = true) : t.text = S := by
  unfold sgnB at h; simp at h; exact h.2
/-- The last word is an end. -/
def Ends (l : List Tok) : Prop := ∃ m t, l = m ++ [t] ∧ t.kind = 0
theorem Ends.ne {l : List Tok} (h : Ends l) : ∃ t r, l = t :: r := by
  obtain ⟨m, t, rfl, _⟩ := h
  cases m with
  | nil => exact ⟨_, _, rfl⟩
  | cons a m => exact ⟨_, _, rfl⟩
theorem Ends.tail {t : Tok} {r : List Tok} (h : Ends (t :: r)) (hk : t.kind ≠ 0) : Ends r := by
  obtain ⟨m, u, hm, hu⟩ := h
  cases m with
  | nil => simp at hm; exact absurd (hm.1 ▸ hu) hk
  | cons a m => simp at hm; exact ⟨m, u, hm.2, hu⟩
theorem opP_cons (t : Tok) (r : List Tok) : opP (t :: r) = if sgnB t [63] = true then (63, r) else if sgnB t [42] = true then (42, r) else if sgnB t [43] = true then (43, r) else (0, t :: r) := rfl
theorem opP_ends {l : List Tok} (h : Ends l) : Ends (opP l).2 ∧ (opP l).2.length ≤ l.length := by
  obtain ⟨t, r, rfl⟩ := h.ne
  have hk : ∀ S, sgnB t S = true → Ends r := fun S hs => h.tail (by rw [sgn_kind hs]; decide)
  rw [opP_cons]
  split
  · rename_i hs; exact ⟨hk _ hs, by simp⟩
  split
  · rename_i hs; exact ⟨hk _ hs, by simp⟩
  split
  · rename_i hs; exact ⟨hk _ hs, by simp⟩
  · exact ⟨h, Nat.le_refl _⟩
theorem start_kind {t : Tok} (h : startB t = true) : t.kind ≠ 0 := by
  unfold startB at h
  simp at h
  rcases h with h | h | h
  · omega
  · omega
  · have := sgn_kind h; omega
theorem pres_ok {o : Out} {a : List PN} {ns : List PN} {r : List Tok} (h : o.pres a = .ok ns r) : ∃ ns', o = .ok ns' r ∧ ns = a ++ ns' := by
  cases o with
  | ok n l => simp [Out.pres] at h; exact ⟨n, by rw [h.2], h.1.symm⟩
  | err e p => simp [Out.pres] at h
theorem alt_ok {o : Out} {t : Tok} {ns : List PN} {r : List Tok} (h : o.alt t = .ok ns r) : ∃ ns', o = .ok ns' r ∧ ns = [.node [.int .i64 t.pos, .float .f64 (if t.kind = 3 then t.wt else 0)] [] ns'] := by
  cases o with
  | ok n l => simp only [Out.alt, Out.ok.injEq] at h; exact ⟨n, by rw [h.2], h.1.symm⟩
  | err e p => simp [Out.alt] at h
theorem Ps.res {ph : Ph} {d : Nat} {l : List Tok} {o : Out} (h : Ps ph d l o) : Ends l → ∀ ns r, o = .ok ns r → Ends r ∧ r.length ≤ l.length ∧ (ph = .item → r.length < l.length) := by
  induction h with
  | alts h1 h2 i1 i2 =>
    intro he ns r ho
    obtain ⟨ns', rfl, rfl⟩ := pres_ok ho
    obtain ⟨a1, a2, _⟩ := i1 he _ _ rfl
    obtain ⟨b1, b2, _⟩ := i2 a1 _ _ rfl
    exact ⟨b1, by omega, by intro hx; cases hx⟩
  | alts_err => intro he ns r ho; cases ho
  | more_nil => intro he ns r ho; cases ho; exact ⟨he, Nat.le_refl _, by intro hx; cases hx⟩
  | more hs h1 h2 i1 i2 =>
    intro he ns r ho
    obtain ⟨ns', rfl, rfl⟩ := pres_ok ho
    obtain ⟨a1, a2, _⟩ := i1 (he.tail (by rw [sgn_kind hs]; decide)) _ _ rfl
    obtain ⟨b1, b2, _⟩ := i2 a1 _ _ rfl
    exact ⟨b1, by simp; omega, by intro hx; cases hx⟩
  | more_err => intro he ns r ho; cases ho
  | @alt d t r' o h1 i1 =>
    intro he ns r ho
    obtain ⟨ns', rfl, rfl⟩ := alt_ok ho
    by_cases hk : t.kind = 3
    · rw [if_pos hk] at i1
      obtain ⟨a1, a2, _⟩ := i1 (he.tail (by omega)) _ _ rfl
      exact ⟨a1, by simp; omega, by intro hx; cases hx⟩
    · rw [if_neg hk] at i1
      obtain ⟨a1, a2, _⟩ := i1 he _ _ rfl
      exact ⟨a1, a2, by intro hx; cases hx⟩
  | items_nil => intro he ns r ho; cases ho; exact ⟨he, Nat.le_refl _, by intro hx; cases hx⟩
  | items hs h1 h2 i1 i2 =>
    intro he ns r ho
    obtain ⟨ns', rfl, rfl⟩ := pres_ok ho
    obtain ⟨a1, a2, _⟩ := i1 he _ _ rfl
    obtain ⟨b1, b2, _⟩ := i2 a1 _ _ rfl
    exact ⟨b1, by omega, by intro hx; cases hx⟩
  | items_err => intro he ns r ho; cases ho
  | @word d t r' hk =>
    intro he ns r ho; cases ho
    obtain ⟨a1, a2⟩ := opP_ends (he.tail (by omega))
    exact ⟨a1, by simp; omega, fun _ => by simp; omega⟩
  | deep => intro he ns r ho; cases ho
  | group_err => intro he ns r ho; cases ho
  | close => intro he ns r ho; cases ho
  | @group d t r' ks u r2 hs hd h1 hc i1 =>
    intro he ns r ho; cases ho
    obtain ⟨a1, a2, _⟩ := i1 (he.tail (by rw [sgn_kind hs]; decide)) _ _ rfl
    obtain ⟨b1, b2⟩ := opP_ends (a1.tail (by rw [sgn_kind hc]; decide))
    simp at a2
    exact ⟨b1, by simp; omega, fun _ => by simp; omega⟩
/-- Each list of words that ends reads as something. -/
theorem ps_total : ∀ (n : Nat), (∀ d l, Ends l → l.length < n → (∃ o, Ps .alts d l o)) ∧ (∀ d l, Ends l → l.length < n → ∃ o, Ps .alt d l o) ∧ (∀ d l, Ends l → l.length < n → ∃ o, Ps .items d l o) ∧ (∀ d l, Ends l → l.length < n → ∃ o, Ps .more d l o) := by
  intro n
  induction n with
  | zero => exact ⟨fun _ _ _ h => by omega, fun _ _ _ h => by omega, fun _ _ _ h => by omega, fun _ _ _ h => by omega⟩
  | succ n ih =>
    obtain ⟨i1, i2, i3, i4⟩ := ih
    have hitem : ∀ d t r, Ends (t :: r) → (t :: r).length < n + 1 → startB t = true → ∃ o, Ps .item d (t :: r) o := by
      intro d t r he hl hs
      have her := he.tail (start_kind hs)
      simp at hl
      by_cases hw : t.kind = 1 ∨ t.kind = 2
      · exact ⟨_, .word hw⟩
      · have hg : sgnB t [40] = true := by
          unfold startB at hs; simp at hs
          rcases hs with h | h | h
          · exact absurd (.inl h) hw
          · exact absurd (.inr h) hw
          · exact h
        by_cases hd : d = 16
        · exact ⟨_, .deep hg hd⟩
        · obtain ⟨o, ho⟩ := i1 (d + 1) r her (by omega)
          cases o with
          | err e p => exact ⟨_, .group_err hg hd ho⟩
          | ok ks r1 =>
            obtain ⟨a1, _, _⟩ := ho.res her _ _ rfl
            obtain ⟨u, r2, rfl⟩ := a1.ne
            cases hc : sgnB u [41]
            · exact ⟨_, .close hg hd ho hc⟩
            · exact ⟨_, .group hg hd ho hc⟩
    have hitems : ∀ d l, Ends l → l.length < n + 1 → ∃ o, Ps .items d l o := by
      intro d l he hl
      obtain ⟨t, r, rfl⟩ := he.ne
      cases hs : startB t
      · exact ⟨_, .items_nil hs⟩
      · obtain ⟨o, ho⟩ := hitem d t r he hl hs
        cases o with
        | err e p => exact ⟨_, .items_err hs ho⟩
        | ok ks r1 =>
          obtain ⟨a1, _, a3⟩ := ho.res he _ _ rfl
          have := a3 rfl
          obtain ⟨o2, ho2⟩ := i3 d r1 a1 (by omega)
          exact ⟨_, .items hs ho ho2⟩
    have halt : ∀ d l, Ends l → l.length < n + 1 → ∃ o, Ps .alt d l o := by
      intro d l he hl
      obtain ⟨t, r, rfl⟩ := he.ne
      have : ∃ o, Ps .items d (if t.kind = 3 then r else t :: r) o := by
        split
        · rename_i hk
          exact hitems d r (he.tail (by omega)) (by simp at hl; omega)
        · exact hitems d _ he hl
      obtain ⟨o, ho⟩ := this
      exact ⟨_, .alt ho⟩
    have hmore : ∀ d l, Ends l → l.length < n + 1 → ∃ o, Ps .more d l o := by
      intro d l he hl
      obtain ⟨t, r, rfl⟩ := he.ne
      cases hs : sgnB t [124]
      · exact ⟨_, .more_nil hs⟩
      · have her := he.tail (by rw [sgn_kind hs]; decide)
        simp at hl
        obtain ⟨o, ho⟩ := i2 d r her (by omega)
        cases o with
        | err e p => exact ⟨_, .more_err hs ho⟩
        | ok ks r1 =>
          obtain ⟨a1, a2, _⟩ := ho.res her _ _ rfl
          obtain ⟨o2, ho2⟩ := i4 d r1 a1 (by omega)
          exact ⟨_, .more hs ho ho2⟩
    refine ⟨?_, halt, hitems, hmore⟩
    intro d l he hl
    obtain ⟨o, ho⟩ := halt d l he hl
    cases o with
    | err e p => exact ⟨_, .alts_err ho⟩
    | ok ks r1 =>
      obtain ⟨a1, a2, _⟩ := ho.res he _ _ rfl
      obtain ⟨o2, ho2⟩ := hmore d r1 a1 (by omega)
      exact ⟨_, .alts ho ho2⟩
/-- A definition. -/
def defN (t : Tok) (ks : List PN) : PN := .node [.int .i64 t.pos, .string (bOf t.text)] [] ks
inductive Pd : List Tok → Out → Prop
  | bad {t r} : t.kind ≠ 1 → Pd (t :: r) (.err 5 t.pos)
  | noeq {t u r} : t.kind = 1 → sgnB u [61] = false → Pd (t :: u :: r) (.err 5 u.pos)
  | alts_err {t u r e p} : t.kind = 1 → sgnB u [61] = true → Ps .alts 0 r (.err e p) → Pd (t :: u :: r) (.err e p)
  | nosemi {t u r ks x r2} : t.kind = 1 → sgnB u [61] = true → Ps .alts 0 r (.ok ks (x :: r2)) → sgnB x [59] = false → Pd (t :: u :: r) (.err 5 x.pos)
  | ok {t u r ks x r2} : t.kind = 1 → sgnB u [61] = true → Ps .alts 0 r (.ok ks (x :: r2)) → sgnB x [59] = true → Pd (t :: u :: r) (.ok [defN t ks] r2)
/-- Definitions; must: one has to come. -/
inductive Pds : Bool → List Tok → Out → Prop
  | nil {t r} : t.kind = 0 → Pds false (t :: r) (.ok [] (t :: r))
  | err {m t r e p} : (m = true ∨ t.kind ≠ 0) → Pd (t :: r) (.err e p) → Pds m (t :: r) (.err e p)
  | one {m t r a r1 o} : (m = true ∨ t.kind ≠ 0) → Pd (t :: r) (.ok a r1) → Pds false r1 o → Pds m (t :: r) (o.pres a)
theorem Pd.res {l : List Tok} {o : Out} (h : Pd l o) (he : Ends l) : ∀ ns r, o = .ok ns r → Ends r ∧ r.length < l.length := by
  intro ns r ho
  cases h with
  | bad => cases ho
  | noeq => cases ho
  | alts_err => cases ho
  | nosemi => cases ho
  | ok hk hu ha hx =>
    cases ho
    have h1 := he.tail (by omega)
    have h2 := h1.tail (by rw [sgn_kind hu]; decide)
    obtain ⟨h3, h4, _⟩ := ha.res h2 _ _ rfl
    exact ⟨h3.tail (by rw [sgn_kind hx]; decide), by simp at h4 ⊢; omega⟩
theorem pd_total {l : List Tok} (he : Ends l) : ∃ o, Pd l o := by
  obtain ⟨t, r, rfl⟩ := he.ne
  by_cases hk : t.kind = 1
  · have h1 := he.tail (by omega)
    obtain ⟨u, r', rfl⟩ := h1.ne
    cases hu : sgnB u [61]
    · exact ⟨_, .noeq hk hu⟩
    · have h2 := h1.tail (by rw [sgn_kind hu]; decide)
      obtain ⟨o, ho⟩ := (ps_total (r'.length + 1)).1 0 r' h2 (by omega)
      cases o with
      | err e p => exact ⟨_, .alts_err hk hu ho⟩
      | ok ks r1 =>
        obtain ⟨h3, _, _⟩ := ho.res h2 _ _ rfl
        obtain ⟨x, r2, rfl⟩ := h3.ne
        cases hx : sgnB x [59]
        · exact ⟨_, .nosemi hk hu ho hx⟩
        · exact ⟨_, .ok hk hu ho hx⟩
  · exact ⟨_, .bad hk⟩
theorem pds_total : ∀ (n : Nat) (m : Bool) (l : List Tok), Ends l → l.length < n → ∃ o, Pds m l o
  | 0, _, _, _, h => by omega
  | n + 1, m, l, he, hl => by
    obtain ⟨t, r, rfl⟩ := he.ne
    by_cases hc : m = true ∨ t.kind ≠ 0
    · obtain ⟨o, ho⟩ := pd_total he
      cases o with
      | err e p => exact ⟨_, .err hc ho⟩
      | ok ks r1 =>
        obtain ⟨h1, h2⟩ := ho.res he _ _ rfl
        obtain ⟨o2, ho2⟩ := pds_total n false r1 h1 (by omega)
        exact ⟨_, .one hc ho ho2⟩
    · have hm : m = false := by cases m <;> simp_all
      have hk : t.kind = 0 := by simp at hc; exact hc.2
      subst hm
      exact ⟨_, .nil hk⟩
end Go.Proofs.Yticdihfjnmjkmaa
namespace Go.Proofs.Yticdihfjnmjkmaa
open Go.RowKit
/-- The reader in block rb: the words l are left; d brackets deep. -/
def RD (w : World) (rb : Nat) (l : List Tok) (d : Nat) : Prop := ∃ a c ts p, RS w rb a c ts p d ∧ ts.drop p = l ∧ ts.length ≤ 100000
theorem RD.lt {w : World} {rb : Nat} {l : List Tok} {d : Nat} (h : RD w rb l d) : rb < w.heap.size := by
  obtain ⟨_, _, _, _, h, _⟩ := h; exact h.lt
theorem RD.free {w : World} {rb : Nat} {l : List Tok} {d : Nat} (h : RD w rb l d) : ∀ o, w.frozen? ⟨rb, o, none⟩ = false := by
  obtain ⟨_, _, _, _, h, _⟩ := h; exact h.free
theorem RD.kept {w w' : World} {rb : Nat} {l : List Tok} {d : Nat} (h : RD w rb l d) {S : Nat → Prop} (hk : Kept S w w') (hS : ∀ k, S k → rb < k) : RD w' rb l d := by
  obtain ⟨a, c, ts, p, h, r⟩ := h; exact ⟨a, c, ts, p, h.kept hk hS, r⟩
theorem RD.below {w w' : World} {rb : Nat} {l : List Tok} {d : Nat} (h : RD w rb l d) (hk : Below w.heap.size w w') : RD w' rb l d := by
  obtain ⟨a, c, ts, p, h, r⟩ := h; exact ⟨a, c, ts, p, h.below hk, r⟩
theorem RD.alloc {w : World} {rb : Nat} {l : List Tok} {d : Nat} (h : RD w rb l d) (o : Obj) : RD (w.alloc o) rb l d := h.below (below_one _ _)
theorem RD.drew {w : World} {rb : Nat} {l : List Tok} {d : Nat} (h : RD w rb l d) : RD w.drew rb l d := by
  obtain ⟨a, c, ts, p, h, r⟩ := h; exact ⟨a, c, ts, p, h.drew, r⟩
theorem RD.deep {w : World} {rb : Nat} {l : List Tok} {d : Nat} (h : RD w rb l d) : w.cell? ⟨rb, 2, none⟩ = some (.int .i64 d) := by
  obtain ⟨_, _, _, _, h, _⟩ := h; exact h.cells.2.2
theorem drop_at {ts : List Tok} {p : Nat} {t : Tok} {r : List Tok} (h : ts.drop p = t :: r) : ∃ hp : p < ts.length, ts[p] = t ∧ ts.drop (p + 1) = r := by
  have hp : p < ts.length := by
    rcases Nat.lt_or_ge p ts.length with h1 | h1
    · exact h1
    · rw [List.drop_eq_nil_of_le h1] at h; cases h
  rw [List.drop_eq_getElem_cons hp] at h
  exact ⟨hp, (List.cons.inj h).1, (List.cons.inj h).2⟩
/-- The place of the word that comes next, and passing it. -/
theorem RD.pass {w : World} {rb : Nat} {t : Tok} {r : List Tok} {d : Nat} (h : RD w rb (t :: r) d) :
    ∃ p : Nat, p < 100000 ∧ w.cell? ⟨rb, 1, none⟩ = some (.int .i64 p) ∧ RD (w.setCell ⟨rb, 1, none⟩ (.int .i64 (p + 1))) rb r d := by
  obtain ⟨a, c, ts, p, h, hl, hn⟩ := h
  obtain ⟨hp, _, h2⟩ := drop_at hl
  exact ⟨p, by omega, h.cells.2.1, a, c, ts, p + 1, h.set1 (p + 1), h2, hn⟩
theorem RD.dive {w : World} {rb : Nat} {l : List Tok} {d : Nat} (h : RD w rb l d) (d' : Nat) : RD (w.setCell ⟨rb, 2, none⟩ (.int .i64 d')) rb l d' := by
  obtain ⟨a, c, ts, p, h, r⟩ := h; exact ⟨a, c, ts, p, h.set2 d', r⟩
theorem now_rd {w : World} {rb : Nat} {t : Tok} {r : List Tok} {d : Nat} (h : RD w rb (t :: r) d) :
    Calls Try.prog 37 #[.pointer (some ⟨rb, 0, none⟩)] w fun e w' => e = .returned (tokC t) ∧ Below w.heap.size w w' := by
  obtain ⟨a, c, ts, p, h, hl, hn⟩ := h
  obtain ⟨hp, rfl, h2⟩ := drop_at hl
  exact now_any h hp
theorem sign_rd {w : World} {rb : Nat} {t : Tok} {r : List Tok} {d : Nat} (h : RD w rb (t :: r) d) (S : List UInt8) :
    Calls Try.prog 72 #[.pointer (some ⟨rb, 0, none⟩), .string (bOf S)] w fun e w' => e = .returned (.bool (sgnB t S)) ∧ RD w' rb (if sgnB t S = true then r else t :: r) d ∧ Kept (· = rb) w w' := by
  obtain ⟨a, c, ts, p, h, hl, hn⟩ := h
  obtain ⟨hp, rfl, h2⟩ := drop_at hl
  refine (sign_any h hp hn S).mono ?_
  rintro e w' ⟨rfl, h3, h4⟩
  refine ⟨rfl, ⟨a, c, ts, _, h3, ?_, hn⟩, h4⟩
  split
  · exact h2
  · exact hl
theorem fail_rd {w : World} {rb : Nat} {t : Tok} {r : List Tok} {d : Nat} (h : RD w rb (t :: r) d) (er : Int) :
    Calls Try.prog 55 #[.pointer (some ⟨rb, 0, none⟩), .int .i64 er] w (FailPost rb er t.pos w) := by
  obtain ⟨a, c, ts, p, h, hl, hn⟩ := h
  obtain ⟨hp, rfl, h2⟩ := drop_at hl
  exact fail_any h hp er
def WantP (rb : Nat) (r : List Tok) (d : Nat) (x : Bool) (ps : Nat) (w : World) (e : Ending) (w' : World) : Prop :=
  if x = true then e = .returned (.tuple #[]) ∧ RD w' rb r d ∧ Kept (· = rb) w w' else FailPost rb 5 ps w e w'
theorem want_rd {w : World} {rb : Nat} {t : Tok} {r : List Tok} {d : Nat} (h : RD w rb (t :: r) d) (S : List UInt8) :
    Calls Try.prog 56 #[.pointer (some ⟨rb, 0, none⟩), .string (bOf S)] w (WantP rb r d (sgnB t S) t.pos w) := by
  obtain ⟨a, c, ts, p, h, hl, hn⟩ := h
  obtain ⟨hp, rfl, h2⟩ := drop_at hl
  refine (want_any h hp hn S).mono ?_
  intro e w' h3
  unfold WantPost WantP at *
  split at h3
  · rename_i hx
    rw [if_pos hx]
    obtain ⟨rfl, h3, h4⟩ := h3
    exact ⟨rfl, ⟨a, c, ts, _, h3, h2, hn⟩, h4⟩
  · rename_i hx
    rw [if_neg hx]
    exact h3
/-- Behind alternatives. -/
def AltsPost (rb d : Nat) (o : Out) (w : World) (e : Ending) (w' : World) : Prop :=
  match o with
  | .err er ps => FailPost rb er ps w e w'
  | .ok ns r => ∃ a c ms, e = .returned (.slice a ms.length c) ∧ ms.map MN.pn = ns ∧ RowOf w' w.heap.size 66 3 68 5 (.slice a ms.length c) ms ∧ RD w' rb r d ∧ Kept (· = rb) w w'
def AltPost (rb d : Nat) (o : Out) (w : World) (e : Ending) (w' : World) : Prop :=
  match o with
  | .err er ps => FailPost rb er ps w e w'
  | .ok ns r => ∃ (at' wt : Nat) (a : Option Addr) (c : Nat) (ms : List MN), e = .returned (.agg #[.int .i64 at', .float .f64 wt, .slice a ms.length c]) ∧ [.node [.int .i64 at', .float .f64 wt] [] (ms.map MN.pn)] = ns ∧ RowOf w' w.heap.size 68 5 66 3 (.slice a ms.length c) ms ∧ RD w' rb r d ∧ Kept (· = rb) w w'
def ItemPost (rb d : Nat) (o : Out) (w : World) (e : Ending) (w' : World) : Prop :=
  match o with
  | .err er ps => FailPost rb er ps w e w'
  | .ok ns r => ∃ (at' : Nat) (kd op : Int) (tx : ByteArray) (a : Option Addr) (c : Nat) (ms : List MN), e = .returned (.tuple #[.agg #[.int .i64 at', .int .i64 kd, .string tx, .slice a ms.length c, .int .u8 op], .bool true]) ∧
      [.node [.int .i64 at', .int .i64 kd, .string tx] [.int .u8 op] (ms.map MN.pn)] = ns ∧ RowOf w' w.heap.size 66 3 68 5 (.slice a ms.length c) ms ∧ RD w' rb r d ∧ Kept (· = rb) w w'
theorem RowOf.shape {w : World} {lo : Nat} {e e' : TypeId} {sz sz' : Nat} {v : Value} {ms : List MN} (h : RowOf w lo e sz e' sz' v ms) : ∃ a c, v = .slice a ms.length c := by
  rcases h.row.2 with ⟨rfl, h0⟩ | ⟨g, cap, cur, rfl, _⟩
  · rw [h0]; exact ⟨_, _, rfl⟩
  · exact ⟨_, _, rfl⟩
end Go.Proofs.Yticdihfjnmjkmaa
namespace Go.Proofs.Yticdihfjnmjkmaa
open Go.RowKit
/-- No piece: the zero one, and false. -/
def NoItem (rb : Nat) (l : List Tok) (d : Nat) (w : World) (e : Ending) (w' : World) : Prop :=
  e = .returned (.tuple #[.agg #[.int .i64 0, .int .i64 0, .string ⟨#[]⟩, .slice none 0 0, .int .u8 0], .bool false]) ∧ RD w' rb l d ∧ Kept (· = rb) w w'
theorem blk5 {w : World} {b : Nat} {x0 x1 x2 x3 x4 : Value} {t : TypeId} (h : w.heap[b]? = some (.cells #[x0, x1, x2, x3, x4] t (0, 0))) :
    w.cell? ⟨b, 0, none⟩ = some x0 ∧ w.cell? ⟨b, 1, none⟩ = some x1 ∧ w.cell? ⟨b, 2, none⟩ = some x2 ∧ w.cell? ⟨b, 3, none⟩ = some x3 ∧ w.cell? ⟨b, 4, none⟩ = some x4 :=
  ⟨cell_of_block (off := 0) h, cell_of_block (off := 1) h, cell_of_block (off := 2) h, cell_of_block (off := 3) h, cell_of_block (off := 4) h⟩
theorem blk5f {w : World} {b : Nat} {vs : Array Value} {t : TypeId} (h : w.heap[b]? = some (.cells vs t (0, 0))) :
    w.frozen? ⟨b, 0, none⟩ = false ∧ w.frozen? ⟨b, 1, none⟩ = false ∧ w.frozen? ⟨b, 2, none⟩ = false ∧ w.frozen? ⟨b, 3, none⟩ = false ∧ w.frozen? ⟨b, 4, none⟩ = false :=
  ⟨free_of_block h, free_of_block h, free_of_block h, free_of_block h, free_of_block h⟩
theorem str_ne2 {x : List UInt8} {y : List UInt8} (h : x ≠ y) : ((bOf x).toList == y) = false := by
  rw [ByteArray.toList_eq, bOf_list, beq_eq_false_iff_ne]
  exact h
theorem item_kept (w1 : World) (B : Nat) (a b c d e : Value) (o p : Obj) : Kept (· = B) w1 (((((((w1.setCell ⟨B, 0, none⟩ a).setCell ⟨B, 1, none⟩ b).setCell ⟨B, 2, none⟩ c).setCell ⟨B, 3, none⟩ d).setCell ⟨B, 4, none⟩ e).alloc o).alloc p) := by
  refine Kept.alloc (Kept.alloc ?_ _) _
  refine Kept.setCell (S := (· = B)) ?_ (.inl rfl) _
  refine Kept.setCell (S := (· = B)) ?_ (.inl rfl) _
  refine Kept.setCell (S := (· = B)) ?_ (.inl rfl) _
  refine Kept.setCell (S := (· = B)) ?_ (.inl rfl) _
  refine Kept.setCell (S := (· = B)) ?_ (.inl rfl) _
  exact Kept.refl _ _
attribute [local go_sem] run_store_float
set_option maxRecDepth 100000 in
theorem item_none {w : World} {rb : Nat} {t : Tok} {r : List Tok} {d : Nat} (h : RD w rb (t :: r) d) (hs : startB t = false) :
    Calls Try.prog 83 #[.pointer (some ⟨rb, 0, none⟩)] w (NoItem rb (t :: r) d w) := by
  have HN := fun o => Lib.hid (now_rd (h.alloc o))
  have HR := fun o => Lib.hid (h.alloc o)
  have hlt := h.lt
  clear h
  unfold tokC at HN
  obtain ⟨kd, ps, tx, wt⟩ := t
  unfold startB at hs
  simp only [Bool.or_eq_false_iff, decide_eq_false_iff_not] at hs
  obtain ⟨h1, h2, h3⟩ := hs
  have hk1 : (kd == 1) = false := by simpa using h1
  have hk2 : (kd == 2) = false := by simpa using h2
  simp only at *
  by_cases hk : kd = 4
  · have ht : tx ≠ [40] := by
      intro e
      unfold sgnB at h3
      simp [hk, e] at h3
    have hne := str_ne2 ht
    subst hk
    clear ht h1 h2 h3 hk1 hk2
    generalize bOf tx = T at *
    go_enter Try.func83, Try.ntmps83
    go_wp2_with fail
    have KP := fun (w1 : World) (a b c d e : Value) (o p : Obj) => item_kept w1 w.heap.size a b c d e o p
    refine (HN _).out.mono ?_
    rintro e w1 ⟨rfl, hb⟩
    have hR1 := Lib.hid ((HR _).out.below hb)
    have hb1 := Lib.hid hb
    have hw1 := hb.size
    simp only [World.size_alloc] at hw1
    have hwl : w.heap.size < w1.heap.size := (by omega)
    have hwn : w.heap.size ≠ w1.heap.size := (by omega)
    have g0 := hb.block w.heap.size (by simp only [World.size_alloc]; omega)
    rw [heap_alloc_this] at g0
    obtain ⟨c0, c1, c2, c3, c4⟩ := blk5 g0
    obtain ⟨f0, f1, f2, f3, f4⟩ := blk5f g0
    clear hb g0
    go_wp2_with fail
    refine bodyPost_ret (v := .tuple #[.agg #[.int .i64 0, .int .i64 0, .string ⟨#[]⟩, .slice none 0 0, .int .u8 0], .bool false]) (by simp [results, Try.results83, go_sem, *]) rfl ⟨rfl, ?_, ?_⟩
    · exact hR1.out.kept (KP w1 _ _ _ _ _ _ _) (fun k hk => by omega)
    · exact ((Kept.refl _ w).alloc _).trans (kept_of_below hb1.out) |>.then (KP w1 _ _ _ _ _ _ _) (fun _ _ h => h) (fun i hi h => by omega)
  · have hk4 : (kd == 4) = false := by simpa using hk
    clear hk h1 h2 h3
    generalize bOf tx = T at *
    go_enter Try.func83, Try.ntmps83
    go_wp2_with fail
    have KP := fun (w1 : World) (a b c d e : Value) (o p : Obj) => item_kept w1 w.heap.size a b c d e o p
    refine (HN _).out.mono ?_
    rintro e w1 ⟨rfl, hb⟩
    have hR1 := Lib.hid ((HR _).out.below hb)
    have hb1 := Lib.hid hb
    have hw1 := hb.size
    simp only [World.size_alloc] at hw1
    have hwl : w.heap.size < w1.heap.size := (by omega)
    have hwn : w.heap.size ≠ w1.heap.size := (by omega)
    have g0 := hb.block w.heap.size (by simp only [World.size_alloc]; omega)
    rw [heap_alloc_this] at g0
    obtain ⟨c0, c1, c2, c3, c4⟩ := blk5 g0
    obtain ⟨f0, f1, f2, f3, f4⟩ := blk5f g0
    clear hb g0
    go_wp2_with fail
    refine bodyPost_ret (v := .tuple #[.agg #[.int .i64 0, .int .i64 0, .string ⟨#[]⟩, .slice none 0 0, .int .u8 0], .bool false]) (by simp [results, Try.results83, go_sem, *]) rfl ⟨rfl, ?_, ?_⟩
    · exact hR1.out.kept (KP w1 _ _ _ _ _ _ _) (fun k hk => by omega)
    · exact ((Kept.refl _ w).alloc _).trans (kept_of_below hb1.out) |>.then (KP w1 _ _ _ _ _ _ _) (fun _ _ h => h) (fun i hi h => by omega)
end Go.Proofs.Yticdihfjnmjkmaa
namespace Go.Proofs.Yticdihfjnmjkmaa
open Go.RowKit
def opC (k : Nat) : Nat := if k = 0 then 63 else if k = 1 then 42 else 43
def opN (k : Nat) (x : Int × List Tok) : Int × List Tok :=
  match x.2 with
  | [] => x
  | t :: r => if x.1 = 0 ∧ sgnB t [UInt8.ofNat (opC k)] = true then (((opC k : Nat) : Int), r) else x
def opA (l : List Tok) : Nat → Int × List Tok
  | 0 => (0, l)
  | k + 1 => opN k (opA l k)
theorem opN_skip (k : Nat) {o : Int} (h : o ≠ 0) (l : List Tok) : opN k (o, l) = (o, l) := by
  unfold opN
  cases l with
  | nil => rfl
  | cons t r => simp [h]
theorem opN_yes (k : Nat) {t : Tok} {r : List Tok} (h : sgnB t [UInt8.ofNat (opC k)] = true) : opN k (0, t :: r) = (((opC k : Nat) : Int), r) := by
  unfold opN; simp [h]
theorem opN_no (k : Nat) {t : Tok} {r : List Tok} (h : sgnB t [UInt8.ofNat (opC k)] = false) : opN k (0, t :: r) = (0, t :: r) := by
  unfold opN; simp [h]
theorem opA_three (t : Tok) (r : List Tok) : opA (t :: r) 3 = opP (t :: r) := by
  show opN 2 (opN 1 (opN 0 (0, t :: r))) = _
  rw [opP_cons]
  cases h0 : sgnB t [63]
  · rw [opN_no 0 h0]
    cases h1 : sgnB t [42]
    · rw [opN_no 1 h1]
      cases h2 : sgnB t [43]
      · rw [opN_no 2 h2]; simp
      · rw [opN_yes 2 h2]; simp; rfl
    · rw [opN_yes 1 h1, opN_skip 2 (by decide)]; simp; rfl
  · rw [opN_yes 0 h0, opN_skip 1 (by decide), opN_skip 2 (by decide)]; simp; rfl
structure OpsInv (w W : World) (rb d b2 b5 bb lo at' : Nat) (kd : Int) (T : ByteArray) (a : Option Addr) (c : Nat) (ms : List MN) (l : List Tok) (k : Nat) (o : Int) (u : Tok) (r : List Tok) : Prop where
  res : W.heap[b2]? = some (.cells #[.int .i64 0, .int .i64 0, .string ⟨#[]⟩, .slice none 0 0, .int .u8 0] 68 (0, 0))
  blk : W.heap[b5]? = some (.cells #[.int .i64 at', .int .i64 kd, .string T, .slice a ms.length c, .int .u8 o] 68 (0, 0))
  ops : W.heap[bb]? = some (.cells #[.int .u8 63, .int .u8 42, .int .u8 43] 5 (3, 4))
  row : RowOf W lo 66 3 68 5 (.slice a ms.length c) ms
  rd : RD W rb (u :: r) d
  kept : Kept (· = rb) w W
  st : opA l k = (o, u :: r)
  ends : Ends (u :: r)
  low : rb < w.heap.size ∧ w.heap.size ≤ b2 ∧ b2 < b5 ∧ b5 < bb ∧ b5 < lo
section
variable {w W : World} {rb d b2 b5 bb lo at' : Nat} {kd : Int} {T : ByteArray} {a : Option Addr} {c : Nat} {ms : List MN} {l : List Tok} {k : Nat} {o : Int} {u : Tok} {r : List Tok}
theorem OpsInv.skip (h : OpsInv w W rb d b2 b5 bb lo at' kd T a c ms l k o u r) (ho : o ≠ 0) : OpsInv w W rb d b2 b5 bb lo at' kd T a c ms l (k + 1) o u r :=
  ⟨h.res, h.blk, h.ops, h.row, h.rd, h.kept, by show opN k (opA l k) = _; rw [h.st, opN_skip k ho], h.ends, h.low⟩
theorem OpsInv.no {w2 : World} (h : OpsInv w W rb d b2 b5 bb lo at' kd T a c ms l k 0 u r) (hs : sgnB u [UInt8.ofNat (opC k)] = false) (hr : RD w2 rb (u :: r) d) (hk : Kept (· = rb) W w2) :
    OpsInv w w2 rb d b2 b5 bb lo at' kd T a c ms l (k + 1) 0 u r := by
  obtain ⟨l1, l2, l3, l4, l5⟩ := h.low
  exact ⟨hk.get h.res (by omega), hk.get h.blk (by omega), hk.get h.ops (by omega), h.row.go hk (fun k hk => by omega), hr, h.kept.trans hk, by show opN k (opA l k) = _; rw [h.st, opN_no k hs], h.ends, h.low⟩
theorem OpsInv.yes {w2 : World} (h : OpsInv w W rb d b2 b5 bb lo at' kd T a c ms l k 0 u r) (hs : sgnB u [UInt8.ofNat (opC k)] = true) (hr : RD w2 rb r d) (hk : Kept (· = rb) W w2) :
    ∃ u' r', OpsInv w (w2.setCell ⟨b5, 4, none⟩ (.int .u8 ((opC k : Nat) : Int))) rb d b2 b5 bb lo at' kd T a c ms l (k + 1) ((opC k : Nat) : Int) u' r' := by
  obtain ⟨l1, l2, l3, l4, l5⟩ := h.low
  have he := h.ends.tail (by rw [sgn_kind hs]; decide)
  obtain ⟨u', r', rfl⟩ := he.ne
  have ks : ∀ v, Kept (· = b5) w2 (w2.setCell ⟨b5, 4, none⟩ v) := fun v => Kept.setCell (S := (· = b5)) (Kept.refl _ _) (p := ⟨b5, 4, none⟩) (.inl rfl) v
  refine ⟨u', r', (ks _).get (hk.get h.res (by omega)) (by omega), ?_, (ks _).get (hk.get h.ops (by omega)) (by omega), (h.row.go hk (fun k hk => by omega)).go (ks _) (fun k hk => by omega), hr.kept (ks _) (fun k hk => by omega), (h.kept.trans hk).then (ks _) (fun _ _ h => h) (fun i hi h => by omega), ?_, he, h.low⟩
  · have := heap_setCell_known (off := 4) (u := .int .u8 ((opC k : Nat) : Int)) (hk.get h.blk (by omega))
    simpa using this
  · show opN k (opA l k) = _; rw [h.st, opN_yes k hs]
theorem OpsInv.facts (h : OpsInv w W rb d b2 b5 bb lo at' kd T a c ms l k o u r) : W.cell? ⟨bb, 0, none⟩ = some (.int .u8 63) ∧ W.cell? ⟨bb, 1, none⟩ = some (.int .u8 42) ∧ W.cell? ⟨bb, 2, none⟩ = some (.int .u8 43) ∧ W.cell? ⟨b5, 4, none⟩ = some (.int .u8 o) ∧ W.frozen? ⟨b5, 4, none⟩ = false ∧ b5 < W.heap.size :=
  ⟨Joins.cell_of_block h.ops 0, Joins.cell_of_block h.ops 1, Joins.cell_of_block h.ops 2, cell_of_block (off := 4) h.blk, free_of_block h.blk, lt_of_block h.blk⟩
theorem OpsInv.ends3 (h : OpsInv w W rb d b2 b5 bb lo at' kd T a c ms l k o u r) : W.cell? ⟨b5, 0, none⟩ = some (.int .i64 at') ∧ W.cell? ⟨b5, 1, none⟩ = some (.int .i64 kd) ∧ W.cell? ⟨b5, 2, none⟩ = some (.string T) ∧ W.cell? ⟨b5, 3, none⟩ = some (.slice a ms.length c) ∧ W.cell? ⟨b5, 4, none⟩ = some (.int .u8 o) := blk5 h.blk
theorem OpsInv.ends4 (h : OpsInv w W rb d b2 b5 bb lo at' kd T a c ms l k o u r) : W.cell? ⟨b2, 0, none⟩ = some (.int .i64 0) ∧ W.cell? ⟨b2, 1, none⟩ = some (.int .i64 0) ∧ W.cell? ⟨b2, 2, none⟩ = some (.string ⟨#[]⟩) ∧ W.cell? ⟨b2, 3, none⟩ = some (.slice none 0 0) ∧ W.cell? ⟨b2, 4, none⟩ = some (.int .u8 0) := blk5 h.res
theorem OpsInv.ends5 (h : OpsInv w W rb d b2 b5 bb lo at' kd T a c ms l k o u r) : W.frozen? ⟨b2, 0, none⟩ = false ∧ W.frozen? ⟨b2, 1, none⟩ = false ∧ W.frozen? ⟨b2, 2, none⟩ = false ∧ W.frozen? ⟨b2, 3, none⟩ = false ∧ W.frozen? ⟨b2, 4, none⟩ = false := blk5f h.res
theorem OpsInv.sign (h : OpsInv w W rb d b2 b5 bb lo at' kd T a c ms l k o u r) (S : List UInt8) : Calls Try.prog 72 #[.pointer (some ⟨rb, 0, none⟩), .string (bOf S)] W fun e w' => e = .returned (.bool (sgnB u S)) ∧ RD w' rb (if sgnB u S = true then r else u :: r) d ∧ Kept (· = rb) W w' := sign_rd h.rd S
theorem stores5 (w1 : World) (B : Nat) (a b c d e : Value) : Kept (· = B) w1 (((((w1.setCell ⟨B, 0, none⟩ a).setCell ⟨B, 1, none⟩ b).setCell ⟨B, 2, none⟩ c).setCell ⟨B, 3, none⟩ d).setCell ⟨B, 4, none⟩ e) := by
  refine Kept.setCell (S := (· = B)) ?_ (.inl rfl) _
  refine Kept.setCell (S := (· = B)) ?_ (.inl rfl) _
  refine Kept.setCell (S := (· = B)) ?_ (.inl rfl) _
  refine Kept.setCell (S := (· = B)) ?_ (.inl rfl) _
  refine Kept.setCell (S := (· = B)) ?_ (.inl rfl) _
  exact Kept.refl _ _
/-- What comes of it, behind the last look. -/
theorem OpsInv.post (h : OpsInv w W rb d b2 b5 bb lo at' kd T a c ms l 3 o u r) (hl : ∃ t r, l = t :: r) (he : w.heap.size ≤ lo) {W' : World} (hk : Kept (· = b2) W W') (ks : List PN) (hns : ks = ms.map MN.pn) :
    ItemPost rb d (.ok [.node [.int .i64 at', .int .i64 kd, .string T] [.int .u8 (opP l).1] ks] (opP l).2) w (.returned (.tuple #[.agg #[.int .i64 at', .int .i64 kd, .string T, .slice a ms.length c, .int .u8 o], .bool true])) W' := by
  obtain ⟨l1, l2, l3, l4, l5⟩ := h.low
  obtain ⟨t, r', rfl⟩ := hl
  have hst := h.st
  rw [opA_three] at hst
  rw [hst]
  refine ⟨at', kd, o, T, a, c, ms, rfl, by rw [hns], ?_, h.rd.kept hk (fun k hk => by omega), h.kept.then hk (fun _ _ h => h) (fun i hi h => by omega)⟩
  exact (h.row.go hk (fun k hk => by omega)).low he
end
end Go.Proofs.Yticdihfjnmjkmaa
