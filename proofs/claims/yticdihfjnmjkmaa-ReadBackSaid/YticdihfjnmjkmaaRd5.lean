/- All definitions are read. -/
import Derived.Test.YticdihfjnmjkmaaRd4
import Derived.Recover
namespace Go
section
variable {P : Program}
/-- A deferred closure whose first region is recover alone: behind it the body goes on as any. -/
theorem callsD_recover {f : FuncId} {fn : Func} {rest : Code} {o : Oper} {id : Nat} {args : Array Value} {u u' : FrameMode} {w : World} {R : Ending → FrameMode → World → Prop}
    {T : Array Value} {v : Value}
    (hf : P.funcs[f]? = some fn) (hb : fn.body = some ((Code.region id #[o] false).seq rest)) (hT : args ++ Array.replicate (fn.ntmps - args.size) undef = T)
    (hr : ∀ c : Frame, c.mode = u → ∀ cs Q, wpOpsS P #[o] Q [0] ⟨T, []⟩ (c :: cs) w = Q .normal ((⟨T, []⟩ : Act).put o.dst v) ({ c with mode := u' } :: cs) w)
    (h : rest.wp P (bodyPost P fn (fun e w' => R e u' w')) ((⟨T, []⟩ : Act).put o.dst v) w) : CallsD P f args u w R := by
  refine callsD_of_wpS hf hb fun c₀ cs hu => ?_
  rw [hT]
  refine wpS_seq (wpS_region ?_)
  show wpOpsS P #[o] _ [0] _ _ _
  rw [hr c₀ hu]
  refine wpS_of_wp (Code.wp_mono ?_ h)
  intro e a w' hq
  cases e with
  | normal => obtain ⟨hd, v, hr, hR⟩ := hq; exact ⟨hd, u', rfl, v, hr, hR⟩
  | ret => obtain ⟨hd, v, hr, hR⟩ := hq; exact ⟨hd, u', rfl, v, hr, hR⟩
  | panic chain => obtain ⟨hd, hR⟩ := hq; exact ⟨hd, u', rfl, hR⟩
  | exit id => exact hq.elim
  | goto l => exact hq.elim
  | outgrown => exact ⟨u', hq⟩
end
end Go
namespace Go.Proofs.Yticdihfjnmjkmaa
open Go.RowKit
/-- A row that is being made: what it holds lies apart from it. -/
structure RowG (w : World) (lo : Nat) (e : TypeId) (sz : Nat) (e' : TypeId) (sz' : Nat) (e2 : TypeId) (sz2 : Nat) (v : Value) (ms : List MN) : Prop where
  row : w.ownsRow lo e sz v ms.length (rowC ms)
  sizes : ∀ k ∈ ms, k.cells.length = sz
  lies : ∀ k ∈ ms, MN.At w lo e' sz' e2 sz2 k
  apart : ∀ k ∈ ms, ∀ g, v.ownBlock = some g → g ∉ k.blocks
theorem RowG.nil (w : World) (lo : Nat) (e : TypeId) (sz : Nat) (e' : TypeId) (sz' : Nat) (e2 : TypeId) (sz2 : Nat) : RowG w lo e sz e' sz' e2 sz2 (.slice none 0 0) [] :=
  ⟨World.ownsRow_nil _ _ _ _, fun _ h => by simp at h, fun _ h => by simp at h, fun _ h => by simp at h⟩
theorem RowG.go {w w' : World} {lo : Nat} {e e' e2 : TypeId} {sz sz' sz2 : Nat} {v : Value} {ms : List MN} (h : RowG w lo e sz e' sz' e2 sz2 v ms) {S : Nat → Prop} (hk : Kept S w w') (hS : ∀ k, S k → k < lo) : RowG w' lo e sz e' sz' e2 sz2 v ms :=
  ⟨row_kept h.row (fun g hg => hk.block g (row_lt h.row hg).2 (fun hs => by have := hS _ hs; have := (row_lt h.row hg).1; omega)), h.sizes, fun k hkk => (h.lies k hkk).go hk hS, h.apart⟩
theorem RowG.low {w : World} {lo lo' : Nat} (hl : lo' ≤ lo) {e e' e2 : TypeId} {sz sz' sz2 : Nat} {v : Value} {ms : List MN} (h : RowG w lo e sz e' sz' e2 sz2 v ms) : RowG w lo' e sz e' sz' e2 sz2 v ms :=
  ⟨row_low hl h.row, h.sizes, fun k hk => (h.lies k hk).low hl, h.apart⟩
/-- One more at its end. -/
theorem RowG.next {w w1 w2 : World} {lo : Nat} {e e' e2 : TypeId} {sz sz' sz2 : Nat} {v : Value} {ms : List MN} (h : RowG w lo e sz e' sz' e2 sz2 v ms) {m : MN} (hm : MN.At w1 w.heap.size e' sz' e2 sz2 m) (hms : m.cells.length = sz)
    {S : Nat → Prop} (hk : Kept S w w1) (hS : ∀ k, S k → k < lo) {g n cap : Nat} (hn : n = ms.length + 1) {o : Obj} (hgr : (w1.alloc o).grownBy w2 v.ownBlock) (hrow : w2.ownsRow lo e sz (.slice (some ⟨g, 0, none⟩) n cap) n (rowC ms ++ m.cells)) (hat : v.ownBlock = some g ∨ g = w1.heap.size + 1) (hlo : lo ≤ w.heap.size) :
    RowG w2 lo e sz e' sz' e2 sz2 (.slice (some ⟨g, 0, none⟩) n cap) (ms ++ [m]) := by
  subst hn
  have hg1 := h.go hk hS
  have hs := hk.size
  have hkeep : ∀ x, x < w1.heap.size → v.ownBlock ≠ some x → w2.heap[x]? = w1.heap[x]? := fun x hx h1 =>
    (hgr.block x (by simp only [World.size_alloc]; omega) (fun e => h1 e.symm)).trans (Below.heap_alloc _ _ _ hx)
  have hlt : ∀ k ∈ ms, ∀ x ∈ k.blocks, lo ≤ x ∧ x < w.heap.size := fun k hkk x hx => (h.lies k hkk).lt x hx
  have hmt : ∀ x ∈ m.blocks, w.heap.size ≤ x ∧ x < w1.heap.size := fun x hx => hm.lt x hx
  have hvl : ∀ x, v.ownBlock = some x → lo ≤ x ∧ x < w.heap.size := fun x hx => row_lt h.row hx
  refine ⟨?_, fun k hkk => ?_, fun k hkk => ?_, fun k hkk x hx hxk => ?_⟩
  · rw [List.length_append, rowC_append, show rowC [m] = m.cells by simp [rowC]]
    exact hrow
  · rcases List.mem_append.1 hkk with hkk | hkk
    · exact h.sizes k hkk
    · obtain rfl := List.mem_singleton.1 hkk
      exact hms
  · rcases List.mem_append.1 hkk with hkk | hkk
    · refine (hg1.lies k hkk).kept fun x hx => hkeep x (by have := hlt k hkk x hx; omega) (fun e => h.apart k hkk x e hx)
    · obtain rfl := List.mem_singleton.1 hkk
      exact (hm.low hlo).kept fun x hx => hkeep x (hmt x hx).2 (fun e => by have := hvl x e; have := hmt x hx; omega)
  · simp [Value.ownBlock] at hx
    subst hx
    rcases List.mem_append.1 hkk with hkk | hkk
    · rcases hat with hat | hat
      · exact h.apart k hkk g hat hxk
      · have := hlt k hkk g hxk; omega
    · obtain rfl := List.mem_singleton.1 hkk
      have h5 := hmt g hxk
      rcases hat with hat | hat
      · have := hvl g hat; omega
      · omega
set_option maxRecDepth 100000 in
theorem catch_idle (p q : Addr) (w : World) :
    CallsD Try.prog 36 #[.pointer (some p), .pointer (some q)] .returning w fun e u' w' => e = .returned (.tuple #[]) ∧ u' = .returning ∧ w = w' := by
  refine callsD_recover (u' := .returning) (v := .nilIface) Try.func36 rfl rfl ?_ ?_
  · intro c hc cs Q
    obtain ⟨⟩ := c
    simp only at hc
    subst hc
    simp [wpOpsS, go_sem, recoverD]
  simp only [Act.put, Try.ntmps36, List.size_toArray, List.length_cons, List.length_nil, Nat.reduceAdd, Nat.reduceSub, Array.replicate_succ,
     Array.replicate_zero, List.push_toArray, List.append_toArray, List.nil_append, List.cons_append]
  go_wp2
  go_end0
  exact ⟨rfl, trivial, rfl⟩
theorem hta26 : ∀ (v : Value) (w : World), (Instr.typeAssert (.iface 26 v) 20 26 true).run Try.prog w = .ok (.tuple #[v, .bool true]) w := fun _ _ => by kernel_rfl
/-- What is caught: the answer is nil, and the fault. -/
def CatchPost (b2 b3 : Nat) (er : Int) (ps : Nat) (older : List PanicEntry) (w : World) (e : Ending) (u' : FrameMode) (w' : World) : Prop :=
  e = .returned (.tuple #[]) ∧ u' = .panicking ({ v := faultV er ps, recovered := true } :: older) ∧ w'.heap[b2]? = some (.cells #[.slice none 0 0] 42 (0, 0)) ∧ w'.heap[b3]? = some (.cells #[.int .i64 er, .int .i64 ps] 26 (0, 0)) ∧ Kept (fun k => k = b2 ∨ k = b3) w w'
set_option maxRecDepth 100000 in
theorem catch_fault (b2 b3 : Nat) (er : Int) (ps : Nat) (older : List PanicEntry) (w : World) (hne : b2 ≠ b3) (v : Value) (h2 : w.heap[b2]? = some (.cells #[v] 42 (0, 0))) (x y : Value) (h3 : w.heap[b3]? = some (.cells #[x, y] 26 (0, 0))) :
    CallsD Try.prog 36 #[.pointer (some ⟨b2, 0, none⟩), .pointer (some ⟨b3, 0, none⟩)] (.panicking ({ v := faultV er ps, recovered := false } :: older)) w (CatchPost b2 b3 er ps older w) := by
  have hl2 := lt_of_block h2
  have hl3 := lt_of_block h3
  have c2 := cell_of_block (off := 0) h2
  have c3 := cell_of_block (off := 0) h3
  have c4 := cell_of_block (off := 1) h3
  simp only [List.getElem?_toArray, List.getElem?_cons_succ, List.getElem?_cons_zero] at c2 c3 c4
  have f2 := free_of_block (off := 0) h2
  have f3 := free_of_block (off := 0) h3
  have f4 := free_of_block (off := 1) h3
  have H2 := Lib.hid h2
  have H3 := Lib.hid h3
  unfold faultV
  clear h2 h3
  refine callsD_recover (u' := .panicking ({ v := .iface 26 (.agg #[.int .i64 er, .int .i64 ps]), recovered := true } :: older)) (v := .iface 26 (.agg #[.int .i64 er, .int .i64 ps])) Try.func36 rfl rfl ?_ ?_
  · intro c hc cs Q
    obtain ⟨⟩ := c
    simp only at hc
    subst hc
    simp [wpOpsS, go_sem, recoverD]
  simp only [Act.put, Try.ntmps36, List.size_toArray, List.length_cons, List.length_nil, Nat.reduceAdd, Nat.reduceSub, Array.replicate_succ,
     Array.replicate_zero, List.push_toArray, List.append_toArray, List.nil_append, List.cons_append]
  have hta := hta26
  go_wp2
  go_region
  all_goals
    go_wp2
    go_end0
    have k1 : Kept (· = b2) w (w.setCell ⟨b2, 0, none⟩ (.slice none 0 0)) := Kept.setCell (S := (· = b2)) (Kept.refl _ _) (.inl rfl) _
    have k2 : ∀ W : World, Kept (· = b3) W ((W.setCell ⟨b3, 0, none⟩ (.int .i64 er)).setCell ⟨b3, 1, none⟩ (.int .i64 ps)) := fun W => Kept.setCell (S := (· = b3)) (Kept.setCell (S := (· = b3)) (Kept.refl _ _) (.inl rfl) _) (.inl rfl) _
    have e1 := heap_setCell_known (off := 0) (u := .slice none 0 0) H2.out
    have e2 := heap_setCell_known (off := 1) (u := .int .i64 ps) (heap_setCell_known (off := 0) (u := .int .i64 er) (k1.get H3.out (Ne.symm hne)))
    refine ⟨rfl, rfl, heap_alloc_keep ((k2 _).get (by simpa using e1) hne), heap_alloc_keep (by simpa using e2), Kept.drew (Kept.alloc ?_ _)⟩
    exact (k1.mono (fun _ _ h => .inl h)).trans ((k2 _).mono (fun _ _ h => .inr h))
end Go.Proofs.Yticdihfjnmjkmaa
namespace Go.Proofs.Yticdihfjnmjkmaa
open Go.RowKit
def LexesTo (s : ByteArray) (ts : List Tok) (er : Int) (a : Nat) : Prop := ∀ w, Hid (Calls Try.prog 11 #[.string s] w fun e w' => ∃ ad ca, e = .returned (.tuple #[.slice ad ts.length ca, .agg #[.int .i64 er, .int .i64 a]]) ∧ ToksAt w' w'.heap.size ad ts ∧ Below w.heap.size w w')
def ParsePost (o : Out) (w : World) (e : Ending) (w' : World) : Prop :=
  match o with
  | .err er ps => e = .returned (.tuple #[.slice none 0 0, .agg #[.int .i64 er, .int .i64 ps]]) ∧ Below w.heap.size w w'
  | .ok ns _ => ∃ a c ms, e = .returned (.tuple #[.slice a ms.length c, .agg #[.int .i64 0, .int .i64 0]]) ∧ ms.map MN.pn = ns ∧ RowG w' w.heap.size 50 3 66 3 68 5 (.slice a ms.length c) ms ∧ Below w.heap.size w w'
theorem blk2 {w : World} {b : Nat} {x0 x1 : Value} {t : TypeId} (h : w.heap[b]? = some (.cells #[x0, x1] t (0, 0))) : w.cell? ⟨b, 0, none⟩ = some x0 ∧ w.cell? ⟨b, 1, none⟩ = some x1 := ⟨cell_of_block (off := 0) h, cell_of_block (off := 1) h⟩
theorem blk1 {w : World} {b : Nat} {x0 : Value} {t : TypeId} (h : w.heap[b]? = some (.cells #[x0] t (0, 0))) : w.cell? ⟨b, 0, none⟩ = some x0 := cell_of_block (off := 0) h
set_option maxRecDepth 100000 in
theorem parse_lex {s : ByteArray} {ts : List Tok} {er : Int} {a : Nat} (hl : LexesTo s ts er a) (he : er ≠ 0) (w : World) : Calls Try.prog 20 #[.string s] w (ParsePost (.err er a) w) := by
  have he1 : (er != 0) = true := by simpa using he
  have HL := Lib.hid hl
  clear hl he
  have hmf : ∀ (fn : Fn) (first cap : Array Value) (w : World), (Instr.makeFunc fn first cap).run Try.prog w = .ok (.func fn first cap) w := fun _ _ _ _ => rfl
  go_enter_defers Try.func20, Try.ntmps20
  go_wp2_with fail
  refine (HL.out _).out.mono ?_
  rintro e w1 ⟨ad, ca, rfl, _, hb⟩
  have hs1 := hb.size
  simp only [World.size_alloc] at hs1
  have g2 := hb.block w.heap.size (by simp only [World.size_alloc]; omega)
  rw [heap_alloc_keep (heap_alloc_this _ _)] at g2
  have g3 := hb.block (w.heap.size + 1) (by simp only [World.size_alloc]; omega)
  have q3 := heap_alloc_this (w.alloc (.cells #[.slice none 0 0] 42)) (.cells #[.int .i64 0, .int .i64 0] 26)
  rw [World.size_alloc] at q3
  rw [q3] at g3
  have c2 := blk1 g2
  obtain ⟨c3, c4⟩ := blk2 g3
  have f2 := free_of_block (off := 0) g2
  have f3 := free_of_block (off := 0) g3
  have f4 := free_of_block (off := 1) g3
  have G2 := Lib.hid g2
  have G3 := Lib.hid g3
  have hl2 : w.heap.size < w1.heap.size := by omega
  have hl3 : w.heap.size + 1 < w1.heap.size := by omega
  have HB := Lib.hid hb
  clear hb g2 g3 q3
  go_wp2_with fail
  go_region
  all_goals
    go_wp2
    have e3 := heap_setCell_known (off := 1) (u := .int .i64 a) (heap_setCell_known (off := 0) (u := .int .i64 er) G3.out)
    have kS : ∀ W : World, Kept (· = w.heap.size + 1) W ((W.setCell ⟨w.heap.size + 1, 0, none⟩ (.int .i64 er)).setCell ⟨w.heap.size + 1, 1, none⟩ (.int .i64 a)) := fun W => Kept.setCell (S := (· = w.heap.size + 1)) (Kept.setCell (S := (· = w.heap.size + 1)) (Kept.refl _ _) (.inl rfl) _) (.inl rfl) _
    have kT : ∀ W : World, Kept (· = w.heap.size) W (W.setCell ⟨w.heap.size, 0, none⟩ (.slice none 0 0)) := fun W => Kept.setCell (S := (· = w.heap.size)) (Kept.refl _ _) (.inl rfl) _
    have e4 := heap_setCell_known (off := 1) (u := .int .i64 a) (heap_setCell_known (off := 0) (u := .int .i64 er) ((kT _).get e3 (by omega)))
    have e2 := (kS _).get (heap_setCell_known (off := 0) (u := .slice none 0 0) ((kS _).get G2.out (by omega))) (by omega)
    have d2 := blk1 (by simpa using e2)
    obtain ⟨d3, d4⟩ := blk2 (by simpa using e4)
    clear e2 e3 e4 c2 c3 c4 f2 f3 f4
    refine ⟨.tuple #[.slice none 0 0, .agg #[.int .i64 er, .int .i64 a]], by simp [results, Try.results20, go_sem, d2, d3, d4], rfl, ?_⟩
    have h0 := below_two w (.cells #[.slice none 0 0] 42) (.cells #[.int .i64 0, .int .i64 0] 26) |>.trans (HB.out.mono (by simp only [World.size_alloc]; omega))
    exact ((((((h0.setCell (by simp) _).setCell (by simp) _).setCell (by simp) _).setCell (by simp) _).setCell (by simp) _).drew)
/-- The definitions so far. -/
structure DefsInv (o : Out) (w wr : World) (b2 b3 rb m : Nat) (ds : List MN) (a : Option Addr) (c : Nat) (t : Tok) (r : List Tok) (ok : Out) : Prop where
  len : m = (t :: r).length
  few : ds.length + (t :: r).length ≤ 100001
  ends : Ends (t :: r)
  res : wr.heap[b2]? = some (.cells #[.slice a ds.length c] 42 (0, 0))
  flt : wr.heap[b3]? = some (.cells #[.int .i64 0, .int .i64 0] 26 (0, 0))
  row : RowG wr (rb + 1) 50 3 66 3 68 5 (.slice a ds.length c) ds
  rd : RD wr rb (t :: r) 0
  below : Below w.heap.size w wr
  ps : Pds (decide (ds.length = 0)) (t :: r) ok
  out : o = ok.pres (ds.map MN.pn)
  low : w.heap.size ≤ b2 ∧ b2 < b3 ∧ b3 < rb
theorem pall_own {s : ByteArray} (hs : s.size ≤ 65536) {ts : List Tok} (h : LexT s.data.toList ts 0 0) (w : World) : Calls Try.prog 11 #[.string s] w fun e w' =>
    ∃ ad ca, e = .returned (.tuple #[.slice ad ts.length ca, .agg #[.int .i64 0, .int .i64 0]]) ∧ OwnT 36 w' w.heap.size (.slice ad ts.length ca) ts ∧ Below w.heap.size w w' := by
  refine (pall_any s hs ts 0 0 h w).mono ?_
  rintro e w' ⟨v, rfl, h1, _, hb⟩
  have ho := h1 rfl
  obtain ⟨ad, ca, rfl, _, h2, _, h3⟩ := ho.shape
  exact ⟨ad, ca, rfl, ho, hb⟩
theorem pds_inv {m : Bool} {t : Tok} {r : List Tok} {ok : Out} (h : Pds m (t :: r) ok) : (m = false ∧ t.kind = 0 ∧ ok = .ok [] (t :: r)) ∨ ((m = true ∨ t.kind ≠ 0) ∧ ((∃ e p, Pd (t :: r) (.err e p) ∧ ok = .err e p) ∨ ∃ a r1 o1, Pd (t :: r) (.ok a r1) ∧ Pds false r1 o1 ∧ ok = o1.pres a)) := by
  cases h with
  | nil h => exact .inl ⟨rfl, h, rfl⟩
  | err h h1 => exact .inr ⟨h, .inl ⟨_, _, h1, rfl⟩⟩
  | one h h1 h2 => exact .inr ⟨h, .inr ⟨_, _, _, h1, h2, rfl⟩⟩
theorem RowG.below {w w' : World} {lo : Nat} {e e' e2 : TypeId} {sz sz' sz2 : Nat} {v : Value} {ms : List MN} (h : RowG w lo e sz e' sz' e2 sz2 v ms) (hb : Below w.heap.size w w') : RowG w' lo e sz e' sz' e2 sz2 v ms :=
  h.go (kept_of_below (S := fun _ => False) hb) (fun _ h => h.elim)
theorem DefsInv.go {o : Out} {w wr W : World} {b2 b3 rb m : Nat} {ds : List MN} {a : Option Addr} {c : Nat} {t : Tok} {r : List Tok} {ok : Out} (h : DefsInv o w wr b2 b3 rb m ds a c t r ok) (hb : Below wr.heap.size wr W) : DefsInv o w W b2 b3 rb m ds a c t r ok :=
  ⟨h.len, h.few, h.ends, (hb.block _ (lt_of_block h.res)).trans h.res, (hb.block _ (lt_of_block h.flt)).trans h.flt, h.row.below hb, h.rd.below hb, h.below.trans (hb.mono h.below.size), h.ps, h.out, h.low⟩
theorem DefsInv.facts {o : Out} {w wr : World} {b2 b3 rb m : Nat} {ds : List MN} {a : Option Addr} {c : Nat} {t : Tok} {r : List Tok} {ok : Out} (h : DefsInv o w wr b2 b3 rb m ds a c t r ok) :
    wr.cell? ⟨b2, 0, none⟩ = some (.slice a ds.length c) ∧ wr.frozen? ⟨b2, 0, none⟩ = false ∧ wr.cell? ⟨b3, 0, none⟩ = some (.int .i64 0) ∧ wr.cell? ⟨b3, 1, none⟩ = some (.int .i64 0) ∧ wr.frozen? ⟨b3, 0, none⟩ = false ∧ wr.frozen? ⟨b3, 1, none⟩ = false ∧ rb < wr.heap.size :=
  ⟨blk1 h.res, free_of_block h.res, (blk2 h.flt).1, (blk2 h.flt).2, free_of_block h.flt, free_of_block h.flt, h.rd.lt⟩
theorem RD.put {w : World} {rb : Nat} {t : Tok} {r : List Tok} {d b2 : Nat} (h : RD w rb (t :: r) d) {x : Option Addr} {n c : Nat} {ty : TypeId} (hb : w.heap[b2]? = some (.cells #[.slice x n c] ty (0, 0))) (hne : b2 ≠ rb) (v : Value) :
    RD (w.setCell ⟨b2, 0, none⟩ v) rb (t :: r) d := by
  obtain ⟨a, ca, ts, p, ⟨h1, h2⟩, h3, h4⟩ := h
  have ks : Kept (· = b2) w (w.setCell ⟨b2, 0, none⟩ v) := Kept.setCell (S := (· = b2)) (Kept.refl _ _) (p := ⟨b2, 0, none⟩) (.inl rfl) v
  refine ⟨a, ca, ts, p, ⟨ks.get h1 (by omega), fun i hi => ?_⟩, h3, h4⟩
  obtain ⟨b, off, ha, hlt, hc⟩ := h2 i hi
  have hlb := lt_of_block h1
  have hbb : b ≠ b2 := by
    rintro rfl
    have h0 := hc 0 (by omega)
    rw [cell_of_block hb] at h0
    generalize off + (i * 4 + 0) = q at h0
    cases q with
    | zero => simp [Tok.cells] at h0
    | succ q => simp [Tok.cells] at h0
  exact ⟨b, off, ha, hlt, fun j hj => (World.cell?_of_block (ks.block b (by omega) hbb)).trans (hc j hj)⟩
theorem info50 : (Try.prog.info? 50).map (fun i => (i.zero, i.size, i.bytes)) = some (some (.agg #[.int .i64 0, .string ⟨#[]⟩, .slice none 0 0]), 3, 48) := by kernel_rfl
section
variable {o : Out} {w W : World} {b2 b3 rb m : Nat} {ds : List MN} {a : Option Addr} {c : Nat} {t : Tok} {r : List Tok} {ok : Out}
theorem DefsInv.own (h : DefsInv o w W b2 b3 rb m ds a c t r ok) {w3 : World} (hk : Kept (· = rb) W.drew w3) (ob : Obj) : (w3.alloc ob).ownsRow (rb + 1) 50 3 (.slice a ds.length c) ds.length (rowC ds) :=
  (h.row.go (w' := w3) ⟨hk.os, hk.tape, hk.output, hk.size, hk.block⟩ (fun k hk => by omega)).row.alloc _
theorem DefsInv.after (h : DefsInv o w W b2 b3 rb m ds a c t r ok) {w3 w5 : World} (hk : Kept (· = rb) W.drew w3) {ob : Obj} (hgr : (w3.alloc ob).grownBy w5 (Value.slice a ds.length c).ownBlock) : w5.heap[b2]? = some (.cells #[.slice a ds.length c] 42 (0, 0)) := by
  obtain ⟨l1, l2, l3⟩ := h.low
  have s1 : W.heap.size ≤ w3.heap.size := hk.size
  have hb2 := lt_of_block h.res
  have hg3 : (Value.slice a ds.length c).ownBlock ≠ some b2 := fun e => by have := (row_lt h.row.row e).1; omega
  refine (hgr.block b2 (by simp only [World.size_alloc]; omega) (fun e => hg3 e.symm)).trans ?_
  exact heap_alloc_keep (hk.get h.res (by omega))
theorem DefsInv.next (h : DefsInv o w W b2 b3 rb m ds a c t r ok)
    {at2 : Nat} {tx : ByteArray} {a' : Option Addr} {c' : Nat} {ms : List MN} {ns : List PN} {l1 : List Tok} {o1 : Out} {w3 w5 : World} (hpd : Pd (t :: r) (.ok ns l1)) (hps : Pds false l1 o1) (hok : ok = o1.pres ns)
    (hns : [.node [.int .i64 at2, .string tx] [] (ms.map MN.pn)] = ns) (hrow : RowOf w3 W.drew.heap.size 66 3 68 5 (.slice a' ms.length c') ms) (hrd : RD w3 rb l1 0) (hk0 : Kept (· = rb) W.drew w3)
    {ob : Obj} (hgr : (w3.alloc ob).grownBy w5 (Value.slice a ds.length c).ownBlock) {g cap : Nat}
    (hown : w5.ownsRow (rb + 1) 50 3 (.slice (some ⟨g, 0, none⟩) (ds.length + 1) cap) (ds.length + 1) (rowC ds ++ [.int .i64 at2, .string tx, .slice a' ms.length c']))
    (hat : (Value.slice a ds.length c).ownBlock = some g ∨ g = w3.heap.size + 1) :
    ∃ t1 r1, DefsInv o w (w5.setCell ⟨b2, 0, none⟩ (.slice (some ⟨g, 0, none⟩) (ds.length + 1) cap)) b2 b3 rb l1.length (ds ++ [.node [.int .i64 at2, .string tx] [] (.slice a' ms.length c') ms]) (some ⟨g, 0, none⟩) cap t1 r1 o1 ∧ l1.length < m := by
  have hk : Kept (· = rb) W w3 := ⟨hk0.os, hk0.tape, hk0.output, hk0.size, hk0.block⟩
  obtain ⟨e1, e2⟩ := hpd.res h.ends _ _ rfl
  obtain ⟨t1, r1, rfl⟩ := e1.ne
  obtain ⟨lo1, lo2, lo3⟩ := h.low
  have s3 := hk.size
  have hfew := h.few
  have hlen := h.len
  have hrbl := h.rd.lt
  have hrow2 := h.row.next (hrow.at [.int .i64 at2, .string tx] []) rfl hk (fun k hk => by omega) rfl hgr hown hat (by omega)
  have hkg : Kept (fun k => rb < k) w3 w5 := (Kept.refl _ _).alloc ob |>.trans ⟨hgr.os, hgr.tape, hgr.output, hgr.size, fun k hk hs => hgr.block k hk (fun e => hs (by have := (row_lt h.row.row e.symm).1; omega))⟩
  have ks : ∀ v, Kept (· = b2) w5 (w5.setCell ⟨b2, 0, none⟩ v) := fun v => Kept.setCell (S := (· = b2)) (Kept.refl _ _) (p := ⟨b2, 0, none⟩) (.inl rfl) v
  have hb2 : w5.heap[b2]? = some (.cells #[.slice a ds.length c] 42 (0, 0)) := hkg.get (hk.get h.res (by omega)) (by omega)
  have hb3 : w5.heap[b3]? = some (.cells #[.int .i64 0, .int .i64 0] 26 (0, 0)) := hkg.get (hk.get h.flt (by omega)) (by omega)
  simp only [List.length_cons] at hfew hlen e2
  refine ⟨t1, r1, ⟨rfl, ?_, e1, ?_, (ks _).get hb3 (by omega), ?_, ?_, ?_, ?_, ?_, h.low⟩, by simp only [List.length_cons]; omega⟩
  · simp only [List.length_append, List.length_cons, List.length_nil]; omega
  · have := heap_setCell_known (off := 0) (u := .slice (some ⟨g, 0, none⟩) (ds.length + 1) cap) hb2
    rw [List.length_append]
    simpa using this
  · rw [List.length_append]
    exact hrow2.go (ks _) (fun k hk => by omega)
  · exact (hrd.kept hkg (fun k hk => hk)).put hb2 (by omega) _
  · have hkw : Kept (fun _ => False) w w5 := ((kept_of_below (S := fun _ => False) h.below).then hk (S'' := fun _ => False) (fun _ _ h => h) (fun i hi h => by omega)).then hkg (fun _ _ h => h) (fun i hi h => by omega)
    exact (hkw.below (Nat.le_refl _) (fun _ _ h => h)).setCell (by simp; omega) _
  · simp only [List.length_append, List.length_cons, List.length_nil]
    have : decide (ds.length + (0 + 1) = 0) = false := by simp
    rw [this]; exact hps
  · rw [h.out, hok, ← hns, List.map_append, Out.pres_pres]
    simp [MN.pn, MN.pnL_map]
end
set_option maxRecDepth 100000 in
set_option maxHeartbeats 4000000 in
theorem parse_ok {s : ByteArray} (hs : s.size ≤ 65536) {ts : List Tok} {o : Out} (hl : LexT s.data.toList ts 0 0) (he : Ends ts) (hn : ts.length ≤ 100000) (hp : Pds true ts o) (w : World) : Calls Try.prog 20 #[.string s] w (ParsePost o w) := by
  have HL := fun w => Lib.hid (pall_own hs hl w)
  clear hl hs
  have hmf : ∀ (fn : Fn) (first cap : Array Value) (w : World), (Instr.makeFunc fn first cap).run Try.prog w = .ok (.func fn first cap) w := fun _ _ _ _ => rfl
  have hfl := field_tok0
  obtain ⟨i0, hi0, hz0, hz1, hz2⟩ := info_parts info50
  go_enter_defers Try.func20, Try.ntmps20
  go_wp2_with fail
  refine (HL _).out.mono ?_
  rintro e w1 ⟨ad, ca, rfl, htk, hb⟩
  have hs1 := hb.size
  simp only [World.size_alloc] at hs1
  have g2 := hb.block w.heap.size (by simp only [World.size_alloc]; omega)
  rw [heap_alloc_keep (heap_alloc_this _ _)] at g2
  have g3 := hb.block (w.heap.size + 1) (by simp only [World.size_alloc]; omega)
  have q3 := heap_alloc_this (w.alloc (.cells #[.slice none 0 0] 42)) (.cells #[.int .i64 0, .int .i64 0] 26)
  rw [World.size_alloc] at q3
  rw [q3] at g3
  have c2 := blk1 g2
  obtain ⟨c3, c4⟩ := blk2 g3
  have f2 := free_of_block (off := 0) g2
  have f3 := free_of_block (off := 0) g3
  have f4 := free_of_block (off := 1) g3
  have hl2 : w.heap.size < w1.heap.size := by omega
  have hl3 : w.heap.size + 1 < w1.heap.size := by omega
  have HB := Lib.hid hb
  have HT := Lib.hid htk
  have G2 := Lib.hid g2
  have G3 := Lib.hid g3
  clear hb g2 g3 q3 htk
  go_wp2_with fail
  have hrb : RD (((w1.setCell ⟨w.heap.size + 1, 0, none⟩ (.int .i64 0)).setCell ⟨w.heap.size + 1, 1, none⟩ (.int .i64 0)).alloc (.cells #[.slice ad ts.length ca, .int .i64 0, .int .i64 0] 71)) w1.heap.size ts 0 := by
    have hq := heap_alloc_this ((w1.setCell ⟨w.heap.size + 1, 0, none⟩ (.int .i64 0)).setCell ⟨w.heap.size + 1, 1, none⟩ (.int .i64 0)) (.cells #[.slice ad ts.length ca, .int .i64 0, .int .i64 0] 71)
    rw [World.size_setCell, World.size_setCell] at hq
    have ho : OwnT 36 ((w1.setCell ⟨w.heap.size + 1, 0, none⟩ (.int .i64 0)).setCell ⟨w.heap.size + 1, 1, none⟩ (.int .i64 0)) (w.heap.size + 2) (.slice ad ts.length ca) ts := by
      have h0 : OwnT 36 w1 (w.heap.size + 2) (.slice ad ts.length ca) ts := by simpa using HT.out
      exact (h0.setCell (a := ⟨w.heap.size + 1, 0, none⟩) (by simp) _).setCell (a := ⟨w.heap.size + 1, 1, none⟩) (by simp) _
    obtain ⟨ad', ca', hv, _, htk, _, _⟩ := ho.shape
    obtain ⟨rfl, _⟩ : ad = ad' ∧ ca = ca' := by simpa using hv
    have htk' : ToksAt ((w1.setCell ⟨w.heap.size + 1, 0, none⟩ (.int .i64 0)).setCell ⟨w.heap.size + 1, 1, none⟩ (.int .i64 0)) w1.heap.size ad ts := by simpa using htk
    exact ⟨ad, ca, ts, 0, ⟨hq, htk'.go ((below_one _ _).mono (by simp)) (Nat.le_refl _)⟩, rfl, hn⟩
  obtain ⟨t0, r0, rfl⟩ := he.ne
  have hA : DefsInv o w (((w1.setCell ⟨w.heap.size + 1, 0, none⟩ (.int .i64 0)).setCell ⟨w.heap.size + 1, 1, none⟩ (.int .i64 0)).alloc (.cells #[.slice ad (t0 :: r0).length ca, .int .i64 0, .int .i64 0] 71)) w.heap.size (w.heap.size + 1) w1.heap.size (t0 :: r0).length [] none 0 t0 r0 o := by
    have kS : ∀ W : World, Kept (· = w.heap.size + 1) W ((W.setCell ⟨w.heap.size + 1, 0, none⟩ (.int .i64 0)).setCell ⟨w.heap.size + 1, 1, none⟩ (.int .i64 0)) := fun W => Kept.setCell (S := (· = w.heap.size + 1)) (Kept.setCell (S := (· = w.heap.size + 1)) (Kept.refl _ _) (.inl rfl) _) (.inl rfl) _
    have e3 := heap_setCell_known (off := 1) (u := .int .i64 0) (heap_setCell_known (off := 0) (u := .int .i64 0) G3.out)
    refine ⟨rfl, by simp only [List.length_nil]; omega, he, heap_alloc_keep ((kS _).get G2.out (by omega)), heap_alloc_keep (by simpa using e3), ⟨World.ownsRow_nil _ _ _ _, fun _ h => by simp at h, fun _ h => by simp at h, fun _ h => by simp at h⟩, hrb, ?_, hp, (Out.pres_nil _).symm, by omega⟩
    have h0 := below_two w (.cells #[.slice none 0 0] 42) (.cells #[.int .i64 0, .int .i64 0] 26) |>.trans (HB.out.mono (by simp only [World.size_alloc]; omega))
    exact ((h0.setCell (by simp) _).setCell (by simp) _).alloc (by simp only [World.size_setCell]; omega) _
  have HA := Lib.hid hA
  clear hA hrb c2 c3 c4 f2 f3 f4 he hp hn
  go_loopg [] (t0 :: r0).length (fun m wr => ∃ (ds : List MN) (a : Option Addr) (c : Nat) (t : Tok) (r : List Tok) (ok : Out), Hid (DefsInv o w wr w.heap.size (w.heap.size + 1) w1.heap.size m ds a c t r ok))
  case atStart => exact ⟨[], none, 0, t0, r0, o, HA.out⟩
  case round =>
    obtain ⟨ds, a, c, t, r, ok, hI⟩ := hrel
    have HI0 := Lib.hid hI.out
    obtain ⟨c2, f2, c3, c4, f3, f4, hlr⟩ := hI.out.facts
    have hfew := hI.out.few
    have hcase := pds_inv hI.out.ps
    have HN := Lib.hid (now_rd hI.out.rd)
    unfold tokC at HN
    clear hI
    rcases hcase with ⟨hm, hk0, hok⟩ | ⟨hm, hrest⟩
    · have hd : ((ds.length : Int) == 0) = false := by simp at hm; simpa using hm
      obtain ⟨kd, ps, tx, wt⟩ := t
      simp only at hk0
      subst hk0
      have HOK := Lib.hid hok
      clear hok hm
      simp only at HN
      generalize bOf tx = T at *
      go_wp2_with fail
      refine HN.out.mono ?_
      rintro e W ⟨rfl, hbW⟩
      have hIW := HI0.out.go hbW
      obtain ⟨c2, f2, c3, c4, f3, f4, hlr⟩ := hIW.facts
      have HIW := Lib.hid hIW
      clear hbW hIW
      go_wp2_with fail
      refine leaves_cons (f := 36) (args := #[.pointer (some ⟨w.heap.size, 0, none⟩), .pointer (some ⟨w.heap.size + 1, 0, none⟩)]) (by simp) (by simp [go_sem]) ?_
      refine (catch_idle _ _ _).mono ?_
      rintro e u' w4 ⟨rfl, rfl, rfl⟩
      have kS : ∀ X : World, Kept (· = w.heap.size + 1) X ((X.setCell ⟨w.heap.size + 1, 0, none⟩ (.int .i64 0)).setCell ⟨w.heap.size + 1, 1, none⟩ (.int .i64 0)) := fun X => Kept.setCell (S := (· = w.heap.size + 1)) (Kept.setCell (S := (· = w.heap.size + 1)) (Kept.refl _ _) (.inl rfl) _) (.inl rfl) _
      have kT : Kept (· = w.heap.size) W (W.setCell ⟨w.heap.size, 0, none⟩ (.slice a ds.length c)) := Kept.setCell (S := (· = w.heap.size)) (Kept.refl _ _) (.inl rfl) _
      have e4 := heap_setCell_known (off := 1) (u := .int .i64 0) (heap_setCell_known (off := 0) (u := .int .i64 0) (kT.get HIW.out.flt (by omega)))
      have e2 := (kS _).get (heap_setCell_known (off := 0) (u := .slice a ds.length c) HIW.out.res) (by omega)
      have d2 := blk1 (by simpa using e2)
      obtain ⟨d3, d4⟩ := blk2 (by simpa using e4)
      clear e2 e4 c2 c3 c4 f2 f3 f4
      show Leaves _ _ _ _ [] .returning _
      have hO := HIW.out.out
      rw [HOK.out] at hO
      rw [hO]
      refine ⟨.tuple #[.slice a ds.length c, .agg #[.int .i64 0, .int .i64 0]], by simp [results, Try.results20, go_sem, d2, d3, d4], a, c, ds, rfl, by simp, ?_, ?_⟩
      · exact ((HIW.out.row.go kT (fun k hk => by omega)).go (kS _) (fun k hk => by omega)).low (by omega)
      · exact ((HIW.out.below.setCell (by simp) _).setCell (by simp) _).setCell (by simp) _
    · by_cases hz : ds.length = 0
      · have hd : ((ds.length : Int) == 0) = true := by simpa using hz
        have HIv := Lib.hid HI0.out
        obtain ⟨W, rfl⟩ : ∃ W : World, W = wr := ⟨_, rfl⟩
        clear hm hz HN HI0
        go_wp2_with fail
        rcases hrest with ⟨er, ep, hpd, hok⟩ | ⟨ns, l1, o1, hpd, hps, hok⟩
        · have HPD := Lib.hid hpd
          have HOK := Lib.hid hok
          clear hpd hok
          refine wp_region_any (by kernel_rfl) ?_
          change wpAny _ _ _ _ _ _ _ (World.drew _)
          refine wpAny_ready (rs := [0, 1]) (by kernel_rfl) (by simp) ?_
          refine AllReady.cons rfl (fun K hK => ?_) ?_
          · go_simp
            refine hK _ _ ?_
            clear hK K
            refine wpAny_ready (rs := [1]) (by kernel_rfl) (by simp) ?_
            refine AllReady.cons rfl (fun K hK => ?_) ?_
            · go_simp
              refine hK _ _ ?_
              clear hK K
              refine wpAny_ready (rs := [2]) (by kernel_rfl) (by simp) ?_
              refine AllReady.cons rfl (fun K hK => ?_) ?_
              · go_simp
                go_at_call 38
                refine (def_any HPD.out HIv.out.ends (by exact HIv.out.rd.drew)).mono ?_
                rintro e w3 ⟨rfl, hk3⟩
                have HG2 := Lib.hid (hk3.get HIv.out.res (by have := HIv.out.low; omega))
                have HG3 := Lib.hid (hk3.get HIv.out.flt (by have := HIv.out.low; omega))
                have HK3 := Lib.hid hk3
                clear hk3
                go_wp2_with fail
                refine leaves_cons (f := 36) (args := #[.pointer (some ⟨w.heap.size, 0, none⟩), .pointer (some ⟨w.heap.size + 1, 0, none⟩)]) (by simp) (by simp [go_sem]) ?_
                refine (catch_fault w.heap.size (w.heap.size + 1) er ep [] _ (by omega) _ HG2.out _ _ HG3.out).mono ?_
                rintro e u' w4 ⟨rfl, rfl, h2, h3, hk4⟩
                have hset : settle (.panicking ({ v := faultV er ep, recovered := true } :: [])) = .returning := by simp [settle]
                show Leaves _ _ _ _ [] (settle _) _
                rw [hset]
                have d2 := blk1 h2
                obtain ⟨d3, d4⟩ := blk2 h3
                rw [HIv.out.out, HOK.out]
                refine ⟨.tuple #[.slice none 0 0, .agg #[.int .i64 er, .int .i64 ep]], by simp [results, Try.results20, go_sem, d2, d3, d4], rfl, ?_⟩
                exact (((kept_of_below (S := fun _ => False) HIv.out.below.drew).then HK3.out (S'' := fun _ => False) (fun _ _ h => h) (fun i hi h => by have := HIv.out.low; omega)).then hk4 (S'' := fun _ => False) (fun _ _ h => h) (fun i hi h => by have := HIv.out.low; omega)).below (Nat.le_refl _) (fun _ _ h => h)
              exact AllReady.nil
            exact AllReady.nil
          refine AllReady.cons rfl (fun K hK => ?_) ?_
          · go_simp
            refine hK _ _ ?_
            clear hK K
            refine wpAny_ready (rs := [0, 2]) (by kernel_rfl) (by simp) ?_
            refine AllReady.cons rfl (fun K hK => ?_) ?_
            · go_simp
              refine hK _ _ ?_
              clear hK K
              refine wpAny_ready (rs := [2]) (by kernel_rfl) (by simp) ?_
              refine AllReady.cons rfl (fun K hK => ?_) ?_
              · go_simp
                go_at_call 38
                refine (def_any HPD.out HIv.out.ends (by exact HIv.out.rd.drew)).mono ?_
                rintro e w3 ⟨rfl, hk3⟩
                have HG2 := Lib.hid (hk3.get HIv.out.res (by have := HIv.out.low; omega))
                have HG3 := Lib.hid (hk3.get HIv.out.flt (by have := HIv.out.low; omega))
                have HK3 := Lib.hid hk3
                clear hk3
                go_wp2_with fail
                refine leaves_cons (f := 36) (args := #[.pointer (some ⟨w.heap.size, 0, none⟩), .pointer (some ⟨w.heap.size + 1, 0, none⟩)]) (by simp) (by simp [go_sem]) ?_
                refine (catch_fault w.heap.size (w.heap.size + 1) er ep [] _ (by omega) _ HG2.out _ _ HG3.out).mono ?_
                rintro e u' w4 ⟨rfl, rfl, h2, h3, hk4⟩
                have hset : settle (.panicking ({ v := faultV er ep, recovered := true } :: [])) = .returning := by simp [settle]
                show Leaves _ _ _ _ [] (settle _) _
                rw [hset]
                have d2 := blk1 h2
                obtain ⟨d3, d4⟩ := blk2 h3
                rw [HIv.out.out, HOK.out]
                refine ⟨.tuple #[.slice none 0 0, .agg #[.int .i64 er, .int .i64 ep]], by simp [results, Try.results20, go_sem, d2, d3, d4], rfl, ?_⟩
                exact (((kept_of_below (S := fun _ => False) HIv.out.below.drew).then HK3.out (S'' := fun _ => False) (fun _ _ h => h) (fun i hi h => by have := HIv.out.low; omega)).then hk4 (S'' := fun _ => False) (fun _ _ h => h) (fun i hi h => by have := HIv.out.low; omega)).below (Nat.le_refl _) (fun _ _ h => h)
              exact AllReady.nil
            refine AllReady.cons rfl (fun K hK => ?_) ?_
            · go_simp
              go_at_call 38
              refine (def_any HPD.out HIv.out.ends (by exact HIv.out.rd.drew)).mono ?_
              rintro e w3 ⟨rfl, hk3⟩
              have HG2 := Lib.hid (hk3.get HIv.out.res (by have := HIv.out.low; omega))
              have HG3 := Lib.hid (hk3.get HIv.out.flt (by have := HIv.out.low; omega))
              have HK3 := Lib.hid hk3
              clear hk3
              go_wp2_with fail
              refine leaves_cons (f := 36) (args := #[.pointer (some ⟨w.heap.size, 0, none⟩), .pointer (some ⟨w.heap.size + 1, 0, none⟩)]) (by simp) (by simp [go_sem]) ?_
              refine (catch_fault w.heap.size (w.heap.size + 1) er ep [] _ (by omega) _ HG2.out _ _ HG3.out).mono ?_
              rintro e u' w4 ⟨rfl, rfl, h2, h3, hk4⟩
              have hset : settle (.panicking ({ v := faultV er ep, recovered := true } :: [])) = .returning := by simp [settle]
              show Leaves _ _ _ _ [] (settle _) _
              rw [hset]
              have d2 := blk1 h2
              obtain ⟨d3, d4⟩ := blk2 h3
              rw [HIv.out.out, HOK.out]
              refine ⟨.tuple #[.slice none 0 0, .agg #[.int .i64 er, .int .i64 ep]], by simp [results, Try.results20, go_sem, d2, d3, d4], rfl, ?_⟩
              exact (((kept_of_below (S := fun _ => False) HIv.out.below.drew).then HK3.out (S'' := fun _ => False) (fun _ _ h => h) (fun i hi h => by have := HIv.out.low; omega)).then hk4 (S'' := fun _ => False) (fun _ _ h => h) (fun i hi h => by have := HIv.out.low; omega)).below (Nat.le_refl _) (fun _ _ h => h)
            exact AllReady.nil
          exact AllReady.nil
        · have HD := Lib.hid (def_any hpd HIv.out.ends (w := W.drew) (rb := w1.heap.size) (by exact HIv.out.rd.drew))
          have HPD := Lib.hid hpd
          have HPS := Lib.hid hps
          have HOK := Lib.hid hok
          clear hpd hok hps
          have hfewW := HIv.out.few
          have hlow := HIv.out.low
          have hsW := lt_of_block HIv.out.res
          refine wp_region_any (by kernel_rfl) ?_
          change wpAny _ _ _ _ _ _ _ (World.drew _)
          refine wpAny_ready (rs := [0, 1]) (by kernel_rfl) (by simp) ?_
          refine AllReady.cons rfl (fun K hK => ?_) ?_
          · go_simp
            refine hK _ _ ?_
            clear hK K
            refine wpAny_ready (rs := [1]) (by kernel_rfl) (by simp) ?_
            refine AllReady.cons rfl (fun K hK => ?_) ?_
            · go_simp
              refine hK _ _ ?_
              clear hK K
              refine wpAny_ready (rs := [2]) (by kernel_rfl) (by simp) ?_
              refine AllReady.cons rfl (fun K hK => ?_) ?_
              · go_simp
                go_at_call 38
                refine HD.out.mono ?_
                rintro e w3 ⟨at3, tx3, a3, c3, ms3, rfl, hns, hrow, hr3, hk3⟩
                have hs3 : W.heap.size ≤ w3.heap.size := hk3.size
                have g3 := hk3.get HIv.out.res (by omega)
                have c23 := blk1 g3
                have HK3 := Lib.hid hk3
                have HR3 := Lib.hid hr3
                have HROW := Lib.hid hrow
                have HNS := Lib.hid hns
                have HOWN := Lib.hid (HIv.out.own hk3 (.cells #[.int .i64 at3, .string tx3, .slice a3 ms3.length c3] 50))
                have HNEWS := Lib.hid (World.news_of_block (w := w3.alloc (.cells #[.int .i64 at3, .string tx3, .slice a3 ms3.length c3] 50)) (B := w3.heap.size) (cs := #[.int .i64 at3, .string tx3, .slice a3 ms3.length c3]) (t := 50) (fr := (0, 0)) (heap_alloc_this _ _))
                have hl23 : w.heap.size < w3.heap.size := by omega
                have hn23 : w.heap.size ≠ w3.heap.size := by omega
                clear hk3 hr3 hrow hns g3
                refine hK _ _ ?_
                clear hK K
                refine wpAny_ready (rs := [3]) (by kernel_rfl) (by simp) ?_
                refine AllReady.cons rfl (fun K hK => ?_) ?_
                · go_simp
                  refine hK _ _ ?_
                  clear hK K
                  refine wpAny_ready (rs := [4]) (by kernel_rfl) (by simp) ?_
                  refine AllReady.cons rfl (fun K hK => ?_) ?_
                  · refine step_append_lies _ (by rfl) (.tmp 28) (.tmp 31) 42 (by rfl) (w1.heap.size + 1) 50 i0 _ 3 48 Try.underlying42 hi0 hz0 hz1 hz2 rfl (by decide) (.slice a ds.length c) ds.length _ (by rfl) HOWN.out ⟨w3.heap.size, 0, none⟩ 1 1 [.int .i64 at3, .string tx3, .slice a3 ms3.length c3] (by rfl) (by rfl) HNEWS.out (by simp [Value.oneCell']) (by omega) (by simp only [maxLen]; omega) (by omega) (by simp; omega) (w3.heap.size + 1) (by simp) ?_
                    intro g cap w5 hown1 hgrow hat hlt5
                    have HGR := Lib.hid hgrow
                    have HOW := Lib.hid hown1
                    have HAT := Lib.hid hat
                    have g5 := HIv.out.after HK3.out hgrow
                    have c25 := blk1 g5
                    have f25 := free_of_block (off := 0) g5
                    clear hgrow hown1 hat g5
                    refine hK _ _ ?_
                    clear hK K
                    refine wpAny_ready (rs := [5]) (by kernel_rfl) (by simp) ?_
                    refine AllReady.cons rfl (fun K hK => ?_) ?_
                    · go_simp
                      refine hK _ _ ?_
                      clear hK K
                      refine wpAny_done (by kernel_rfl) ?_ _
                      obtain ⟨t1, r1, hF, hlt1⟩ := HIv.out.next HPD.out HPS.out HOK.out HNS.out HROW.out HR3.out HK3.out HGR.out HOW.out HAT.out
                      go_wp2_with fail
                      go_roundg l1.length
                      case measure => exact hlt1
                      case rel => exact ⟨_, _, _, t1, r1, o1, hF⟩
                    exact AllReady.nil
                  exact AllReady.nil
                exact AllReady.nil
              exact AllReady.nil
            exact AllReady.nil
          refine AllReady.cons rfl (fun K hK => ?_) ?_
          · go_simp
            refine hK _ _ ?_
            clear hK K
            refine wpAny_ready (rs := [0, 2]) (by kernel_rfl) (by simp) ?_
            refine AllReady.cons rfl (fun K hK => ?_) ?_
            · go_simp
              refine hK _ _ ?_
              clear hK K
              refine wpAny_ready (rs := [2]) (by kernel_rfl) (by simp) ?_
              refine AllReady.cons rfl (fun K hK => ?_) ?_
              · go_simp
                go_at_call 38
                refine HD.out.mono ?_
                rintro e w3 ⟨at3, tx3, a3, c3, ms3, rfl, hns, hrow, hr3, hk3⟩
                have hs3 : W.heap.size ≤ w3.heap.size := hk3.size
                have g3 := hk3.get HIv.out.res (by omega)
                have c23 := blk1 g3
                have HK3 := Lib.hid hk3
                have HR3 := Lib.hid hr3
                have HROW := Lib.hid hrow
                have HNS := Lib.hid hns
                have HOWN := Lib.hid (HIv.out.own hk3 (.cells #[.int .i64 at3, .string tx3, .slice a3 ms3.length c3] 50))
                have HNEWS := Lib.hid (World.news_of_block (w := w3.alloc (.cells #[.int .i64 at3, .string tx3, .slice a3 ms3.length c3] 50)) (B := w3.heap.size) (cs := #[.int .i64 at3, .string tx3, .slice a3 ms3.length c3]) (t := 50) (fr := (0, 0)) (heap_alloc_this _ _))
                have hl23 : w.heap.size < w3.heap.size := by omega
                have hn23 : w.heap.size ≠ w3.heap.size := by omega
                clear hk3 hr3 hrow hns g3
                refine hK _ _ ?_
                clear hK K
                refine wpAny_ready (rs := [3]) (by kernel_rfl) (by simp) ?_
                refine AllReady.cons rfl (fun K hK => ?_) ?_
                · go_simp
                  refine hK _ _ ?_
                  clear hK K
                  refine wpAny_ready (rs := [4]) (by kernel_rfl) (by simp) ?_
                  refine AllReady.cons rfl (fun K hK => ?_) ?_
                  · refine step_append_lies _ (by rfl) (.tmp 28) (.tmp 31) 42 (by rfl) (w1.heap.size + 1) 50 i0 _ 3 48 Try.underlying42 hi0 hz0 hz1 hz2 rfl (by decide) (.slice a ds.length c) ds.length _ (by rfl) HOWN.out ⟨w3.heap.size, 0, none⟩ 1 1 [.int .i64 at3, .string tx3, .slice a3 ms3.length c3] (by rfl) (by rfl) HNEWS.out (by simp [Value.oneCell']) (by omega) (by simp only [maxLen]; omega) (by omega) (by simp; omega) (w3.heap.size + 1) (by simp) ?_
                    intro g cap w5 hown1 hgrow hat hlt5
                    have HGR := Lib.hid hgrow
                    have HOW := Lib.hid hown1
                    have HAT := Lib.hid hat
                    have g5 := HIv.out.after HK3.out hgrow
                    have c25 := blk1 g5
                    have f25 := free_of_block (off := 0) g5
                    clear hgrow hown1 hat g5
                    refine hK _ _ ?_
                    clear hK K
                    refine wpAny_ready (rs := [5]) (by kernel_rfl) (by simp) ?_
                    refine AllReady.cons rfl (fun K hK => ?_) ?_
                    · go_simp
                      refine hK _ _ ?_
                      clear hK K
                      refine wpAny_done (by kernel_rfl) ?_ _
                      obtain ⟨t1, r1, hF, hlt1⟩ := HIv.out.next HPD.out HPS.out HOK.out HNS.out HROW.out HR3.out HK3.out HGR.out HOW.out HAT.out
                      go_wp2_with fail
                      go_roundg l1.length
                      case measure => exact hlt1
                      case rel => exact ⟨_, _, _, t1, r1, o1, hF⟩
                    exact AllReady.nil
                  exact AllReady.nil
                exact AllReady.nil
              exact AllReady.nil
            refine AllReady.cons rfl (fun K hK => ?_) ?_
            · go_simp
              go_at_call 38
              refine HD.out.mono ?_
              rintro e w3 ⟨at3, tx3, a3, c3, ms3, rfl, hns, hrow, hr3, hk3⟩
              have hs3 : W.heap.size ≤ w3.heap.size := hk3.size
              have g3 := hk3.get HIv.out.res (by omega)
              have c23 := blk1 g3
              have HK3 := Lib.hid hk3
              have HR3 := Lib.hid hr3
              have HROW := Lib.hid hrow
              have HNS := Lib.hid hns
              have HOWN := Lib.hid (HIv.out.own hk3 (.cells #[.int .i64 at3, .string tx3, .slice a3 ms3.length c3] 50))
              have HNEWS := Lib.hid (World.news_of_block (w := w3.alloc (.cells #[.int .i64 at3, .string tx3, .slice a3 ms3.length c3] 50)) (B := w3.heap.size) (cs := #[.int .i64 at3, .string tx3, .slice a3 ms3.length c3]) (t := 50) (fr := (0, 0)) (heap_alloc_this _ _))
              have hl23 : w.heap.size < w3.heap.size := by omega
              have hn23 : w.heap.size ≠ w3.heap.size := by omega
              clear hk3 hr3 hrow hns g3
              refine hK _ _ ?_
              clear hK K
              refine wpAny_ready (rs := [0, 3]) (by kernel_rfl) (by simp) ?_
              refine AllReady.cons rfl (fun K hK => ?_) ?_
              · go_simp
                refine hK _ _ ?_
                clear hK K
                refine wpAny_ready (rs := [3]) (by kernel_rfl) (by simp) ?_
                refine AllReady.cons rfl (fun K hK => ?_) ?_
                · go_simp
                  refine hK _ _ ?_
                  clear hK K
                  refine wpAny_ready (rs := [4]) (by kernel_rfl) (by simp) ?_
                  refine AllReady.cons rfl (fun K hK => ?_) ?_
                  · refine step_append_lies _ (by rfl) (.tmp 28) (.tmp 31) 42 (by rfl) (w1.heap.size + 1) 50 i0 _ 3 48 Try.underlying42 hi0 hz0 hz1 hz2 rfl (by decide) (.slice a ds.length c) ds.length _ (by rfl) HOWN.out ⟨w3.heap.size, 0, none⟩ 1 1 [.int .i64 at3, .string tx3, .slice a3 ms3.length c3] (by rfl) (by rfl) HNEWS.out (by simp [Value.oneCell']) (by omega) (by simp only [maxLen]; omega) (by omega) (by simp; omega) (w3.heap.size + 1) (by simp) ?_
                    intro g cap w5 hown1 hgrow hat hlt5
                    have HGR := Lib.hid hgrow
                    have HOW := Lib.hid hown1
                    have HAT := Lib.hid hat
                    have g5 := HIv.out.after HK3.out hgrow
                    have c25 := blk1 g5
                    have f25 := free_of_block (off := 0) g5
                    clear hgrow hown1 hat g5
                    refine hK _ _ ?_
                    clear hK K
                    refine wpAny_ready (rs := [5]) (by kernel_rfl) (by simp) ?_
                    refine AllReady.cons rfl (fun K hK => ?_) ?_
                    · go_simp
                      refine hK _ _ ?_
                      clear hK K
                      refine wpAny_done (by kernel_rfl) ?_ _
                      obtain ⟨t1, r1, hF, hlt1⟩ := HIv.out.next HPD.out HPS.out HOK.out HNS.out HROW.out HR3.out HK3.out HGR.out HOW.out HAT.out
                      go_wp2_with fail
                      go_roundg l1.length
                      case measure => exact hlt1
                      case rel => exact ⟨_, _, _, t1, r1, o1, hF⟩
                    exact AllReady.nil
                  exact AllReady.nil
                exact AllReady.nil
              refine AllReady.cons rfl (fun K hK => ?_) ?_
              · go_simp
                refine hK _ _ ?_
                clear hK K
                refine wpAny_ready (rs := [0]) (by kernel_rfl) (by simp) ?_
                refine AllReady.cons rfl (fun K hK => ?_) ?_
                · go_simp
                  refine hK _ _ ?_
                  clear hK K
                  refine wpAny_ready (rs := [4]) (by kernel_rfl) (by simp) ?_
                  refine AllReady.cons rfl (fun K hK => ?_) ?_
                  · refine step_append_lies _ (by rfl) (.tmp 28) (.tmp 31) 42 (by rfl) (w1.heap.size + 1) 50 i0 _ 3 48 Try.underlying42 hi0 hz0 hz1 hz2 rfl (by decide) (.slice a ds.length c) ds.length _ (by rfl) HOWN.out ⟨w3.heap.size, 0, none⟩ 1 1 [.int .i64 at3, .string tx3, .slice a3 ms3.length c3] (by rfl) (by rfl) HNEWS.out (by simp [Value.oneCell']) (by omega) (by simp only [maxLen]; omega) (by omega) (by simp; omega) (w3.heap.size + 1) (by simp) ?_
                    intro g cap w5 hown1 hgrow hat hlt5
                    have HGR := Lib.hid hgrow
                    have HOW := Lib.hid hown1
                    have HAT := Lib.hid hat
                    have g5 := HIv.out.after HK3.out hgrow
                    have c25 := blk1 g5
                    have f25 := free_of_block (off := 0) g5
                    clear hgrow hown1 hat g5
                    refine hK _ _ ?_
                    clear hK K
                    refine wpAny_ready (rs := [5]) (by kernel_rfl) (by simp) ?_
                    refine AllReady.cons rfl (fun K hK => ?_) ?_
                    · go_simp
                      refine hK _ _ ?_
                      clear hK K
                      refine wpAny_done (by kernel_rfl) ?_ _
                      obtain ⟨t1, r1, hF, hlt1⟩ := HIv.out.next HPD.out HPS.out HOK.out HNS.out HROW.out HR3.out HK3.out HGR.out HOW.out HAT.out
                      go_wp2_with fail
                      go_roundg l1.length
                      case measure => exact hlt1
                      case rel => exact ⟨_, _, _, t1, r1, o1, hF⟩
                    exact AllReady.nil
                  exact AllReady.nil
                exact AllReady.nil
              exact AllReady.nil
            exact AllReady.nil
          exact AllReady.nil
      · have hd : ((ds.length : Int) == 0) = false := by simpa using hz
        have hk0 : t.kind ≠ 0 := by simp [hz] at hm; exact hm
        have hk1 : (t.kind != 0) = true := by simpa using hk0
        clear hm hz hk0
        go_wp2_with fail
        refine HN.out.mono ?_
        rintro e W ⟨rfl, hbW⟩
        have hIW := HI0.out.go hbW
        obtain ⟨c2, f2, c3, c4, f3, f4, hlr⟩ := hIW.facts
        have HIv := Lib.hid hIW
        clear hbW hIW HN HI0
        go_wp2_with fail
        rcases hrest with ⟨er, ep, hpd, hok⟩ | ⟨ns, l1, o1, hpd, hps, hok⟩
        · have HPD := Lib.hid hpd
          have HOK := Lib.hid hok
          clear hpd hok
          refine wp_region_any (by kernel_rfl) ?_
          change wpAny _ _ _ _ _ _ _ (World.drew _)
          refine wpAny_ready (rs := [0, 1]) (by kernel_rfl) (by simp) ?_
          refine AllReady.cons rfl (fun K hK => ?_) ?_
          · go_simp
            refine hK _ _ ?_
            clear hK K
            refine wpAny_ready (rs := [1]) (by kernel_rfl) (by simp) ?_
            refine AllReady.cons rfl (fun K hK => ?_) ?_
            · go_simp
              refine hK _ _ ?_
              clear hK K
              refine wpAny_ready (rs := [2]) (by kernel_rfl) (by simp) ?_
              refine AllReady.cons rfl (fun K hK => ?_) ?_
              · go_simp
                go_at_call 38
                refine (def_any HPD.out HIv.out.ends (by exact HIv.out.rd.drew)).mono ?_
                rintro e w3 ⟨rfl, hk3⟩
                have HG2 := Lib.hid (hk3.get HIv.out.res (by have := HIv.out.low; omega))
                have HG3 := Lib.hid (hk3.get HIv.out.flt (by have := HIv.out.low; omega))
                have HK3 := Lib.hid hk3
                clear hk3
                go_wp2_with fail
                refine leaves_cons (f := 36) (args := #[.pointer (some ⟨w.heap.size, 0, none⟩), .pointer (some ⟨w.heap.size + 1, 0, none⟩)]) (by simp) (by simp [go_sem]) ?_
                refine (catch_fault w.heap.size (w.heap.size + 1) er ep [] _ (by omega) _ HG2.out _ _ HG3.out).mono ?_
                rintro e u' w4 ⟨rfl, rfl, h2, h3, hk4⟩
                have hset : settle (.panicking ({ v := faultV er ep, recovered := true } :: [])) = .returning := by simp [settle]
                show Leaves _ _ _ _ [] (settle _) _
                rw [hset]
                have d2 := blk1 h2
                obtain ⟨d3, d4⟩ := blk2 h3
                rw [HIv.out.out, HOK.out]
                refine ⟨.tuple #[.slice none 0 0, .agg #[.int .i64 er, .int .i64 ep]], by simp [results, Try.results20, go_sem, d2, d3, d4], rfl, ?_⟩
                exact (((kept_of_below (S := fun _ => False) HIv.out.below.drew).then HK3.out (S'' := fun _ => False) (fun _ _ h => h) (fun i hi h => by have := HIv.out.low; omega)).then hk4 (S'' := fun _ => False) (fun _ _ h => h) (fun i hi h => by have := HIv.out.low; omega)).below (Nat.le_refl _) (fun _ _ h => h)
              exact AllReady.nil
            exact AllReady.nil
          refine AllReady.cons rfl (fun K hK => ?_) ?_
          · go_simp
            refine hK _ _ ?_
            clear hK K
            refine wpAny_ready (rs := [0, 2]) (by kernel_rfl) (by simp) ?_
            refine AllReady.cons rfl (fun K hK => ?_) ?_
            · go_simp
              refine hK _ _ ?_
              clear hK K
              refine wpAny_ready (rs := [2]) (by kernel_rfl) (by simp) ?_
              refine AllReady.cons rfl (fun K hK => ?_) ?_
              · go_simp
                go_at_call 38
                refine (def_any HPD.out HIv.out.ends (by exact HIv.out.rd.drew)).mono ?_
                rintro e w3 ⟨rfl, hk3⟩
                have HG2 := Lib.hid (hk3.get HIv.out.res (by have := HIv.out.low; omega))
                have HG3 := Lib.hid (hk3.get HIv.out.flt (by have := HIv.out.low; omega))
                have HK3 := Lib.hid hk3
                clear hk3
                go_wp2_with fail
                refine leaves_cons (f := 36) (args := #[.pointer (some ⟨w.heap.size, 0, none⟩), .pointer (some ⟨w.heap.size + 1, 0, none⟩)]) (by simp) (by simp [go_sem]) ?_
                refine (catch_fault w.heap.size (w.heap.size + 1) er ep [] _ (by omega) _ HG2.out _ _ HG3.out).mono ?_
                rintro e u' w4 ⟨rfl, rfl, h2, h3, hk4⟩
                have hset : settle (.panicking ({ v := faultV er ep, recovered := true } :: [])) = .returning := by simp [settle]
                show Leaves _ _ _ _ [] (settle _) _
                rw [hset]
                have d2 := blk1 h2
                obtain ⟨d3, d4⟩ := blk2 h3
                rw [HIv.out.out, HOK.out]
                refine ⟨.tuple #[.slice none 0 0, .agg #[.int .i64 er, .int .i64 ep]], by simp [results, Try.results20, go_sem, d2, d3, d4], rfl, ?_⟩
                exact (((kept_of_below (S := fun _ => False) HIv.out.below.drew).then HK3.out (S'' := fun _ => False) (fun _ _ h => h) (fun i hi h => by have := HIv.out.low; omega)).then hk4 (S'' := fun _ => False) (fun _ _ h => h) (fun i hi h => by have := HIv.out.low; omega)).below (Nat.le_refl _) (fun _ _ h => h)
              exact AllReady.nil
            refine AllReady.cons rfl (fun K hK => ?_) ?_
            · go_simp
              go_at_call 38
              refine (def_any HPD.out HIv.out.ends (by exact HIv.out.rd.drew)).mono ?_
              rintro e w3 ⟨rfl, hk3⟩
              have HG2 := Lib.hid (hk3.get HIv.out.res (by have := HIv.out.low; omega))
              have HG3 := Lib.hid (hk3.get HIv.out.flt (by have := HIv.out.low; omega))
              have HK3 := Lib.hid hk3
              clear hk3
              go_wp2_with fail
              refine leaves_cons (f := 36) (args := #[.pointer (some ⟨w.heap.size, 0, none⟩), .pointer (some ⟨w.heap.size + 1, 0, none⟩)]) (by simp) (by simp [go_sem]) ?_
              refine (catch_fault w.heap.size (w.heap.size + 1) er ep [] _ (by omega) _ HG2.out _ _ HG3.out).mono ?_
              rintro e u' w4 ⟨rfl, rfl, h2, h3, hk4⟩
              have hset : settle (.panicking ({ v := faultV er ep, recovered := true } :: [])) = .returning := by simp [settle]
              show Leaves _ _ _ _ [] (settle _) _
              rw [hset]
              have d2 := blk1 h2
              obtain ⟨d3, d4⟩ := blk2 h3
              rw [HIv.out.out, HOK.out]
              refine ⟨.tuple #[.slice none 0 0, .agg #[.int .i64 er, .int .i64 ep]], by simp [results, Try.results20, go_sem, d2, d3, d4], rfl, ?_⟩
              exact (((kept_of_below (S := fun _ => False) HIv.out.below.drew).then HK3.out (S'' := fun _ => False) (fun _ _ h => h) (fun i hi h => by have := HIv.out.low; omega)).then hk4 (S'' := fun _ => False) (fun _ _ h => h) (fun i hi h => by have := HIv.out.low; omega)).below (Nat.le_refl _) (fun _ _ h => h)
            exact AllReady.nil
          exact AllReady.nil
        · have HD := Lib.hid (def_any hpd HIv.out.ends (w := W.drew) (rb := w1.heap.size) (by exact HIv.out.rd.drew))
          have HPD := Lib.hid hpd
          have HPS := Lib.hid hps
          have HOK := Lib.hid hok
          clear hpd hok hps
          have hfewW := HIv.out.few
          have hlow := HIv.out.low
          have hsW := lt_of_block HIv.out.res
          refine wp_region_any (by kernel_rfl) ?_
          change wpAny _ _ _ _ _ _ _ (World.drew _)
          refine wpAny_ready (rs := [0, 1]) (by kernel_rfl) (by simp) ?_
          refine AllReady.cons rfl (fun K hK => ?_) ?_
          · go_simp
            refine hK _ _ ?_
            clear hK K
            refine wpAny_ready (rs := [1]) (by kernel_rfl) (by simp) ?_
            refine AllReady.cons rfl (fun K hK => ?_) ?_
            · go_simp
              refine hK _ _ ?_
              clear hK K
              refine wpAny_ready (rs := [2]) (by kernel_rfl) (by simp) ?_
              refine AllReady.cons rfl (fun K hK => ?_) ?_
              · go_simp
                go_at_call 38
                refine HD.out.mono ?_
                rintro e w3 ⟨at3, tx3, a3, c3, ms3, rfl, hns, hrow, hr3, hk3⟩
                have hs3 : W.heap.size ≤ w3.heap.size := hk3.size
                have g3 := hk3.get HIv.out.res (by omega)
                have c23 := blk1 g3
                have HK3 := Lib.hid hk3
                have HR3 := Lib.hid hr3
                have HROW := Lib.hid hrow
                have HNS := Lib.hid hns
                have HOWN := Lib.hid (HIv.out.own hk3 (.cells #[.int .i64 at3, .string tx3, .slice a3 ms3.length c3] 50))
                have HNEWS := Lib.hid (World.news_of_block (w := w3.alloc (.cells #[.int .i64 at3, .string tx3, .slice a3 ms3.length c3] 50)) (B := w3.heap.size) (cs := #[.int .i64 at3, .string tx3, .slice a3 ms3.length c3]) (t := 50) (fr := (0, 0)) (heap_alloc_this _ _))
                have hl23 : w.heap.size < w3.heap.size := by omega
                have hn23 : w.heap.size ≠ w3.heap.size := by omega
                clear hk3 hr3 hrow hns g3
                refine hK _ _ ?_
                clear hK K
                refine wpAny_ready (rs := [3]) (by kernel_rfl) (by simp) ?_
                refine AllReady.cons rfl (fun K hK => ?_) ?_
                · go_simp
                  refine hK _ _ ?_
                  clear hK K
                  refine wpAny_ready (rs := [4]) (by kernel_rfl) (by simp) ?_
                  refine AllReady.cons rfl (fun K hK => ?_) ?_
                  · refine step_append_lies _ (by rfl) (.tmp 28) (.tmp 31) 42 (by rfl) (w1.heap.size + 1) 50 i0 _ 3 48 Try.underlying42 hi0 hz0 hz1 hz2 rfl (by decide) (.slice a ds.length c) ds.length _ (by rfl) HOWN.out ⟨w3.heap.size, 0, none⟩ 1 1 [.int .i64 at3, .string tx3, .slice a3 ms3.length c3] (by rfl) (by rfl) HNEWS.out (by simp [Value.oneCell']) (by omega) (by simp only [maxLen]; omega) (by omega) (by simp; omega) (w3.heap.size + 1) (by simp) ?_
                    intro g cap w5 hown1 hgrow hat hlt5
                    have HGR := Lib.hid hgrow
                    have HOW := Lib.hid hown1
                    have HAT := Lib.hid hat
                    have g5 := HIv.out.after HK3.out hgrow
                    have c25 := blk1 g5
                    have f25 := free_of_block (off := 0) g5
                    clear hgrow hown1 hat g5
                    refine hK _ _ ?_
                    clear hK K
                    refine wpAny_ready (rs := [5]) (by kernel_rfl) (by simp) ?_
                    refine AllReady.cons rfl (fun K hK => ?_) ?_
                    · go_simp
                      refine hK _ _ ?_
                      clear hK K
                      refine wpAny_done (by kernel_rfl) ?_ _
                      obtain ⟨t1, r1, hF, hlt1⟩ := HIv.out.next HPD.out HPS.out HOK.out HNS.out HROW.out HR3.out HK3.out HGR.out HOW.out HAT.out
                      go_wp2_with fail
                      go_roundg l1.length
                      case measure => exact hlt1
                      case rel => exact ⟨_, _, _, t1, r1, o1, hF⟩
                    exact AllReady.nil
                  exact AllReady.nil
                exact AllReady.nil
              exact AllReady.nil
            exact AllReady.nil
          refine AllReady.cons rfl (fun K hK => ?_) ?_
          · go_simp
            refine hK _ _ ?_
            clear hK K
            refine wpAny_ready (rs := [0, 2]) (by kernel_rfl) (by simp) ?_
            refine AllReady.cons rfl (fun K hK => ?_) ?_
            · go_simp
              refine hK _ _ ?_
              clear hK K
              refine wpAny_ready (rs := [2]) (by kernel_rfl) (by simp) ?_
              refine AllReady.cons rfl (fun K hK => ?_) ?_
              · go_simp
                go_at_call 38
                refine HD.out.mono ?_
                rintro e w3 ⟨at3, tx3, a3, c3, ms3, rfl, hns, hrow, hr3, hk3⟩
                have hs3 : W.heap.size ≤ w3.heap.size := hk3.size
                have g3 := hk3.get HIv.out.res (by omega)
                have c23 := blk1 g3
                have HK3 := Lib.hid hk3
                have HR3 := Lib.hid hr3
                have HROW := Lib.hid hrow
                have HNS := Lib.hid hns
                have HOWN := Lib.hid (HIv.out.own hk3 (.cells #[.int .i64 at3, .string tx3, .slice a3 ms3.length c3] 50))
                have HNEWS := Lib.hid (World.news_of_block (w := w3.alloc (.cells #[.int .i64 at3, .string tx3, .slice a3 ms3.length c3] 50)) (B := w3.heap.size) (cs := #[.int .i64 at3, .string tx3, .slice a3 ms3.length c3]) (t := 50) (fr := (0, 0)) (heap_alloc_this _ _))
                have hl23 : w.heap.size < w3.heap.size := by omega
                have hn23 : w.heap.size ≠ w3.heap.size := by omega
                clear hk3 hr3 hrow hns g3
                refine hK _ _ ?_
                clear hK K
                refine wpAny_ready (rs := [3]) (by kernel_rfl) (by simp) ?_
                refine AllReady.cons rfl (fun K hK => ?_) ?_
                · go_simp
                  refine hK _ _ ?_
                  clear hK K
                  refine wpAny_ready (rs := [4]) (by kernel_rfl) (by simp) ?_
                  refine AllReady.cons rfl (fun K hK => ?_) ?_
                  · refine step_append_lies _ (by rfl) (.tmp 28) (.tmp 31) 42 (by rfl) (w1.heap.size + 1) 50 i0 _ 3 48 Try.underlying42 hi0 hz0 hz1 hz2 rfl (by decide) (.slice a ds.length c) ds.length _ (by rfl) HOWN.out ⟨w3.heap.size, 0, none⟩ 1 1 [.int .i64 at3, .string tx3, .slice a3 ms3.length c3] (by rfl) (by rfl) HNEWS.out (by simp [Value.oneCell']) (by omega) (by simp only [maxLen]; omega) (by omega) (by simp; omega) (w3.heap.size + 1) (by simp) ?_
                    intro g cap w5 hown1 hgrow hat hlt5
                    have HGR := Lib.hid hgrow
                    have HOW := Lib.hid hown1
                    have HAT := Lib.hid hat
                    have g5 := HIv.out.after HK3.out hgrow
                    have c25 := blk1 g5
                    have f25 := free_of_block (off := 0) g5
                    clear hgrow hown1 hat g5
                    refine hK _ _ ?_
                    clear hK K
                    refine wpAny_ready (rs := [5]) (by kernel_rfl) (by simp) ?_
                    refine AllReady.cons rfl (fun K hK => ?_) ?_
                    · go_simp
                      refine hK _ _ ?_
                      clear hK K
                      refine wpAny_done (by kernel_rfl) ?_ _
                      obtain ⟨t1, r1, hF, hlt1⟩ := HIv.out.next HPD.out HPS.out HOK.out HNS.out HROW.out HR3.out HK3.out HGR.out HOW.out HAT.out
                      go_wp2_with fail
                      go_roundg l1.length
                      case measure => exact hlt1
                      case rel => exact ⟨_, _, _, t1, r1, o1, hF⟩
                    exact AllReady.nil
                  exact AllReady.nil
                exact AllReady.nil
              exact AllReady.nil
            refine AllReady.cons rfl (fun K hK => ?_) ?_
            · go_simp
              go_at_call 38
              refine HD.out.mono ?_
              rintro e w3 ⟨at3, tx3, a3, c3, ms3, rfl, hns, hrow, hr3, hk3⟩
              have hs3 : W.heap.size ≤ w3.heap.size := hk3.size
              have g3 := hk3.get HIv.out.res (by omega)
              have c23 := blk1 g3
              have HK3 := Lib.hid hk3
              have HR3 := Lib.hid hr3
              have HROW := Lib.hid hrow
              have HNS := Lib.hid hns
              have HOWN := Lib.hid (HIv.out.own hk3 (.cells #[.int .i64 at3, .string tx3, .slice a3 ms3.length c3] 50))
              have HNEWS := Lib.hid (World.news_of_block (w := w3.alloc (.cells #[.int .i64 at3, .string tx3, .slice a3 ms3.length c3] 50)) (B := w3.heap.size) (cs := #[.int .i64 at3, .string tx3, .slice a3 ms3.length c3]) (t := 50) (fr := (0, 0)) (heap_alloc_this _ _))
              have hl23 : w.heap.size < w3.heap.size := by omega
              have hn23 : w.heap.size ≠ w3.heap.size := by omega
              clear hk3 hr3 hrow hns g3
              refine hK _ _ ?_
              clear hK K
              refine wpAny_ready (rs := [0, 3]) (by kernel_rfl) (by simp) ?_
              refine AllReady.cons rfl (fun K hK => ?_) ?_
              · go_simp
                refine hK _ _ ?_
                clear hK K
                refine wpAny_ready (rs := [3]) (by kernel_rfl) (by simp) ?_
                refine AllReady.cons rfl (fun K hK => ?_) ?_
                · go_simp
                  refine hK _ _ ?_
                  clear hK K
                  refine wpAny_ready (rs := [4]) (by kernel_rfl) (by simp) ?_
                  refine AllReady.cons rfl (fun K hK => ?_) ?_
                  · refine step_append_lies _ (by rfl) (.tmp 28) (.tmp 31) 42 (by rfl) (w1.heap.size + 1) 50 i0 _ 3 48 Try.underlying42 hi0 hz0 hz1 hz2 rfl (by decide) (.slice a ds.length c) ds.length _ (by rfl) HOWN.out ⟨w3.heap.size, 0, none⟩ 1 1 [.int .i64 at3, .string tx3, .slice a3 ms3.length c3] (by rfl) (by rfl) HNEWS.out (by simp [Value.oneCell']) (by omega) (by simp only [maxLen]; omega) (by omega) (by simp; omega) (w3.heap.size + 1) (by simp) ?_
                    intro g cap w5 hown1 hgrow hat hlt5
                    have HGR := Lib.hid hgrow
                    have HOW := Lib.hid hown1
                    have HAT := Lib.hid hat
                    have g5 := HIv.out.after HK3.out hgrow
                    have c25 := blk1 g5
                    have f25 := free_of_block (off := 0) g5
                    clear hgrow hown1 hat g5
                    refine hK _ _ ?_
                    clear hK K
                    refine wpAny_ready (rs := [5]) (by kernel_rfl) (by simp) ?_
                    refine AllReady.cons rfl (fun K hK => ?_) ?_
                    · go_simp
                      refine hK _ _ ?_
                      clear hK K
                      refine wpAny_done (by kernel_rfl) ?_ _
                      obtain ⟨t1, r1, hF, hlt1⟩ := HIv.out.next HPD.out HPS.out HOK.out HNS.out HROW.out HR3.out HK3.out HGR.out HOW.out HAT.out
                      go_wp2_with fail
                      go_roundg l1.length
                      case measure => exact hlt1
                      case rel => exact ⟨_, _, _, t1, r1, o1, hF⟩
                    exact AllReady.nil
                  exact AllReady.nil
                exact AllReady.nil
              refine AllReady.cons rfl (fun K hK => ?_) ?_
              · go_simp
                refine hK _ _ ?_
                clear hK K
                refine wpAny_ready (rs := [0]) (by kernel_rfl) (by simp) ?_
                refine AllReady.cons rfl (fun K hK => ?_) ?_
                · go_simp
                  refine hK _ _ ?_
                  clear hK K
                  refine wpAny_ready (rs := [4]) (by kernel_rfl) (by simp) ?_
                  refine AllReady.cons rfl (fun K hK => ?_) ?_
                  · refine step_append_lies _ (by rfl) (.tmp 28) (.tmp 31) 42 (by rfl) (w1.heap.size + 1) 50 i0 _ 3 48 Try.underlying42 hi0 hz0 hz1 hz2 rfl (by decide) (.slice a ds.length c) ds.length _ (by rfl) HOWN.out ⟨w3.heap.size, 0, none⟩ 1 1 [.int .i64 at3, .string tx3, .slice a3 ms3.length c3] (by rfl) (by rfl) HNEWS.out (by simp [Value.oneCell']) (by omega) (by simp only [maxLen]; omega) (by omega) (by simp; omega) (w3.heap.size + 1) (by simp) ?_
                    intro g cap w5 hown1 hgrow hat hlt5
                    have HGR := Lib.hid hgrow
                    have HOW := Lib.hid hown1
                    have HAT := Lib.hid hat
                    have g5 := HIv.out.after HK3.out hgrow
                    have c25 := blk1 g5
                    have f25 := free_of_block (off := 0) g5
                    clear hgrow hown1 hat g5
                    refine hK _ _ ?_
                    clear hK K
                    refine wpAny_ready (rs := [5]) (by kernel_rfl) (by simp) ?_
                    refine AllReady.cons rfl (fun K hK => ?_) ?_
                    · go_simp
                      refine hK _ _ ?_
                      clear hK K
                      refine wpAny_done (by kernel_rfl) ?_ _
                      obtain ⟨t1, r1, hF, hlt1⟩ := HIv.out.next HPD.out HPS.out HOK.out HNS.out HROW.out HR3.out HK3.out HGR.out HOW.out HAT.out
                      go_wp2_with fail
                      go_roundg l1.length
                      case measure => exact hlt1
                      case rel => exact ⟨_, _, _, t1, r1, o1, hF⟩
                    exact AllReady.nil
                  exact AllReady.nil
                exact AllReady.nil
              exact AllReady.nil
            exact AllReady.nil
          exact AllReady.nil
end Go.Proofs.Yticdihfjnmjkmaa
