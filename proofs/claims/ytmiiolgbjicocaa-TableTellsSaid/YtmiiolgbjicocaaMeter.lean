/- A measure of work: New, Spend, Run, Try, however the work comes to its end. -/
import Derived.Test.YtmiiolgbjicocaaProg
import Derived.Test.YtmiiolgbjicocaaLib
import Derived.Recover
import Derived.LaidEqlPtr
namespace Go
section
variable {P : Program}
/-- A deferred closure whose first region is recover alone: behind it the body goes on as any. -/
theorem callsD_recover {f : FuncId} {fn : Func} {rest : Code} {o : Oper} {id : Nat} {args : Array Value} {u u' : FrameMode} {w : World} {R : Ending → FrameMode → World → Prop}
    {T : Array Value} {v : Value}
    (hf : P.funcs[f]? = some fn) (hb : fn.body = some ((Code.region id #[o] false).seq rest)) (hT : args ++ Array.replicate (fn.ntmps - args.size) undef = T)
    (hr : ∀ c : Frame, c.mode = u → ∀ cs Q, wpOpsS P #[o] Q [0] ⟨T, []⟩ (c :: cs) w = Q .normal ((⟨T, []⟩ : Act).put o.dst v) ({ c with mode := u' } :: cs) w)
    (h : rest.wp P (bodyPost P fn (fun e w' => R e u' w')) ((⟨T, []⟩ : Act).put o.dst v) w) : CallsD P f args u w R := by
  refine callsD_of_wpS hf hb fun c₀ cs hu => ?_
  rw [hT]
  refine wpS_seq (wpS_region ?_)
  show wpOpsS P #[o] _ [0] _ _ _
  rw [hr c₀ hu]
  refine wpS_of_wp (Code.wp_mono ?_ h)
  intro e a w' hq
  cases e with
  | normal => obtain ⟨hd, v, hr, hR⟩ := hq; exact ⟨hd, u', rfl, v, hr, hR⟩
  | ret => obtain ⟨hd, v, hr, hR⟩ := hq; exact ⟨hd, u', rfl, v, hr, hR⟩
  | panic chain => obtain ⟨hd, hR⟩ := hq; exact ⟨hd, u', rfl, hR⟩
  | exit id => exact hq.elim
  | goto l => exact hq.elim
  | outgrown => exact ⟨u', hq⟩
end
end Go

namespace Go.Proofs.Ytmiiolgbjicocaa
open Go.RowKit
def overV (b : Nat) : Value := .iface 132 (.agg #[.pointer (some ⟨b, 0, none⟩)])
set_option maxRecDepth 100000 in
theorem catch_idle (p q : Addr) (w : World) :
    CallsD Try.prog 81 #[.pointer (some p), .pointer (some q)] .returning w fun e u' w' => e = .returned (.tuple #[]) ∧ u' = .returning ∧ w = w' := by
  refine callsD_recover (u' := .returning) (v := .nilIface) Try.func81 rfl rfl ?_ ?_
  · intro c hc cs Q
    obtain ⟨⟩ := c
    simp only at hc
    subst hc
    simp [wpOpsS, go_sem, recoverD]
  simp only [Act.put, Try.ntmps81, List.size_toArray, List.length_cons, List.length_nil, Nat.reduceAdd, Nat.reduceSub, Array.replicate_succ,
     Array.replicate_zero, List.push_toArray, List.append_toArray, List.nil_append, List.cons_append]
  go_wp2
  go_end0
  exact ⟨rfl, trivial, rfl⟩
theorem hta : ∀ (v : Value) (w : World), (Instr.typeAssert (.iface 132 v) 20 132 true).run Try.prog w = .ok (.tuple #[v, .bool true]) w := fun _ _ => by kernel_rfl
theorem info114 : (Try.prog.info? 114).map (fun i => (i.zero, i.size, i.bytes)) = some (some (.agg #[.int .i64 0, .int .i64 0]), 2, 16) := by kernel_rfl
set_option maxRecDepth 100000 in
theorem catch_same (b : Nat) (p q : Addr) (older : List PanicEntry) (w : World) (hp : w.cell? p = some (.pointer (some ⟨b, 0, none⟩))) (hpb : p.block < w.heap.size)
    (x : Bool) (hq : q.block < w.heap.size) (hc : w.cell? q = some (.bool x)) (hz : w.frozen? q = false) :
    CallsD Try.prog 81 #[.pointer (some p), .pointer (some q)] (.panicking ({ v := overV b, recovered := false } :: older)) w fun e u' w' =>
      e = .returned (.tuple #[]) ∧ u' = .panicking ({ v := overV b, recovered := true } :: older) ∧ w' = (w.alloc (.cells #[.pointer (some ⟨b, 0, none⟩)] 132)).setCell q (.bool false) := by
  unfold overV
  refine callsD_recover (u' := .panicking ({ v := .iface 132 (.agg #[.pointer (some ⟨b, 0, none⟩)]), recovered := true } :: older)) (v := .iface 132 (.agg #[.pointer (some ⟨b, 0, none⟩)])) Try.func81 rfl rfl ?_ ?_
  · intro c hc cs Q
    obtain ⟨⟩ := c
    simp only at hc
    subst hc
    simp [wpOpsS, go_sem, recoverD]
  have hp' : ∀ o : Obj, (w.alloc o).cell? p = some (.pointer (some ⟨b, 0, none⟩)) := fun o => cell_alloc_keep hpb hp
  have hc' : ∀ o : Obj, (w.alloc o).cell? q = some (.bool x) := fun o => cell_alloc_keep hq hc
  have hz' : ∀ o : Obj, (w.alloc o).frozen? q = false := fun o => frozen_alloc_keep hq hz
  obtain ⟨i0, hi, -, -, -⟩ := info_parts info114
  have hne := fun W => Lib.run_neq_ptr_same W ⟨b, 0, none⟩ Try.underlying110 hi
  simp only [Act.put, Try.ntmps81, List.size_toArray, List.length_cons, List.length_nil, Nat.reduceAdd, Nat.reduceSub, Array.replicate_succ,
     Array.replicate_zero, List.push_toArray, List.append_toArray, List.nil_append, List.cons_append]
  have hta := hta
  go_wp2
  go_end0
  exact ⟨rfl, trivial, rfl⟩
/-- A meter. -/
def MeterAt (w : World) (b : Nat) (l s : Int) : Prop := w.heap[b]? = some (.cells #[.int .i64 l, .int .i64 s] 114 (0, 0))
def held (n : Int) : Int := if n < 0 then 0 else if 1000000 < n then 1000000 else n
theorem held_range (n : Int) : 0 ≤ held n ∧ held n ≤ 1000000 := by unfold held; split <;> (try split) <;> omega
theorem new_any (n : Int) (w : World) :
    Calls Try.prog 61 #[.int .i64 n] w fun e w' => e = .returned (.pointer (some ⟨w.heap.size, 0, none⟩)) ∧
      w' = w.alloc (.cells #[.int .i64 (held n), .int .i64 0] 114) := by
  unfold held
  by_cases h0 : n < 0
  · have h1 : ¬ 1000000 < n := by omega
    go_enter Try.func61, Try.ntmps61
    go_wp2
    all_goals go_ret
    all_goals exact ⟨rfl, rfl⟩
  by_cases h1 : 1000000 < n
  all_goals
    have h2 : 0 ≤ n := by omega
    go_enter Try.func61, Try.ntmps61
    go_wp2
    all_goals (try go_ret)
    all_goals first | exact ⟨rfl, rfl⟩ | (have hz : n = 0 := (by omega); subst hz; exact ⟨rfl, rfl⟩)
def nn (n : Int) : Int := if n < 0 then 0 else n
/-- What spending does: one more, or the measure is full. -/
theorem spend_fits {b : Nat} {l s n : Int} {w : World} (h : MeterAt w b l s) (hl0 : 0 ≤ l) (hs0 : 0 ≤ s) (hs : l + s ≤ 1000000) (hn : nn n ≤ l) :
    Calls Try.prog 83 #[.pointer (some ⟨b, 0, none⟩), .int .i64 n] w fun e w' => e = .returned (.tuple #[]) ∧ MeterAt w' b (l - nn n) (s + nn n) ∧ Kept (· = b) w w' := by
  have h1 := cell_of_block (off := 0) h
  have h2 := cell_of_block (off := 1) h
  have f1 := free_of_block (off := 0) h
  have f2 := free_of_block (off := 1) h
  simp at h1 h2
  have hend : ∀ x y : Int, MeterAt ((w.setCell ⟨b, 0, none⟩ (.int .i64 x)).setCell ⟨b, 1, none⟩ (.int .i64 y)) b x y ∧ Kept (· = b) w ((w.setCell ⟨b, 0, none⟩ (.int .i64 x)).setCell ⟨b, 1, none⟩ (.int .i64 y)) := fun x y =>
    ⟨by unfold MeterAt; have := heap_setCell_known (off := 1) (u := .int .i64 y) (heap_setCell_known (off := 0) (u := .int .i64 x) h); simpa using this, ((Kept.refl (· = b) w).setCell (p := ⟨b, 0, none⟩) (.inl rfl) _).setCell (p := ⟨b, 1, none⟩) (.inl rfl) _⟩
  have H := Lib.hid hend
  clear h hend
  unfold nn at hn ⊢
  by_cases h0 : n < 0
  all_goals
    simp only [h0, if_true, if_false] at hn ⊢
    have hn' : ¬ l < n := by omega
    go_enter Try.func83, Try.ntmps83
    go_wp2
    all_goals go_end0
    all_goals first | exact ⟨rfl, by have := H.out (l - 0) (s + 0); simpa using this⟩ | exact ⟨rfl, H.out _ _⟩
theorem spend_over {b : Nat} {l s n : Int} {w : World} (h : MeterAt w b l s) (hl0 : 0 ≤ l) (hs0 : 0 ≤ s) (hs : l + s ≤ 1000000) (hn : l < nn n) :
    Calls Try.prog 83 #[.pointer (some ⟨b, 0, none⟩), .int .i64 n] w fun e w' => e = .panicked [{ v := overV b, recovered := false }] ∧ MeterAt w' b 0 (s + l) ∧ Kept (· = b) w w' := by
  unfold overV
  have h1 := cell_of_block (off := 0) h
  have h2 := cell_of_block (off := 1) h
  have f1 := free_of_block (off := 0) h
  have f2 := free_of_block (off := 1) h
  simp at h1 h2
  have hend : ∀ x y : Int, MeterAt ((w.setCell ⟨b, 1, none⟩ (.int .i64 y)).setCell ⟨b, 0, none⟩ (.int .i64 x)).drew b x y ∧ Kept (· = b) w ((w.setCell ⟨b, 1, none⟩ (.int .i64 y)).setCell ⟨b, 0, none⟩ (.int .i64 x)).drew := fun x y =>
    ⟨by
      have := heap_setCell_known (off := 0) (u := .int .i64 x) (heap_setCell_known (off := 1) (u := .int .i64 y) h)
      simp at this
      exact this, (((Kept.refl (· = b) w).setCell (p := ⟨b, 1, none⟩) (.inl rfl) _).setCell (p := ⟨b, 0, none⟩) (.inl rfl) _).drew⟩
  have H := Lib.hid hend
  clear h hend
  have hn' : l < n := by unfold nn at hn; split at hn <;> omega
  have hn0 : 0 ≤ n := by omega
  clear hn
  go_enter Try.func83, Try.ntmps83
  go_wp2
  go_region
  all_goals go_wp2
  all_goals exact ⟨rfl, rfl, H.out _ _⟩
/-- The two blocks that Run lays ahead of its work. -/
def runW (w : World) (b : Nat) : World := (w.alloc (.cells #[.pointer (some ⟨b, 0, none⟩)] 110)).alloc (.cells #[.bool false] 4)
theorem runW_kept (w : World) (b : Nat) : Kept (fun _ => False) w (runW w b) := ((Kept.refl _ _).alloc _).alloc _
theorem runW_size (w : World) (b : Nat) : (runW w b).heap.size = w.heap.size + 2 := by simp [runW]
theorem runW_m (w : World) (b : Nat) : (runW w b).heap[w.heap.size]? = some (.cells #[.pointer (some ⟨b, 0, none⟩)] 110 (0, 0)) :=
  heap_alloc_keep (heap_alloc_this _ _)
theorem runW_done (w : World) (b : Nat) : (runW w b).heap[w.heap.size + 1]? = some (.cells #[.bool false] 4 (0, 0)) := by
  have := heap_alloc_this (w.alloc (.cells #[.pointer (some ⟨b, 0, none⟩)] 110)) (.cells #[.bool false] 4)
  simpa [runW] using this
theorem heap_three (w : World) (a b c : Obj) : (((w.alloc a).alloc b).alloc c).heap[w.heap.size]? = some a ∧ (((w.alloc a).alloc b).alloc c).heap[w.heap.size + 1]? = some b ∧
    (((w.alloc a).alloc b).alloc c).heap[w.heap.size + 2]? = some c := by
  refine ⟨heap_alloc_keep (heap_alloc_keep (heap_alloc_this _ _)), ?_, ?_⟩
  · have := heap_alloc_keep (o := c) (heap_alloc_this (w.alloc a) b)
    simpa using this
  · have := heap_alloc_this ((w.alloc a).alloc b) c
    simpa using this
/-- How work comes to its end: done, or the measure of this meter was full. -/
def Out (d : Bool) (b : Nat) (e : Ending) : Prop :=
  if d then e = .returned (.tuple #[]) else ∃ older, e = .panicked ({ v := overV b, recovered := false } :: older) ∧ older.dropWhile (!·.goexit) = []
/-- The work that Try hands on: fill, bound to its sets. -/
def fillV (sb : Nat) : Value := .func (.func 33) #[.pointer (some ⟨sb, 0, none⟩)] #[]
theorem work_ex {Fb Mb b sb : Nat} {w : World} {R : Bool → World → Prop} (hF : w.heap[Fb]? = some (.cells #[fillV sb] 85 (0, 0))) (hMp : w.heap[Mb]? = some (.cells #[.pointer (some ⟨b, 0, none⟩)] 110 (0, 0)))
    (hw : Calls Try.prog 33 #[.pointer (some ⟨sb, 0, none⟩), .pointer (some ⟨b, 0, none⟩)] w fun e w2 => ∃ d, Out d b e ∧ R d w2) :
    Calls Try.prog 63 #[.pointer (some ⟨Fb, 0, none⟩), .pointer (some ⟨Mb, 0, none⟩)] w fun e w2 => ∃ d, Out d b e ∧ R d w2 := by
  unfold fillV at hF
  have h1 := cell_of_block (off := 0) hF
  have h2 := cell_of_block (off := 0) hMp
  simp at h1 h2
  have HW := Lib.hid hw
  clear hw hF hMp
  go_enter Try.func63, Try.ntmps63
  go_wp2_with fail
  refine HW.out.mono ?_
  rintro e w2 ⟨d, ho, hr⟩
  have HR := Lib.hid hr
  clear hr
  cases d
  · obtain ⟨older, rfl, hol⟩ := ho
    have HO := Lib.hid hol
    clear hol
    go_wp2
    exact ⟨rfl, false, ⟨older, rfl, HO.out⟩, HR.out⟩
  · have ho : e = .returned (.tuple #[]) := ho
    subst ho
    go_wp2
    go_end0
    exact ⟨true, rfl, HR.out⟩
end Go.Proofs.Ytmiiolgbjicocaa
