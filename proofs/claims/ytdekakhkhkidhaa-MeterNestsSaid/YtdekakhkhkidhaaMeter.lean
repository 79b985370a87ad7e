/- The contracts of layer 3: New, Left, Spent, Spend, Run and its deferred closure, for every meter of at most 1000000. -/
import Derived.Test.YtdekakhkhkidhaaRows
import Derived.Test.YtdekakhkhkidhaaLib
import Derived.Test.YtdekakhkhkidhaaPlain
namespace Go.Proofs.Ytdekakhkhkidhaa
open Go.RowKit
def overV (b : Nat) : Value := .iface 41 (.agg #[.pointer (some ⟨b, 0, none⟩)])
set_option maxRecDepth 100000 in
theorem catch_idle (p q : Addr) (w : World) :
    CallsD Try.prog 27 #[.pointer (some p), .pointer (some q)] .returning w fun e u' w' => e = .returned (.tuple #[]) ∧ u' = .returning ∧ w = w' := by
  refine callsD_recover (u' := .returning) (v := .nilIface) Try.func27 rfl rfl ?_ ?_
  · intro c hc cs Q
    obtain ⟨⟩ := c
    simp only at hc
    subst hc
    simp [wpOpsS, go_sem, recoverD]
  simp only [Act.put, Try.ntmps27, List.size_toArray, List.length_cons, List.length_nil, Nat.reduceAdd, Nat.reduceSub, Array.replicate_succ,
     Array.replicate_zero, List.push_toArray, List.append_toArray, List.nil_append, List.cons_append]
  go_wp2
  go_end0
  exact ⟨rfl, trivial, rfl⟩

theorem hta : ∀ (v : Value) (w : World), (Instr.typeAssert (.iface 41 v) 20 41 true).run Try.prog w = .ok (.tuple #[v, .bool true]) w := fun _ _ => by kernel_rfl
theorem info39 : (Try.prog.info? 39).map (fun i => (i.zero, i.size, i.bytes)) = some (some (.agg #[.int .i64 0, .int .i64 0]), 2, 16) := by kernel_rfl
set_option maxRecDepth 100000 in
theorem catch_same (b : Nat) (p q : Addr) (older : List PanicEntry) (w : World) (hp : w.cell? p = some (.pointer (some ⟨b, 0, none⟩))) (hpb : p.block < w.heap.size)
    (x : Bool) (hq : q.block < w.heap.size) (hc : w.cell? q = some (.bool x)) (hz : w.frozen? q = false) :
    CallsD Try.prog 27 #[.pointer (some p), .pointer (some q)] (.panicking ({ v := overV b, recovered := false } :: older)) w fun e u' w' =>
      e = .returned (.tuple #[]) ∧ u' = .panicking ({ v := overV b, recovered := true } :: older) ∧ w' = (w.alloc (.cells #[.pointer (some ⟨b, 0, none⟩)] 41)).setCell q (.bool false) := by
  unfold overV
  refine callsD_recover (u' := .panicking ({ v := .iface 41 (.agg #[.pointer (some ⟨b, 0, none⟩)]), recovered := true } :: older)) (v := .iface 41 (.agg #[.pointer (some ⟨b, 0, none⟩)])) Try.func27 rfl rfl ?_ ?_
  · intro c hc cs Q
    obtain ⟨⟩ := c
    simp only at hc
    subst hc
    simp [wpOpsS, go_sem, recoverD]
  have hp' : ∀ o : Obj, (w.alloc o).cell? p = some (.pointer (some ⟨b, 0, none⟩)) := fun o => cell_alloc_keep hpb hp
  have hc' : ∀ o : Obj, (w.alloc o).cell? q = some (.bool x) := fun o => cell_alloc_keep hq hc
  have hz' : ∀ o : Obj, (w.alloc o).frozen? q = false := fun o => frozen_alloc_keep hq hz
  obtain ⟨i0, hi, -, -, -⟩ := info_parts info39
  have hne := fun W => Lib.run_neq_ptr_same W ⟨b, 0, none⟩ Try.underlying24 hi
  simp only [Act.put, Try.ntmps27, List.size_toArray, List.length_cons, List.length_nil, Nat.reduceAdd, Nat.reduceSub, Array.replicate_succ,
     Array.replicate_zero, List.push_toArray, List.append_toArray, List.nil_append, List.cons_append]
  have hta := hta
  go_wp2
  go_end0
  exact ⟨rfl, trivial, rfl⟩
set_option maxRecDepth 100000 in
theorem catch_other (b b' : Nat) (p q : Addr) (older : List PanicEntry) (w : World) (hp : w.cell? p = some (.pointer (some ⟨b', 0, none⟩))) (hpb : p.block < w.heap.size)
    (ca cb : Array Value) (hne : b ≠ b') (hb : w.heap[b]? = some (.cells ca 39 (0, 0))) (hb' : w.heap[b']? = some (.cells cb 39 (0, 0))) :
    CallsD Try.prog 27 #[.pointer (some p), .pointer (some q)] (.panicking ({ v := overV b, recovered := false } :: older)) w fun e u' w' =>
      e = .panicked [{ v := overV b, recovered := false }] ∧ u' = .panicking ({ v := overV b, recovered := true } :: older) ∧ w' = (w.alloc (.cells #[.pointer (some ⟨b, 0, none⟩)] 41)) := by
  unfold overV
  refine callsD_recover (u' := .panicking ({ v := .iface 41 (.agg #[.pointer (some ⟨b, 0, none⟩)]), recovered := true } :: older)) (v := .iface 41 (.agg #[.pointer (some ⟨b, 0, none⟩)])) Try.func27 rfl rfl ?_ ?_
  · intro c hc cs Q
    obtain ⟨⟩ := c
    simp only at hc
    subst hc
    simp [wpOpsS, go_sem, recoverD]
  have hp' : ∀ o : Obj, (w.alloc o).cell? p = some (.pointer (some ⟨b', 0, none⟩)) := fun o => cell_alloc_keep hpb hp
  obtain ⟨i0, hi, -, hs, -⟩ := info_parts info39
  have hne' := fun o => run_neq_ptr_other (w.alloc o) Try.underlying24 hi (by rw [hs]; decide) (a := ⟨b, 0, none⟩) (b := ⟨b', 0, none⟩) (by intro e; exact hne (by injection e)) (heap_alloc_keep hb) (heap_alloc_keep hb')
  clear hs hi hb hb'
  simp only [Act.put, Try.ntmps27, List.size_toArray, List.length_cons, List.length_nil, Nat.reduceAdd, Nat.reduceSub, Array.replicate_succ,
     Array.replicate_zero, List.push_toArray, List.append_toArray, List.nil_append, List.cons_append]
  have hta := hta
  go_wp2
  exact ⟨rfl, rfl, trivial, rfl⟩

/-- A meter. -/
def MeterAt (w : World) (b : Nat) (l s : Int) : Prop := w.heap[b]? = some (.cells #[.int .i64 l, .int .i64 s] 39 (0, 0))
def held (n : Int) : Int := if n < 0 then 0 else if 1000000 < n then 1000000 else n

theorem held_range (n : Int) : 0 ≤ held n ∧ held n ≤ 1000000 := by unfold held; split <;> (try split) <;> omega

theorem new_any (n : Int) (w : World) :
    Calls Try.prog 8 #[.int .i64 n] w fun e w' => e = .returned (.pointer (some ⟨w.heap.size, 0, none⟩)) ∧
      w' = w.alloc (.cells #[.int .i64 (held n), .int .i64 0] 39) := by
  unfold held
  by_cases h0 : n < 0
  · have h1 : ¬ 1000000 < n := by omega
    go_enter Try.func8, Try.ntmps8
    go_wp2
    all_goals go_ret
    all_goals exact ⟨rfl, rfl⟩
  by_cases h1 : 1000000 < n
  all_goals
    have h2 : 0 ≤ n := by omega
    go_enter Try.func8, Try.ntmps8
    go_wp2
    all_goals (try go_ret)
    all_goals first | exact ⟨rfl, rfl⟩ | (have hz : n = 0 := (by omega); subst hz; exact ⟨rfl, rfl⟩)

theorem left_any {b : Nat} {l s : Int} {w : World} (h : MeterAt w b l s) :
    Calls Try.prog 9 #[.pointer (some ⟨b, 0, none⟩)] w fun e w' => e = .returned (.int .i64 l) ∧ w = w' := by
  have hc := cell_of_block (off := 0) h
  simp at hc
  clear h
  go_enter Try.func9, Try.ntmps9
  go_wp2
  go_ret
  exact ⟨rfl, rfl⟩

theorem spent_any {b : Nat} {l s : Int} {w : World} (h : MeterAt w b l s) :
    Calls Try.prog 11 #[.pointer (some ⟨b, 0, none⟩)] w fun e w' => e = .returned (.int .i64 s) ∧ w = w' := by
  have hc := cell_of_block (off := 1) h
  simp at hc
  clear h
  go_enter Try.func11, Try.ntmps11
  go_wp2
  go_ret
  exact ⟨rfl, rfl⟩

theorem held_any (n : Int) (w : World) :
    Calls Try.prog 10 #[.int .i64 n] w fun e w' => e = .returned (.int .i64 (held n)) ∧ w = w' := by
  unfold held
  go_enter Try.func10, Try.ntmps10
  go_wp2
  all_goals go_ret
  all_goals simp [*]

/-- What spending does: one more, or the measure is full. -/
theorem spend_fits {b : Nat} {l s n : Int} {w : World} (h : MeterAt w b l s) (hl0 : 0 ≤ l) (hs0 : 0 ≤ s) (hs : l + s ≤ 1000000) (hn : nn n ≤ l) :
    Calls Try.prog 14 #[.pointer (some ⟨b, 0, none⟩), .int .i64 n] w fun e w' => e = .returned (.tuple #[]) ∧ MeterAt w' b (l - nn n) (s + nn n) ∧ Kept (· = b) w w' := by
  have h1 := cell_of_block (off := 0) h
  have h2 := cell_of_block (off := 1) h
  have f1 := free_of_block (off := 0) h
  have f2 := free_of_block (off := 1) h
  simp at h1 h2
  have hend : ∀ x y : Int, MeterAt ((w.setCell ⟨b, 0, none⟩ (.int .i64 x)).setCell ⟨b, 1, none⟩ (.int .i64 y)) b x y ∧ Kept (· = b) w ((w.setCell ⟨b, 0, none⟩ (.int .i64 x)).setCell ⟨b, 1, none⟩ (.int .i64 y)) := fun x y =>
    ⟨by unfold MeterAt; have := heap_setCell_known (off := 1) (u := .int .i64 y) (heap_setCell_known (off := 0) (u := .int .i64 x) h); simpa using this, ((Kept.refl (· = b) w).setCell (p := ⟨b, 0, none⟩) (.inl rfl) _).setCell (p := ⟨b, 1, none⟩) (.inl rfl) _⟩
  have H := Lib.hid hend
  clear h hend
  unfold nn at hn ⊢
  by_cases h0 : n < 0
  all_goals
    simp only [h0, if_true, if_false] at hn ⊢
    have hn' : ¬ l < n := by omega
    go_enter Try.func14, Try.ntmps14
    go_wp2
    all_goals go_end0
    all_goals first | exact ⟨rfl, by have := H.out (l - 0) (s + 0); simpa using this⟩ | exact ⟨rfl, H.out _ _⟩

theorem spend_over {b : Nat} {l s n : Int} {w : World} (h : MeterAt w b l s) (hl0 : 0 ≤ l) (hs0 : 0 ≤ s) (hs : l + s ≤ 1000000) (hn : l < nn n) :
    Calls Try.prog 14 #[.pointer (some ⟨b, 0, none⟩), .int .i64 n] w fun e w' => e = .panicked [{ v := overV b, recovered := false }] ∧ MeterAt w' b 0 (s + l) ∧ Kept (· = b) w w' := by
  unfold overV
  have h1 := cell_of_block (off := 0) h
  have h2 := cell_of_block (off := 1) h
  have f1 := free_of_block (off := 0) h
  have f2 := free_of_block (off := 1) h
  simp at h1 h2
  have hend : ∀ x y : Int, MeterAt ((w.setCell ⟨b, 1, none⟩ (.int .i64 y)).setCell ⟨b, 0, none⟩ (.int .i64 x)).drew b x y ∧ Kept (· = b) w ((w.setCell ⟨b, 1, none⟩ (.int .i64 y)).setCell ⟨b, 0, none⟩ (.int .i64 x)).drew := fun x y =>
    ⟨by
      have := heap_setCell_known (off := 0) (u := .int .i64 x) (heap_setCell_known (off := 1) (u := .int .i64 y) h)
      simp at this
      exact this, (((Kept.refl (· = b) w).setCell (p := ⟨b, 1, none⟩) (.inl rfl) _).setCell (p := ⟨b, 0, none⟩) (.inl rfl) _).drew⟩
  have H := Lib.hid hend
  clear h hend
  have hn' : l < n := by unfold nn at hn; split at hn <;> omega
  have hn0 : 0 ≤ n := by omega
  clear hn
  go_enter Try.func14, Try.ntmps14
  go_wp2
  go_region
  all_goals go_wp2
  all_goals exact ⟨rfl, rfl, H.out _ _⟩

/-- The two blocks that Run lays ahead of its work. -/
def runW (w : World) (b : Nat) : World := (w.alloc (.cells #[.pointer (some ⟨b, 0, none⟩)] 24)).alloc (.cells #[.bool false] 4)
theorem runW_kept (w : World) (b : Nat) : Kept (fun _ => False) w (runW w b) := ((Kept.refl _ _).alloc _).alloc _
theorem runW_size (w : World) (b : Nat) : (runW w b).heap.size = w.heap.size + 2 := by simp [runW]
theorem runW_m (w : World) (b : Nat) : (runW w b).heap[w.heap.size]? = some (.cells #[.pointer (some ⟨b, 0, none⟩)] 24 (0, 0)) :=
  heap_alloc_keep (heap_alloc_this _ _)
theorem runW_done (w : World) (b : Nat) : (runW w b).heap[w.heap.size + 1]? = some (.cells #[.bool false] 4 (0, 0)) := by
  have := heap_alloc_this (w.alloc (.cells #[.pointer (some ⟨b, 0, none⟩)] 24)) (.cells #[.bool false] 4)
  simpa [runW] using this

/-- Run, where the work comes to its end. -/
theorem run_ret {b g : Nat} {cap : Array Value} {w : World} {S : Nat → Prop} {R : World → Prop}
    (hcf : ∀ W, (callFunc g cap).run Try.prog W = .ok (.enter g cap) W)
    (hst : ∀ w2 w3, Kept (fun k => w.heap.size ≤ k) w2 w3 → R w2 → R w3) (hS : ∀ k, S k → k < w.heap.size)
    (hwork : ∀ w1, Kept (fun _ => False) w w1 → Calls Try.prog g cap w1 fun e w2 => e = .returned (.tuple #[]) ∧ Kept S w1 w2 ∧ R w2) :
    Calls Try.prog 12 #[.pointer (some ⟨b, 0, none⟩), .func (.func g) #[] cap] w fun e w' => e = .returned (.bool true) ∧ Kept S w w' ∧ R w' := by
  have hmf : ∀ (fn : Fn) (first cap : Array Value) (w : World), (Instr.makeFunc fn first cap).run Try.prog w = .ok (.func fn first cap) w := fun _ _ _ _ => rfl
  have HW := Lib.hid hwork
  have HS := Lib.hid hst
  have HN := Lib.hid hS
  clear hwork hst hS
  go_enter_defers Try.func12, Try.ntmps12
  go_wp2_with fail
  refine (HW.out (runW w b) (runW_kept w b)).mono ?_
  rintro e w2 ⟨rfl, hk, hr⟩
  have HR := Lib.hid hr
  have hd := hk.get (runW_done w b) (fun hs => by have := HN.out _ hs; omega)
  have hsz := hk.size
  rw [runW_size] at hsz
  have hcd := cell_of_block (off := 0) hd
  have hfd := free_of_block (off := 0) hd
  simp at hcd
  have HK := Lib.hid hk
  have HD := Lib.hid hd
  clear hk hd hr
  go_wp2
  refine leaves_cons (f := 27) (args := #[.pointer (some ⟨w.heap.size, 0, none⟩), .pointer (some ⟨w.heap.size + 1, 0, none⟩)]) (by simp) (by simp [go_sem]) ?_
  refine (catch_idle ⟨w.heap.size, 0, none⟩ ⟨w.heap.size + 1, 0, none⟩ _).mono ?_
  rintro e u' w'' ⟨rfl, rfl, rfl⟩
  have hd' := heap_setCell_known (off := 0) (u := .bool true) HD.out
  have hcd' := cell_of_block (off := 0) hd'
  simp at hcd'
  have hkk : Kept S w (w2.setCell ⟨w.heap.size + 1, 0, none⟩ (.bool true)) :=
    (((runW_kept w b).mono (fun _ _ h => h.elim)).trans HK.out).setCell (.inr (by simp)) _
  have hrr : R (w2.setCell ⟨w.heap.size + 1, 0, none⟩ (.bool true)) := HS.out _ _ ((Kept.refl (fun k => w.heap.size ≤ k) w2).setCell (p := ⟨w.heap.size + 1, 0, none⟩) (.inl (by simp)) _) HR.out
  refine ⟨.bool true, ?_, rfl, hkk, hrr⟩
  simp [results, Try.results12, go_sem, hcd']

/-- Run, where the measure is full. -/
theorem run_full {b g : Nat} {cap : Array Value} {w : World} {S : Nat → Prop} {R : World → Prop}
    (hcf : ∀ W, (callFunc g cap).run Try.prog W = .ok (.enter g cap) W)
    (hst : ∀ w2 w3, Kept (fun k => w.heap.size ≤ k) w2 w3 → R w2 → R w3) (hS : ∀ k, S k → k < w.heap.size)
    (hwork : ∀ w1, Kept (fun _ => False) w w1 → Calls Try.prog g cap w1 fun e w2 => (∃ older, e = .panicked ({ v := overV b, recovered := false } :: older) ∧ older.dropWhile (!·.goexit) = []) ∧ Kept S w1 w2 ∧ R w2) :
    Calls Try.prog 12 #[.pointer (some ⟨b, 0, none⟩), .func (.func g) #[] cap] w fun e w' => e = .returned (.bool false) ∧ Kept S w w' ∧ R w' := by
  have hmf : ∀ (fn : Fn) (first cap : Array Value) (w : World), (Instr.makeFunc fn first cap).run Try.prog w = .ok (.func fn first cap) w := fun _ _ _ _ => rfl
  have HW := Lib.hid hwork
  have HS := Lib.hid hst
  have HN := Lib.hid hS
  clear hwork hst hS
  go_enter_defers Try.func12, Try.ntmps12
  go_wp2_with fail
  refine (HW.out (runW w b) (runW_kept w b)).mono ?_
  rintro e w2 ⟨⟨older, rfl, hol⟩, hk, hr⟩
  have HO := Lib.hid hol
  have HR := Lib.hid hr
  have hd := hk.get (runW_done w b) (fun hs => by have := HN.out _ hs; omega)
  have hm := hk.get (runW_m w b) (fun hs => by have := HN.out _ hs; omega)
  have hsz := hk.size
  rw [runW_size] at hsz
  have hcd := cell_of_block (off := 0) hd
  have hfd := free_of_block (off := 0) hd
  have hcm := cell_of_block (off := 0) hm
  simp at hcd hcm
  have HK := Lib.hid hk
  have HD := Lib.hid hd
  clear hk hd hr hm hol
  go_wp2
  refine leaves_cons (f := 27) (args := #[.pointer (some ⟨w.heap.size, 0, none⟩), .pointer (some ⟨w.heap.size + 1, 0, none⟩)]) (by simp) (by simp [go_sem]) ?_
  refine (catch_same b ⟨w.heap.size, 0, none⟩ ⟨w.heap.size + 1, 0, none⟩ older _ hcm (by simp; omega) false (by simp; omega) hcd hfd).mono ?_
  rintro e u' w'' ⟨rfl, rfl, rfl⟩
  have hd' := heap_setCell_known (off := 0) (u := .bool false) (heap_alloc_keep (o := .cells #[.pointer (some ⟨b, 0, none⟩)] 41) HD.out)
  have hcd' := cell_of_block (off := 0) hd'
  simp at hcd'
  have hkk : Kept S w ((w2.alloc (.cells #[.pointer (some ⟨b, 0, none⟩)] 41)).setCell ⟨w.heap.size + 1, 0, none⟩ (.bool false)) :=
    ((((runW_kept w b).mono (fun _ _ h => h.elim)).trans HK.out).alloc _).setCell (.inr (by simp)) _
  have hrr : R ((w2.alloc (.cells #[.pointer (some ⟨b, 0, none⟩)] 41)).setCell ⟨w.heap.size + 1, 0, none⟩ (.bool false)) :=
    HS.out _ _ (((Kept.refl (fun k => w.heap.size ≤ k) w2).alloc _).setCell (p := ⟨w.heap.size + 1, 0, none⟩) (.inl (by simp)) _) HR.out
  have hset : settle (.panicking ({ v := overV b, recovered := true } :: older)) = .returning := by simp [settle, HO.out]
  show Leaves _ _ _ _ [] (settle _) _
  rw [hset]
  refine ⟨.bool false, ?_, rfl, hkk, hrr⟩
  simp [results, Try.results12, go_sem, hcd']

/-- Run, where a measure further out is full: what goes up goes on up. -/
theorem run_other {b b' g : Nat} {cap : Array Value} {w : World} {S : Nat → Prop} {R : World → Prop} (hne : b' ≠ b)
    (hcf : ∀ W, (callFunc g cap).run Try.prog W = .ok (.enter g cap) W)
    (hst : ∀ w2 w3, Kept (fun k => w.heap.size ≤ k) w2 w3 → R w2 → R w3) (hS : ∀ k, S k → k < w.heap.size)
    (hblk : ∀ w2, R w2 → (∃ ca, w2.heap[b]? = some (.cells ca 39 (0, 0))) ∧ ∃ cb, w2.heap[b']? = some (.cells cb 39 (0, 0)))
    (hwork : ∀ w1, Kept (fun _ => False) w w1 → Calls Try.prog g cap w1 fun e w2 => (∃ older, e = .panicked ({ v := overV b', recovered := false } :: older) ∧ older.dropWhile (!·.goexit) = []) ∧ Kept S w1 w2 ∧ R w2) :
    Calls Try.prog 12 #[.pointer (some ⟨b, 0, none⟩), .func (.func g) #[] cap] w fun e w' =>
      (∃ older, e = .panicked ({ v := overV b', recovered := false } :: older) ∧ older.dropWhile (!·.goexit) = []) ∧ Kept S w w' ∧ R w' := by
  have hmf : ∀ (fn : Fn) (first cap : Array Value) (w : World), (Instr.makeFunc fn first cap).run Try.prog w = .ok (.func fn first cap) w := fun _ _ _ _ => rfl
  have HW := Lib.hid hwork
  have HS := Lib.hid hst
  have HN := Lib.hid hS
  have HB := Lib.hid hblk
  clear hwork hst hS hblk
  go_enter_defers Try.func12, Try.ntmps12
  go_wp2_with fail
  refine (HW.out (runW w b) (runW_kept w b)).mono ?_
  rintro e w2 ⟨⟨older, rfl, hol⟩, hk, hr⟩
  obtain ⟨⟨ca, hca⟩, cb, hcb⟩ := HB.out w2 hr
  have HO := Lib.hid hol
  have HR := Lib.hid hr
  have hm := hk.get (runW_m w b) (fun hs => by have := HN.out _ hs; omega)
  have hsz := hk.size
  rw [runW_size] at hsz
  have hcm := cell_of_block (off := 0) hm
  simp at hcm
  have HK := Lib.hid hk
  have HA := Lib.hid hca
  have HC := Lib.hid hcb
  clear hk hr hm hol hca hcb
  go_wp2
  refine leaves_cons (f := 27) (args := #[.pointer (some ⟨w.heap.size, 0, none⟩), .pointer (some ⟨w.heap.size + 1, 0, none⟩)]) (by simp) (by simp [go_sem]) ?_
  refine (catch_other b' b ⟨w.heap.size, 0, none⟩ ⟨w.heap.size + 1, 0, none⟩ older _ hcm (by simp; omega) _ _ hne HC.out HA.out).mono ?_
  rintro e u' w'' ⟨rfl, rfl, rfl⟩
  have hkk : Kept S w (w2.alloc (.cells #[.pointer (some ⟨b', 0, none⟩)] 41)) :=
    (((runW_kept w b).mono (fun _ _ h => h.elim)).trans HK.out).alloc _
  have hrr : R (w2.alloc (.cells #[.pointer (some ⟨b', 0, none⟩)] 41)) :=
    HS.out _ _ ((Kept.refl (fun k => w.heap.size ≤ k) w2).alloc _) HR.out
  exact ⟨⟨{ v := overV b', recovered := true } :: older, rfl, by simp [HO.out]⟩, hkk, hrr⟩
end Go.Proofs.Ytdekakhkhkidhaa
