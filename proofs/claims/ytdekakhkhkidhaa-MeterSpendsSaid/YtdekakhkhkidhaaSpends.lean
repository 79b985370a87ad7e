/-
  MeterSpends answers true, and leaves its arguments as they were, for every number n and every list. No conditions.
-/
import Derived.Test.YtdekakhkhkidhaaRef
import Derived.Deep.QuietTactic
import Derived.BigQuiet
import Derived.WalkKit
import Derived.ProofKit
import Derived.OpenShut
import Derived.ShutString
import Derived.ChangeOld
import Derived.Below
namespace Go.Proofs.Ytdekakhkhkidhaa.meterSpends
open Go.ChangeShapes Go.WideShapes Go.ChangeAt Go.RowKit
open Go.ChangeMaps (open_string shut_string)
set_option linter.unusedVariables false

theorem own : ownKnob Try.prog.godebug = none := by kernel_rfl
theorem laidOut : laidOutB Try.prog = true := by kernel_rfl

/-- A slice of numbers that came in: nil, or a row of cap cells. -/
def IsRow (k : IntKind) (w : World) (a : Option Addr) (len cap : Nat) (zs : List Int) : Prop :=
  (a = none ∧ len = 0 ∧ cap = 0 ∧ zs = []) ∨
  ∃ x, a = some x ∧ len ≤ cap ∧ cap ≤ maxLen ∧ zs.length = cap ∧ (∀ i, i < zs.length → w.cell? (x.add i) = some (.int k (zs.getD i 0))) ∧ ∀ n ∈ zs, (Lit.int k n).wf = true


theorem addr_add (b off i : Nat) : (⟨b, off, none⟩ : Addr).add i = ⟨b, off + i, none⟩ := by unfold Addr.add; split <;> simp_all
theorem block_of_cell {w : World} {b off : Nat} {s : Option Nat} {v : Value} (h : w.cell? ⟨b, off, s⟩ = some v) : b < w.heap.size := by
  unfold World.cell? at h
  rcases Nat.lt_or_ge b w.heap.size with h' | h'
  · exact h'
  · simp only [Array.getElem?_eq_none h'] at h
    simp at h
theorem isRow_ints {w : World} {a : Option Addr} {len cap : Nat} {zs : List Int} (h : IsRow .i64 w a len cap zs) :
    (zs.take len).length = len ∧ Ints w w.heap.size a (zs.take len) := by
  rcases h with ⟨rfl, rfl, rfl, rfl⟩ | ⟨x, rfl, hl, hm, hz, hcell, _⟩
  · exact ⟨rfl, fun i hi => by simp at hi⟩
  · have hlen : (zs.take len).length = len := by simp; omega
    refine ⟨hlen, fun i hi => ?_⟩
    rw [hlen] at hi
    have hc := hcell i (by omega)
    obtain ⟨b, off, spot⟩ := x
    have h0 := hcell 0 (by omega)
    have hspot : spot = none := by simpa [Addr.add] using World.cell?_spot h0
    subst hspot
    rw [addr_add] at hc
    refine ⟨b, off, rfl, block_of_cell hc, ?_⟩
    have : zs.getD i 0 = (zs.take len)[i] := by
      rw [List.getElem_take, List.getD_eq_getElem?_getD, List.getElem?_eq_getElem (by omega)]; rfl
    rw [← this]
    exact hc

def finL (l : Int) (xs : List Int) : Int := if did l xs = xs.length then l - sumN xs else 0
def finS (l : Int) (xs : List Int) : Int := if did l xs = xs.length then sumN xs else l
theorem refRun_eq (l : Int) (xs : List Int) : refRun l xs = .tuple #[.int .i64 (finL l xs), .int .i64 (finS l xs), .int .i64 (did l xs : Nat), .bool (decide (did l xs = xs.length))] := by
  unfold refRun finL finS
  split
  · rename_i h; rw [h]; simp
  · rename_i h; simp [h]

theorem c15' {B : Nat} {l : Int} {a : Option Addr} {cap : Nat} {xs : List Int} {w : World} (hl0 : 0 ≤ l) (hl : l ≤ 1000000) (hx : Ints w B a xs) (hlen : xs.length ≤ 100) :
    Calls Try.prog 15 #[.int .i64 l, .slice a xs.length cap] w fun e w' => e = .returned (.tuple #[.int .i64 (finL l xs), .int .i64 (finS l xs), .int .i64 (did l xs : Nat), .bool (decide (did l xs = xs.length))]) ∧ w' = w :=
  (c15 hl0 hl hx hlen).mono (fun _ _ h => ⟨by rw [← refRun_eq]; exact h.1, h.2.symm⟩)

set_option maxHeartbeats 800000 in
theorem walk (a0 : Int) (a1 : Option Addr) (len1 cap1 : Nat) (z1 : List Int) (w : World) (w0 : (Lit.int .i64 a0).wf = true) (w1 : IsRow .i64 w a1 len1 cap1 z1) :
    Calls Try.prog 3 #[.int .i64 a0, .slice a1 len1 cap1] w fun e w' => e = .returned (.bool true) ∧ Below w.heap.size w w' := by
  have hmf : ∀ (fn : Fn) (first cap : Array Value) (w : World), (Instr.makeFunc fn first cap).run Try.prog w = .ok (.func fn first cap) w := fun _ _ _ _ => rfl
  have hlm : len1 ≤ 9223372036854775807 := by
    rcases w1 with ⟨_, rfl, _, _⟩ | ⟨_, _, h, h2, _⟩
    · omega
    · unfold maxLen at h2; omega
  obtain ⟨hlen, hxs⟩ := isRow_ints w1
  clear w1 w0
  generalize z1.take len1 = xs at *
  subst hlen
  have HX := Lib.hid hxs
  clear hxs
  by_cases hlong : (60 : Int) < xs.length
  · go_enter Try.func3, Try.ntmps3
    go_wp2_with fail
    refine (alive_any _).mono ?_
    rintro e w2 ⟨rfl, hb⟩
    have hL := hb.cell (p := ⟨w.heap.size, 0, none⟩) (by simp)
    simp at hL
    have HB := Lib.hid hb
    clear hb
    go_wp2
    go_ret
    exact ⟨rfl, ((Below.refl _ _).alloc (Nat.le_refl _) _).trans (HB.out.mono (by simp))⟩
  go_enter Try.func3, Try.ntmps3
  go_wp2_with fail
  refine (alive_any _).mono ?_
  rintro e w2 ⟨rfl, hb⟩
  have hb0 : w2.heap[w.heap.size]? = some (.cells #[.slice a1 xs.length cap1] 22 (0, 0)) := by
    rw [hb.block _ (by simp)]; exact heap_alloc_this _ _
  have hL := cell_of_block (off := 0) hb0
  simp at hL
  have hk2 : Kept (fun _ => False) w w2 := ((Kept.refl _ _).alloc _).trans (kept_of_below hb _)
  have HB := Lib.hid (And.intro hb0 hk2)
  have hsz2 := hb.size
  simp at hsz2
  clear hb hb0 hk2
  go_wp2_with fail
  refine (new_any a0 _).mono ?_
  rintro e w3 ⟨rfl, rfl⟩
  have hM3 := heap_alloc_this w2 (.cells #[.int .i64 (held a0), .int .i64 0] 39)
  have hM4 : MeterAt ((w2.alloc (.cells #[.int .i64 (held a0), .int .i64 0] 39)).alloc (.cells #[.pointer (some ⟨w2.heap.size, 0, none⟩)] 24)) w2.heap.size (held a0) 0 := heap_alloc_keep hM3
  have HM4 := Lib.hid hM4
  have hL' := fun o o' => cell_alloc_keep (o := o') (w := w2.alloc o) (by simp; omega) (cell_alloc_keep (o := o) (by simp; omega) hL)
  have HL' := Lib.hid hL'
  clear hM3 hM4 hL'
  go_wp2_with fail
  refine (left_any HM4.out).mono ?_
  rintro e w4 ⟨rfl, rfl⟩
  go_wp2_with fail
  refine (held_any _ _).mono ?_
  rintro e w4 ⟨rfl, rfl⟩
  have hbb : (held a0 != held a0) = false := by simp
  go_wp2_with fail
  refine (spent_any HM4.out).mono ?_
  rintro e w4 ⟨rfl, rfl⟩
  go_wp2_with fail
  obtain ⟨g0, g1, g2⟩ := heap_three w2 (.cells #[.int .i64 (held a0), .int .i64 0] 39) (.cells #[.pointer (some ⟨w2.heap.size, 0, none⟩)] 24) (.cells #[.int .i64 0] 3)
  have hK0 : Kept (fun _ => False) w2 (((w2.alloc (.cells #[.int .i64 (held a0), .int .i64 0] 39)).alloc (.cells #[.pointer (some ⟨w2.heap.size, 0, none⟩)] 24)).alloc (.cells #[.int .i64 0] 3)) :=
    (((Kept.refl _ _).alloc _).alloc _).alloc _
  have hsz : (((w2.alloc (.cells #[.int .i64 (held a0), .int .i64 0] 39)).alloc (.cells #[.pointer (some ⟨w2.heap.size, 0, none⟩)] 24)).alloc (.cells #[.int .i64 0] 3)).heap.size = w2.heap.size + 3 := by simp
  generalize (((w2.alloc (.cells #[.int .i64 (held a0), .int .i64 0] 39)).alloc (.cells #[.pointer (some ⟨w2.heap.size, 0, none⟩)] 24)).alloc (.cells #[.int .i64 0] 3)) = W at *
  clear HM4 HL'
  have hr := held_range a0
  have hKW : Kept (fun _ => False) w W := HB.out.2.trans hK0
  have hLW := hK0.get HB.out.1 (by simp)
  refine (run_any (decide (did (held a0) xs = xs.length)) (b := w2.heap.size) (g := 13) (S := fun k => k = w2.heap.size ∨ k = w2.heap.size + 2)
    (R := fun w' => w'.heap[w2.heap.size + 2]? = some (.cells #[.int .i64 (did (held a0) xs : Nat)] 3 (0, 0)) ∧ MeterAt w' w2.heap.size (finL (held a0) xs) (finS (held a0) xs))
    (fun _ => by simp [go_sem]) ?_ ?_ ?_).mono ?_
  · rintro v2 v3 hk ⟨hr, hl⟩
    exact ⟨hk.get hr (by omega), hl.kept hk (by omega)⟩
  · rintro k (h | h) <;> omega
  · intro w1 hk1
    refine (c13 (hk1.get hLW (by simp)) (hk1.get g1 (by simp)) (hk1.get g2 (by simp)) (hk1.get g0 (by simp)) hr.1 (by decide) (by omega)
      (HX.out.kept (hKW.trans hk1) (Nat.le_refl _) (by simp)) (by have := (hKW.trans hk1).size; omega) (by omega) (by omega) (by omega)).mono ?_
    rintro e v2 ⟨⟨h1, h2⟩, hk⟩
    unfold Out finL finS
    by_cases hd : did (held a0) xs = xs.length
    · rw [if_pos hd] at h2
      simp only [hd, decide_true, if_true]
      exact ⟨h2.1, hk, by rw [← hd]; exact h1, h2.2.cast rfl (by omega)⟩
    · rw [if_neg hd] at h2
      simp only [hd, decide_false, if_false]
      exact ⟨⟨[], h2.1, rfl⟩, hk, h1, h2.2.cast rfl (by omega)⟩
  rintro e w3 ⟨rfl, hk3, hd3, hm3⟩
  have hK3 : Kept (fun _ => False) w w3 := hKW.then (S'' := fun _ => False) hk3 (fun _ _ h => h) (fun i hi h => by omega)
  have c1 := cell_of_block (off := 0) (hk3.get hLW (by omega))
  have c2 := cell_of_block (off := 0) hd3
  have c3 := cell_of_block (off := 0) (hk3.get g1 (by omega))
  simp at c1 c2 c3
  have HM3 := Lib.hid hm3
  have HK3 := Lib.hid (hK3.below (B := w.heap.size) (Nat.le_refl _) (fun _ _ h => h))
  have HXn : ∀ n, Hid (Ints (w3.drewN n) w.heap.size a1 xs) := fun n => Lib.hid (fun i hi => by
    obtain ⟨b, off, h1, h2, h3⟩ := (HX.out.kept hK3 (Nat.le_refl _) (by simp)) i hi
    exact ⟨b, off, h1, h2, h3⟩)
  have hlen60 : xs.length ≤ 100 := by omega
  obtain ⟨hr1, hr2⟩ := hr
  clear g0 g1 g2 hK0 hsz hKW hLW hk3 hd3 hm3 hK3 HB HX
  go_wp2_with fail
  go_quiet (first | (go_at_call 10; exact Calls.quiet_of_same ((held_any _ _).mono (fun _ _ h => ⟨h.1, h.2.symm⟩))) | (go_at_call 15; exact Calls.quiet_of_same (c15' hr1 hr2 (HXn _).out hlen60)))
  go_wp2_with (first | (go_at_call 9; refine (left_any (w := w3.drewN _) HM3.out).mono ?_; rintro e w4 ⟨rfl, rfl⟩) | (go_at_call 11; refine (spent_any (w := w3.drewN _) HM3.out).mono ?_; rintro e w4 ⟨rfl, rfl⟩))
  go_ret
  exact ⟨by simp, HK3.out.trans ⟨rfl, rfl, rfl, Nat.le_refl _, fun _ _ => rfl⟩⟩

set_option maxRecDepth 100000 in
theorem lifted (os : Os) (started : os.Started) (H : Type) (enc : TypeId × Value → H) :
    ReturnsInHanded {} Try.checked os 3 .any (Rows.meterSpendsSpec.pre6 enc Try.prog Try.f3 Rows.meterSpendsRow.domain false) (Rows.meterSpendsSpec.post enc Try.prog Try.f3 false true false false) := by
  refine returnsInHanded_of_change (C := Try.checked) own started (by kernel_rfl) Try.func3
    (ChangeSpec.witness6 (enc := enc) (C := Try.checked) false ⟨#[], #[.int .i64 0, .slice none 0 0], []⟩ 8 (by kernel_rfl) (by kernel_rfl) (by kernel_rfl) (by kernel_rfl)) ?_
  intro W base args ds gs before hval0 hW hcnd _
  have hval : ∀ (j : Nat) t v, Try.f3.params[j]? = some t → args[j]? = some v → Value.okWide Try.prog W .any base t v := hval0
  have hW' := hW
  obtain ⟨p, q, hA0, hV, rfl, hfz, hnd⟩ := hW
  have hA : DataW.TrodAll enc Try.prog W 0 (fun _ => true) true Try.f3.params.toList args.toList ds p := hA0
  rw [Try.params3] at hA hval
  obtain ⟨v0, vs0, d0, ds0, p0, q0, hargs, rfl, rfl, h0, r0⟩ := trodAll_cons hA
  obtain ⟨v1, vs1, d1, ds1, p1, q1, rfl, rfl, rfl, h1, r1⟩ := trodAll_cons r0
  obtain ⟨rfl, rfl, rfl⟩ := trodAll_nil r1
  obtain rfl : args = #[v0, v1] := by cases args; simp_all
  obtain ⟨rfl, rfl⟩ := trodVars_none hV
  obtain ⟨a0, rfl, rfl, rfl, w0⟩ := open_int Try.underlying3 (hval 0 3 v0 rfl rfl) h0
  obtain ⟨a1, len1, cap1, rfl⟩ := okWide_slice Try.underlying22 (hval 1 22 v1 rfl rfl)
  have k1 := h1
  have lt1 : ∀ x ∈ p1, x.block < W.heap.size := by obtain ⟨m, hm⟩ := k1; exact DataW.trod_lt m _ _ _ hm
  obtain ⟨z1, w1⟩ : ∃ zs, IsRow .i64 W a1 len1 cap1 zs := by
    obtain ⟨fuel, hf⟩ := h1
    rcases open_ints Try.underlying22 Try.underlying3 (by kernel_rfl) hf with ⟨hcs, _⟩ | ⟨x, l, c, zs, hcs, _, hl, hm, hz, _, hcell, hwz⟩
    · simp [Value.cells] at hcs
      obtain ⟨rfl, rfl, rfl⟩ := hcs
      exact ⟨[], .inl ⟨rfl, rfl, rfl, rfl⟩⟩
    · simp [Value.cells] at hcs
      obtain ⟨rfl, rfl, rfl⟩ := hcs
      exact ⟨zs, .inr ⟨_, rfl, hl, hm, by simpa using hz, hcell, hwz⟩⟩
  clear hA0 hval0
  refine (walk a0 a1 len1 cap1 z1 W w0 w1).mono fun e W' ⟨he, bel⟩ => ?_
  subst he
  exact ⟨_, rfl, _, _, _, [], _, [], hW', trodAll_mk1 (shut_bool Try.underlying4 _), (trodAll_cons_mk (shut_int Try.underlying3 w0) (trodAll_cons_mk (Below.trod laidOut (by kernel_rfl) (of_decide_eq_true (by kernel_rfl)) k1 bel lt1) trodAll_mk0)), rfl, bel.frame _, fun h => by cases h⟩

theorem over : Rows.meterSpendsRow.holds Try.pinned (OpenSpec.ofChange Rows.meterSpendsSpec) :=
  OpenClaim.holds_of_wide 3 Try.f3 rfl rfl rfl rfl rfl rfl rfl ⟨rfl, rfl, rfl, rfl, rfl⟩ rfl rfl rfl rfl rfl (by kernel_rfl) Try.func3 (by kernel_rfl)
    (of_decide_eq_true (by kernel_rfl)) (by unfold Func.isWrapper; first | (rw [if_pos (by decide +kernel)]; kernel_rfl) | (rw [if_neg (by decide +kernel)]; exact ⟨rfl, rfl⟩))
    (fun os started H enc _ => lifted os started H enc)

theorem proved : Rows.MeterSpendsSaid := over
#print axioms proved
end Go.Proofs.Ytdekakhkhkidhaa.meterSpends
