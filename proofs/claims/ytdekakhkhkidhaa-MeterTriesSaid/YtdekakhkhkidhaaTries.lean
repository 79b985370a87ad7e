/-
  MeterTries answers true, and leaves its arguments as they were, for every number n and every list. No conditions.
-/
import Derived.Test.YtdekakhkhkidhaaArgs
import Derived.Deep.QuietTactic
import Derived.BigQuiet
import Derived.WalkKit
import Derived.ProofKit
import Derived.OpenShut
import Derived.ShutString
import Derived.ChangeOld
import Derived.Below
namespace Go.Proofs.Ytdekakhkhkidhaa.meterTries
open Go.ChangeShapes Go.WideShapes Go.ChangeAt Go.RowKit
open Go.ChangeMaps (open_string shut_string)
set_option linter.unusedVariables false

theorem own : ownKnob Try.prog.godebug = none := by kernel_rfl
theorem laidOut : laidOutB Try.prog = true := by kernel_rfl

set_option maxHeartbeats 1000000 in
theorem walk (a0 : Int) (a1 : Option Addr) (len1 cap1 : Nat) (z1 : List Int) (w : World) (w0 : (Lit.int .i64 a0).wf = true) (w1 : IsRow .i64 w a1 len1 cap1 z1) :
    Calls Try.prog 6 #[.int .i64 a0, .slice a1 len1 cap1] w fun e w' => e = .returned (.bool true) ∧ Below w.heap.size w w' := by
  have hmf : ∀ (fn : Fn) (first cap : Array Value) (w : World), (Instr.makeFunc fn first cap).run Try.prog w = .ok (.func fn first cap) w := fun _ _ _ _ => rfl
  have hlm := isRow_le w1
  obtain ⟨hlen, hxs⟩ := isRow_ints w1
  clear w1 w0
  generalize z1.take len1 = xs at *
  subst hlen
  have HX := Lib.hid hxs
  clear hxs
  by_cases hlong : (40 : Int) < xs.length
  · go_enter Try.func6, Try.ntmps6
    go_wp2_with fail
    refine (alive_any _).mono ?_
    rintro e w2 ⟨rfl, hb⟩
    have hL := hb.cell (p := ⟨w.heap.size, 0, none⟩) (by simp)
    simp at hL
    have HB := Lib.hid hb
    clear hb
    go_wp2
    go_ret
    exact ⟨rfl, ((Below.refl _ _).alloc (Nat.le_refl _) _).trans (HB.out.mono (by simp))⟩
  have hr := held_range a0
  have hlen60 : xs.length ≤ 100 := by omega
  go_enter Try.func6, Try.ntmps6
  go_wp2_with fail
  refine (alive_any _).mono ?_
  rintro e w2 ⟨rfl, hb⟩
  have hb0 : w2.heap[w.heap.size]? = some (.cells #[.slice a1 xs.length cap1] 22 (0, 0)) := by
    rw [hb.block _ (by simp)]; exact heap_alloc_this _ _
  have hL := cell_of_block (off := 0) hb0
  simp at hL
  have hk2 : Kept (fun _ => False) w w2 := ((Kept.refl _ _).alloc _).trans (kept_of_below hb _)
  have HB := Lib.hid (And.intro hb0 hk2)
  have hsz2 := hb.size
  simp at hsz2
  clear hb hb0 hk2
  go_wp2_with fail
  have g0 := heap_alloc_this w2 (.cells #[.int .i64 0] 3)
  have hK0 : Kept (fun _ => False) w2 (w2.alloc (.cells #[.int .i64 0] 3)) := (Kept.refl _ _).alloc _
  have hsz : (w2.alloc (.cells #[.int .i64 0] 3)).heap.size = w2.heap.size + 1 := by simp
  generalize (w2.alloc (.cells #[.int .i64 0] 3)) = W at *
  refine (try_any (decide (did (held a0) xs = xs.length)) (s := finS (held a0) xs) (n := a0) (g := 23) (cap := #[.pointer (some ⟨w.heap.size, 0, none⟩), .pointer (some ⟨w2.heap.size, 0, none⟩)])
    (S := fun k => k = w2.heap.size) (R := fun w' => w'.heap[w2.heap.size]? = some (.cells #[.int .i64 (did (held a0) xs : Nat)] 3 (0, 0)))
    (fun _ _ => by simp [go_sem]) ?_ ?_ ?_).mono ?_
  · exact fun v2 v3 hk h => hk.get h (by omega)
  · rintro k rfl; omega
  · intro w1 b hk1 hb1 hm1
    have hKW : Kept (fun _ => False) w w1 := (HB.out.2.trans hK0).trans hk1
    refine (c23 (hk1.get (hK0.get HB.out.1 (by simp)) (by simp)) (hk1.get g0 (by simp)) hm1 hr.1 (by decide) (by omega)
      (HX.out.kept hKW (Nat.le_refl _) (by simp)) (by have := hKW.size; omega) (by omega) (by omega) hlen60).mono ?_
    rintro e v2 ⟨⟨h1, h2⟩, hk⟩
    unfold Out finS
    by_cases hd : did (held a0) xs = xs.length
    · rw [if_pos hd] at h2
      simp only [hd, decide_true, if_true]
      exact ⟨h2.1, hk.mono (fun _ _ h => h.symm), by rw [← hd]; exact h1, _, h2.2.cast rfl (by omega)⟩
    · rw [if_neg hd] at h2
      simp only [hd, decide_false, if_false]
      exact ⟨⟨[], h2.1, rfl⟩, hk.mono (fun _ _ h => h.symm), h1, _, h2.2.cast rfl (by omega)⟩
  rintro e w3 ⟨rfl, hk3, hd3⟩
  have hK3 : Kept (fun _ => False) w w3 := (HB.out.2.trans hK0).then (S'' := fun _ => False) hk3 (fun _ _ h => h) (fun i hi h => by omega)
  have hL3 := hk3.get (hK0.get HB.out.1 (by simp)) (by omega)
  have H3 := Lib.hid (And.intro hd3 (And.intro hL3 hK3))
  have hs3 := hk3.size
  clear g0 hK0 hk3 hd3 hK3 hL3 HB hL
  go_wp2_with fail
  refine (new_any a0 _).mono ?_
  rintro e w4 ⟨rfl, rfl⟩
  go_wp2_with fail
  have hM4 : MeterAt ((w3.alloc (.cells #[.int .i64 (held a0), .int .i64 0] 39)).alloc (.cells #[.pointer (some ⟨w3.heap.size, 0, none⟩)] 24)) w3.heap.size (held a0) 0 := heap_alloc_keep (heap_alloc_this w3 _)
  have HM4 := Lib.hid hM4
  clear hM4
  refine (left_any HM4.out).mono ?_
  rintro e w4 ⟨rfl, rfl⟩
  go_wp2_with fail
  obtain ⟨g0, g1, g2⟩ := heap_three w3 (.cells #[.int .i64 (held a0), .int .i64 0] 39) (.cells #[.pointer (some ⟨w3.heap.size, 0, none⟩)] 24) (.cells #[.int .i64 0] 3)
  have hK0 : Kept (fun _ => False) w3 (((w3.alloc (.cells #[.int .i64 (held a0), .int .i64 0] 39)).alloc (.cells #[.pointer (some ⟨w3.heap.size, 0, none⟩)] 24)).alloc (.cells #[.int .i64 0] 3)) :=
    (((Kept.refl _ _).alloc _).alloc _).alloc _
  have hsz4 : (((w3.alloc (.cells #[.int .i64 (held a0), .int .i64 0] 39)).alloc (.cells #[.pointer (some ⟨w3.heap.size, 0, none⟩)] 24)).alloc (.cells #[.int .i64 0] 3)).heap.size = w3.heap.size + 3 := by simp
  generalize (((w3.alloc (.cells #[.int .i64 (held a0), .int .i64 0] 39)).alloc (.cells #[.pointer (some ⟨w3.heap.size, 0, none⟩)] 24)).alloc (.cells #[.int .i64 0] 3)) = W4 at *
  clear HM4
  have hKW : Kept (fun _ => False) w W4 := H3.out.2.2.trans hK0
  have hLW := hK0.get H3.out.2.1 (by simp)
  have hDW := hK0.get H3.out.1 (by simp)
  refine (run_any (decide (did (held a0) xs = xs.length)) (b := w3.heap.size) (g := 24) (S := fun k => k = w3.heap.size ∨ k = w3.heap.size + 2)
    (R := fun w' => w'.heap[w3.heap.size + 2]? = some (.cells #[.int .i64 (did (held a0) xs : Nat)] 3 (0, 0)) ∧ MeterAt w' w3.heap.size (finL (held a0) xs) (finS (held a0) xs))
    (fun _ => by simp [go_sem]) ?_ ?_ ?_).mono ?_
  · rintro v2 v3 hk ⟨hr, hl⟩
    exact ⟨hk.get hr (by omega), hl.kept hk (by omega)⟩
  · rintro k (h | h) <;> omega
  · intro w1 hk1
    refine (c24 (hk1.get hLW (by simp)) (hk1.get g1 (by simp)) (hk1.get g2 (by simp)) (hk1.get g0 (by simp)) hr.1 (by decide) (by omega)
      (HX.out.kept (hKW.trans hk1) (Nat.le_refl _) (by simp)) (by have := (hKW.trans hk1).size; omega) (by omega) (by omega) hlen60).mono ?_
    rintro e v2 ⟨⟨h1, h2⟩, hk⟩
    unfold Out finL finS
    by_cases hd : did (held a0) xs = xs.length
    · rw [if_pos hd] at h2
      simp only [hd, decide_true, if_true]
      exact ⟨h2.1, hk, by rw [← hd]; exact h1, h2.2.cast rfl (by omega)⟩
    · rw [if_neg hd] at h2
      simp only [hd, decide_false, if_false]
      exact ⟨⟨[], h2.1, rfl⟩, hk, h1, h2.2.cast rfl (by omega)⟩
  rintro e w5 ⟨rfl, hk5, hd5, hm5⟩
  have hK5 : Kept (fun _ => False) w w5 := hKW.then (S'' := fun _ => False) hk5 (fun _ _ h => h) (fun i hi h => by omega)
  have c1 := cell_of_block (off := 0) (hk5.get hLW (by omega))
  have c2 := cell_of_block (off := 0) hd5
  have c3 := cell_of_block (off := 0) (hk5.get g1 (by omega))
  have c4 := cell_of_block (off := 0) (hk5.get hDW (by omega))
  simp at c1 c2 c3 c4
  have HM5 := Lib.hid hm5
  have HK5 := Lib.hid (hK5.below (B := w.heap.size) (Nat.le_refl _) (fun _ _ h => h))
  have hsum : finS (held a0) xs + finL (held a0) xs = held a0 := by unfold finS finL; split <;> omega
  have hfr : 0 ≤ finS (held a0) xs ∧ 0 ≤ finL (held a0) xs := by
    have h1 := sumN_nonneg xs
    have h2 := did_pre xs (held a0) (did (held a0) xs) hr.1 (Nat.le_refl _)
    unfold finS finL
    constructor
    · split <;> omega
    · split
      · rename_i h; rw [h, List.take_of_length_le (Nat.le_refl _)] at h2; omega
      · omega
  have hdl := did_le (held a0) xs
  obtain ⟨hf1, hf2⟩ := hfr
  have hfin : (finS (held a0) xs + finL (held a0) xs == held a0) = true := by rw [hsum]; simp
  have hbnd : finS (held a0) xs + finL (held a0) xs ≤ 1000000 := by omega
  have hdd : ((did (held a0) xs : Int) == (xs.length : Int)) = decide (did (held a0) xs = xs.length) := by
    by_cases h : did (held a0) xs = xs.length
    · simp [h]
    · simp only [h, decide_false, beq_eq_false_iff_ne, ne_eq]; omega
  clear hsum
  clear g0 g1 g2 hK0 hsz hKW hLW hk5 hd5 hm5 hK5 H3 HX hDW
  go_wp2_with (first | (go_at_call 9; refine (left_any HM5.out).mono ?_; rintro e w4 ⟨rfl, rfl⟩) | (go_at_call 11; refine (spent_any HM5.out).mono ?_; rintro e w4 ⟨rfl, rfl⟩))
  go_ret
  exact ⟨rfl, HK5.out⟩

set_option maxRecDepth 100000 in
theorem lifted (os : Os) (started : os.Started) (H : Type) (enc : TypeId × Value → H) :
    ReturnsInHanded {} Try.checked os 6 .any (Rows.meterTriesSpec.pre6 enc Try.prog Try.f6 Rows.meterTriesRow.domain false) (Rows.meterTriesSpec.post enc Try.prog Try.f6 false true false false) := by
  refine returnsInHanded_of_change (C := Try.checked) own started (by kernel_rfl) Try.func6
    (ChangeSpec.witness6 (enc := enc) (C := Try.checked) false ⟨#[], #[.int .i64 0, .slice none 0 0], []⟩ 8 (by kernel_rfl) (by kernel_rfl) (by kernel_rfl) (by kernel_rfl)) ?_
  intro W base args ds gs before hval0 hW hcnd _
  have hval : ∀ (j : Nat) t v, Try.f6.params[j]? = some t → args[j]? = some v → Value.okWide Try.prog W .any base t v := hval0
  have hW' := hW
  obtain ⟨p, q, hA0, hV, rfl, hfz, hnd⟩ := hW
  have hA : DataW.TrodAll enc Try.prog W 0 (fun _ => true) true Try.f6.params.toList args.toList ds p := hA0
  rw [Try.params6] at hA hval
  obtain ⟨v0, vs0, d0, ds0, p0, q0, hargs, rfl, rfl, h0, r0⟩ := trodAll_cons hA
  obtain ⟨v1, vs1, d1, ds1, p1, q1, rfl, rfl, rfl, h1, r1⟩ := trodAll_cons r0
  obtain ⟨rfl, rfl, rfl⟩ := trodAll_nil r1
  obtain rfl : args = #[v0, v1] := by cases args; simp_all
  obtain ⟨rfl, rfl⟩ := trodVars_none hV
  obtain ⟨a0, rfl, rfl, rfl, w0⟩ := open_int Try.underlying3 (hval 0 3 v0 rfl rfl) h0
  obtain ⟨a1, len1, cap1, rfl⟩ := okWide_slice Try.underlying22 (hval 1 22 v1 rfl rfl)
  have k1 := h1
  have lt1 : ∀ x ∈ p1, x.block < W.heap.size := by obtain ⟨m, hm⟩ := k1; exact DataW.trod_lt m _ _ _ hm
  obtain ⟨z1, w1⟩ : ∃ zs, IsRow .i64 W a1 len1 cap1 zs := by
    obtain ⟨fuel, hf⟩ := h1
    rcases open_ints Try.underlying22 Try.underlying3 (by kernel_rfl) hf with ⟨hcs, _⟩ | ⟨x, l, c, zs, hcs, _, hl, hm, hz, _, hcell, hwz⟩
    · simp [Value.cells] at hcs
      obtain ⟨rfl, rfl, rfl⟩ := hcs
      exact ⟨[], .inl ⟨rfl, rfl, rfl, rfl⟩⟩
    · simp [Value.cells] at hcs
      obtain ⟨rfl, rfl, rfl⟩ := hcs
      exact ⟨zs, .inr ⟨_, rfl, hl, hm, by simpa using hz, hcell, hwz⟩⟩
  clear hA0 hval0
  refine (walk a0 a1 len1 cap1 z1 W w0 w1).mono fun e W' ⟨he, bel⟩ => ?_
  subst he
  exact ⟨_, rfl, _, _, _, [], _, [], hW', trodAll_mk1 (shut_bool Try.underlying4 _), (trodAll_cons_mk (shut_int Try.underlying3 w0) (trodAll_cons_mk (Below.trod laidOut (by kernel_rfl) (of_decide_eq_true (by kernel_rfl)) k1 bel lt1) trodAll_mk0)), rfl, bel.frame _, fun h => by cases h⟩

theorem over : Rows.meterTriesRow.holds Try.pinned (OpenSpec.ofChange Rows.meterTriesSpec) :=
  OpenClaim.holds_of_wide 6 Try.f6 rfl rfl rfl rfl rfl rfl rfl ⟨rfl, rfl, rfl, rfl, rfl⟩ rfl rfl rfl rfl rfl (by kernel_rfl) Try.func6 (by kernel_rfl)
    (of_decide_eq_true (by kernel_rfl)) (by unfold Func.isWrapper; first | (rw [if_pos (by decide +kernel)]; kernel_rfl) | (rw [if_neg (by decide +kernel)]; exact ⟨rfl, rfl⟩))
    (fun os started H enc _ => lifted os started H enc)

theorem proved : Rows.MeterTriesSaid := over
#print axioms proved
end Go.Proofs.Ytdekakhkhkidhaa.meterTries
