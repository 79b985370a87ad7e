/-
  LexAlls answers true, and leaves its argument as it was, for every text. No conditions.
-/
import Derived.Test.YticdihfjnmjkmaaAllB
import Derived.Test.YticdihfjnmjkmaaRows
import Derived.WalkKit
import Derived.ProofKit
import Derived.OpenShut
import Derived.ShutString
import Derived.ChangeOld
import Derived.ChangeMaps5
import Derived.Below
namespace Go.Proofs.Yticdihfjnmjkmaa.lexAlls
open Go.ChangeShapes Go.WideShapes Go.ChangeAt Go.RowKit
set_option linter.unusedVariables false

theorem own : ownKnob Try.prog.godebug = none := by kernel_rfl
theorem laidOut : laidOutB Try.prog = true := by kernel_rfl
set_option maxRecDepth 100000 in
set_option maxHeartbeats 1000000 in
theorem walk {w : World} (s : ByteArray) (hs : s.size ≤ maxLen) : Calls Try.prog 3 #[.string s] w fun e w' => e = .returned (.bool true) ∧ Below w.heap.size w w' := by
  unfold maxLen at hs
  go_enter Try.func3, Try.ntmps3
  go_wp2_with fail
  refine (alive_any _).mono ?_
  rintro e w1 ⟨rfl, hb⟩
  have H1 := Lib.hid hb
  clear hb
  by_cases hl : (2000 : Int) < s.size ∧ (s.size : Int) ≤ 65536
  · obtain ⟨h1, h2⟩ := hl
    go_wp2
    go_ret
    exact ⟨rfl, H1.out⟩
  obtain ⟨ts, er, a, hlen, H11, H12⟩ := all_both s
  have hcase : (2000 : Int) < s.size ∧ ¬ (s.size : Int) ≤ 65536 ∨ ¬ (2000 : Int) < s.size := by omega
  clear hl
  rcases hcase with ⟨h1, h2⟩ | h1
  all_goals
    go_wp2_with (first
      | (go_at_call 11; refine (H11 _).out.mono ?_; rintro e w2 ⟨ad, ca, rfl, ht, hb⟩; have HT := Lib.hid ht; have H2 := Lib.hid hb; have hw2 := hb.size; clear ht hb)
      | (go_at_call 12; refine (H12 _).out.mono ?_; rintro e w3 ⟨ad2, ca2, rfl, ht2, hb⟩; have HT2 := Lib.hid ht2; have H3 := Lib.hid hb; have hw3 := hb.size; have HC := Lib.hid (fcell (hb.mono (by simp))); clear ht2 hb)
      | (go_at_call 13; refine (same_any (HT.out.go ((below_one _ _).trans (H3.out.mono (by simp))) (by simp at hw3; omega)) HT2.out hlen).mono ?_; rintro e w4 ⟨rfl, hb⟩; have hlt3 : w2.heap.size < w3.heap.size := (by simp at hw3; omega); have q0 := (hb.cell (p := ⟨w2.heap.size, 0, none⟩) hlt3).trans HC.out.1; have q1 := (hb.cell (p := ⟨w2.heap.size, 1, none⟩) hlt3).trans HC.out.2.1))
    go_ret
    exact ⟨rfl, ((H1.out.trans (H2.out.mono H1.out.size)).trans ((below_one w2 _).mono (Nat.le_trans H1.out.size hw2))).trans ((H3.out.mono (by have := H1.out.size; simp only [World.size_alloc]; omega)).trans (hb.mono (by have := H1.out.size; omega)))⟩

set_option maxRecDepth 100000 in
theorem lifted (os : Os) (started : os.Started) (H : Type) (enc : TypeId × Value → H) :
    ReturnsInHanded {} Try.checked os 3 .any (Rows.lexAllsSpec.pre6 enc Try.prog Try.f3 Rows.lexAllsRow.domain false) (Rows.lexAllsSpec.post enc Try.prog Try.f3 false true false false) := by
  refine returnsInHanded_of_change (C := Try.checked) own started (by kernel_rfl) Try.func3
    (ChangeSpec.witness6 (enc := enc) (C := Try.checked) false ⟨#[], #[.string ⟨#[]⟩], []⟩ 8 (by kernel_rfl) (by kernel_rfl) (by kernel_rfl) (by kernel_rfl)) ?_
  intro W base args ds gs before hval0 hW hcnd _
  have hval : ∀ (j : Nat) t v, Try.f3.params[j]? = some t → args[j]? = some v → Value.okWide Try.prog W .any base t v := hval0
  have hW' := hW
  obtain ⟨p, q, hA0, hV, rfl, hfz, hnd⟩ := hW
  have hA : DataW.TrodAll enc Try.prog W 0 (fun _ => true) true Try.f3.params.toList args.toList ds p := hA0
  rw [Try.params3] at hA hval
  obtain ⟨v0, vs0, d0, ds0, p0, q0, hargs, rfl, rfl, h0, r0⟩ := trodAll_cons hA
  obtain ⟨rfl, rfl, rfl⟩ := trodAll_nil r0
  obtain rfl : args = #[v0] := by cases args; simp_all
  obtain ⟨rfl, rfl⟩ := trodVars_none hV
  obtain ⟨s0, rfl, rfl, rfl, w0⟩ := Go.ChangeMaps.open_string Try.underlying9 (hval 0 9 v0 rfl rfl) h0
  clear hA0 hval0
  refine (walk s0 w0).mono fun e W' ⟨he, bel⟩ => ?_
  subst he
  exact ⟨_, rfl, _, _, _, [], _, [], hW', trodAll_mk1 (shut_bool Try.underlying4 _), (trodAll_cons_mk (Go.ChangeMaps.shut_string Try.underlying9 w0) trodAll_mk0), rfl, bel.frame _, fun h => by cases h⟩

theorem over : Rows.lexAllsRow.holds Try.pinned (OpenSpec.ofChange Rows.lexAllsSpec) :=
  OpenClaim.holds_of_wide 3 Try.f3 rfl rfl rfl rfl rfl rfl rfl ⟨rfl, rfl, rfl, rfl, rfl⟩ rfl rfl rfl rfl rfl (by kernel_rfl) Try.func3 (by kernel_rfl)
    (of_decide_eq_true (by kernel_rfl)) (by unfold Func.isWrapper; first | (rw [if_pos (by decide +kernel)]; kernel_rfl) | (rw [if_neg (by decide +kernel)]; exact ⟨rfl, rfl⟩))
    (fun os started H enc _ => lifted os started H enc)

theorem proved : Rows.LexAllsSaid := over
#print axioms proved
end Go.Proofs.Yticdihfjnmjkmaa.lexAlls
