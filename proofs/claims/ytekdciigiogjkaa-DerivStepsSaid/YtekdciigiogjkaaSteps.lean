/-
  DerivSteps answers true, and leaves its arguments as they were, for every grammar, form and rule. No conditions.
-/
import Derived.Test.YtekdciigiogjkaaFrame
import Derived.Test.YtekdciigiogjkaaRows
import Derived.WalkKit
import Derived.ProofKit
import Derived.OpenShut
import Derived.ShutString
import Derived.ChangeOld
import Derived.Below
namespace Go.Proofs.Ytekdciigiogjkaa.derivSteps
open Go.ChangeShapes Go.WideShapes Go.ChangeAt Go.RowKit
set_option linter.unusedVariables false

theorem own : ownKnob Try.prog.godebug = none := by kernel_rfl
theorem laidOut : laidOutB Try.prog = true := by kernel_rfl

set_option maxHeartbeats 1000000 in
theorem walk {w : World} {g : GramD} (hg : GramAt w w.heap.size g) {a : Option Addr} {cap : Nat} {form : List Int} (hf : Ints w w.heap.size a form) (hc : form.length ≤ cap) (hc2 : cap ≤ maxLen) (hcap : a = none → cap = 0) (rule : Int) :
    Calls Try.prog 3 #[GV g, .slice a form.length cap, .int .i64 rule] w fun e w' => e = .returned (.bool true) ∧ Below w.heap.size w w' := by
  have HS := Lib.hid (box_start hg)
  have HF := Lib.hid (show Lst w a form from hf)
  clear hg hf
  unfold GV
  go_enter Try.func3, Try.ntmps3
  go_wp2_with fail
  refine (alive_any _).mono ?_
  rintro e w1 ⟨rfl, hb⟩
  have H1 := Lib.hid (HS.out.go hb)
  have g0 := H1.out.c0
  have g1 := H1.out.c1
  have g2 := H1.out.c2
  clear hb HS
  go_wp2_with fail
  refine (few_bx H1.out).mono ?_
  rintro e w2 ⟨b, rfl, hb, hsm⟩
  have H2 := Lib.hid (H1.out.go hb)
  clear hb g0 g1 g2 H1
  cases b
  · go_wp2
    go_ret
    exact ⟨rfl, H2.out.grow⟩
  have HSM := Lib.hid (hsm rfl)
  clear hsm
  by_cases hlong : (40 : Int) < form.length
  · go_wp2
    go_ret
    exact ⟨rfl, H2.out.grow⟩
  have g0 := H2.out.c0
  have g1 := H2.out.c1
  have g2 := H2.out.c2
  go_wp2_with fail
  refine (right_bx H2.out).mono ?_
  rintro e w3 ⟨b, rfl, hb⟩
  have H3 := Lib.hid (H2.out.go hb)
  clear hb g0 g1 g2 H2
  cases b
  · go_wp2
    go_ret
    exact ⟨rfl, H3.out.grow⟩
  have g0 := H3.out.c0
  have g1 := H3.out.c1
  have g2 := H3.out.c2
  go_wp2_with fail
  refine (step_bx H3.out HSM.out (HF.out.go H3.out.grow) (by omega) hcap hc hc2 rule).mono ?_
  rintro e w4 ⟨a4, c4, rfl, hi4, hb, -, -, -⟩
  have H4 := Lib.hid (H3.out.go hb)
  have I4 := Lib.hid hi4
  have hl4 := stepS_len g HSM.out form rule
  generalize hst : stepS g form rule = st at *
  clear hb hi4 g0 g1 g2 H3
  have g0 := H4.out.c0
  have g1 := H4.out.c1
  have g2 := H4.out.c2
  have HR4 := Lib.hid (rstep_bx (cap := cap) H4.out HSM.out (HF.out.go H4.out.grow) (by omega) rule)
  rw [hst] at HR4
  clear hst
  go_wp2_with fail
  refine HR4.out.mono ?_
  rintro e w5 ⟨a5, c5, rfl, hi5, hb, -, -, -⟩
  have H5 := Lib.hid (H4.out.go hb)
  have I5 := Lib.hid (And.intro (I4.out.go hb) hi5)
  clear hb hi5 g0 g1 g2 H4 I4 HR4
  go_wp2_with fail
  refine (lead_bx (HF.out.go H5.out.grow) (by omega)).mono ?_
  rintro e w6 ⟨a6, c6, rfl, hi6, hb, -, -, -⟩
  have H6 := Lib.hid (H5.out.go hb)
  have I6 := Lib.hid (And.intro (I5.out.1.go hb) (And.intro (I5.out.2.go hb) hi6))
  clear hb hi6 H5 I5
  have hll : (leadL form).length ≤ 40 := by unfold leadL; simp; omega
  generalize hL : leadL form = L at *
  have HL := Lib.hid hL
  clear hL
  have hee : (st.2 == st.2) = true := by simp
  go_wp2_with fail
  refine (same_bx I6.out.1 I6.out.2.1 (by omega) (by omega)).mono ?_
  rintro e w7 ⟨rfl, hb⟩
  have H7 := Lib.hid (H6.out.go hb)
  have I7 := Lib.hid (I6.out.2.2.go hb)
  clear hb H6 I6
  rw [decide_eq_true (rfl : st.1 = st.1)]
  go_wp2_with fail
  refine (rlead_bx (HF.out.go H7.out.grow) (by omega)).mono ?_
  rintro e w8 ⟨a8, c8, rfl, hi8, hb⟩
  have H8 := Lib.hid (H7.out.go hb)
  rw [HL.out] at *
  have I8 := Lib.hid (And.intro (I7.out.go hb) hi8)
  clear hb hi8 H7 I7
  go_wp2_with fail
  refine (same_bx I8.out.1 I8.out.2 (by omega) (by omega)).mono ?_
  rintro e w9 ⟨rfl, hb⟩
  have H9 := Lib.hid (H8.out.go hb)
  clear hb H8 I8
  rw [decide_eq_true (rfl : L = L)]
  go_wp2_with fail
  refine (first_any (HF.out.go H9.out.grow) (by omega)).mono ?_
  rintro e w10 ⟨rfl, hw⟩
  have H10 : Hid (Grow w w10) := by rw [← hw]; exact H9.out.grow
  clear hw H9
  have haa : (atV form == atV form) = true := by simp
  go_wp2
  go_ret
  exact ⟨rfl, H10.out⟩

set_option maxRecDepth 100000 in
theorem lifted (os : Os) (started : os.Started) (H : Type) (enc : TypeId × Value → H) :
    ReturnsInHanded {} Try.checked os 3 .any (Rows.derivStepsSpec.pre6 enc Try.prog Try.f3 Rows.derivStepsRow.domain false) (Rows.derivStepsSpec.post enc Try.prog Try.f3 false true false false) := by
  refine returnsInHanded_of_change (C := Try.checked) own started (by kernel_rfl) Try.func3
    (ChangeSpec.witness6 (enc := enc) (C := Try.checked) false ⟨#[], #[.agg #[.slice none 0 0, .slice none 0 0, .slice none 0 0], .slice none 0 0, .int .i64 0], []⟩ 8 (by kernel_rfl) (by kernel_rfl) (by kernel_rfl) (by kernel_rfl)) ?_
  intro W base args ds gs before hval0 hW hcnd _
  have hval : ∀ (j : Nat) t v, Try.f3.params[j]? = some t → args[j]? = some v → Value.okWide Try.prog W .any base t v := hval0
  have hW' := hW
  obtain ⟨p, q, hA0, hV, rfl, hfz, hnd⟩ := hW
  have hA : DataW.TrodAll enc Try.prog W 0 (fun _ => true) true Try.f3.params.toList args.toList ds p := hA0
  rw [Try.params3] at hA hval
  obtain ⟨v0, vs0, d0, ds0, p0, q0, hargs, rfl, rfl, h0, r0⟩ := trodAll_cons hA
  obtain ⟨v1, vs1, d1, ds1, p1, q1, rfl, rfl, rfl, h1, r1⟩ := trodAll_cons r0
  obtain ⟨v2, vs2, d2, ds2, p2, q2, rfl, rfl, rfl, h2, r2⟩ := trodAll_cons r1
  obtain ⟨rfl, rfl, rfl⟩ := trodAll_nil r2
  obtain rfl : args = #[v0, v1, v2] := by cases args; simp_all
  obtain ⟨rfl, rfl⟩ := trodVars_none hV
  have k0 := h0
  have lt0 : ∀ x ∈ p0, x.block < W.heap.size := by obtain ⟨m, hm⟩ := k0; exact DataW.trod_lt m _ _ _ hm
  obtain ⟨g, rfl, hgr⟩ := gram_of_trod (hval 0 25 v0 rfl rfl) h0
  have k1 := h1
  have lt1 : ∀ x ∈ p1, x.block < W.heap.size := by obtain ⟨m, hm⟩ := k1; exact DataW.trod_lt m _ _ _ hm
  obtain ⟨a1, xs1, cap1, rfl, hi1, hl1, hm1, hn1⟩ := ints_of_val (hval 1 26 v1 rfl rfl) h1
  obtain ⟨a2, rfl, rfl, rfl, w2⟩ := open_int Try.underlying3 (hval 2 3 v2 rfl rfl) h2
  clear hA0 hval0
  refine (walk hgr hi1 hl1 hm1 hn1 a2).mono fun e W' ⟨he, bel⟩ => ?_
  subst he
  exact ⟨_, rfl, _, _, _, [], _, [], hW', trodAll_mk1 (shut_bool Try.underlying4 _), (trodAll_cons_mk (Below.trod laidOut (by kernel_rfl) (of_decide_eq_true (by kernel_rfl)) k0 bel lt0) (trodAll_cons_mk (Below.trod laidOut (by kernel_rfl) (of_decide_eq_true (by kernel_rfl)) k1 bel lt1) (trodAll_cons_mk (shut_int Try.underlying3 w2) trodAll_mk0))), rfl, bel.frame _, fun h => by cases h⟩

theorem over : Rows.derivStepsRow.holds Try.pinned (OpenSpec.ofChange Rows.derivStepsSpec) :=
  OpenClaim.holds_of_wide 3 Try.f3 rfl rfl rfl rfl rfl rfl rfl ⟨rfl, rfl, rfl, rfl, rfl⟩ rfl rfl rfl rfl rfl (by kernel_rfl) Try.func3 (by kernel_rfl)
    (of_decide_eq_true (by kernel_rfl)) (by unfold Func.isWrapper; first | (rw [if_pos (by decide +kernel)]; kernel_rfl) | (rw [if_neg (by decide +kernel)]; exact ⟨rfl, rfl⟩))
    (fun os started H enc _ => lifted os started H enc)

theorem proved : Rows.DerivStepsSaid := over
#print axioms proved
end Go.Proofs.Ytekdciigiogjkaa.derivSteps
