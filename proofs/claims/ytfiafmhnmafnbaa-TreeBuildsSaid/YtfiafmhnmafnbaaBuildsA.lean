/-
  TreeBuilds answers true, and leaves its arguments as they were, for every grammar, variable and derivation.
-/
import Derived.Test.YtfiafmhnmafnbaaBuilds
import Derived.Test.YtfiafmhnmafnbaaRight2
import Derived.WalkKit
import Derived.ProofKit
import Derived.OpenShut
import Derived.ShutString
import Derived.ChangeOld
import Derived.Below
namespace Go.Proofs.Ytfiafmhnmafnbaa.treeBuildsAll
open Go.ChangeShapes Go.WideShapes Go.ChangeAt Go.RowKit
set_option linter.unusedVariables false

theorem own : ownKnob Try.prog.godebug = none := by kernel_rfl
theorem laidOut : laidOutB Try.prog = true := by kernel_rfl

set_option maxRecDepth 100000 in
set_option maxHeartbeats 4000000 in
theorem walk_nb {w : World} {g : GramD} (hg : GramAt w w.heap.size g) (hnb : ¬ Brief g) (v : Int)
    {a : Option Addr} {cap : Nat} {rules : List Int} (hr : Ints w w.heap.size a rules) (hc : rules.length ≤ cap) (hc2 : cap ≤ maxLen) :
    Calls Try.prog 3 #[GV g, .int .i64 v, .slice a rules.length cap] w fun e w' => e = .returned (.bool true) ∧ Below w.heap.size w w' := by
  have HS := Lib.hid (box_start hg)
  unfold GV
  go_enter Try.func3, Try.ntmps3
  go_wp2_with fail
  refine (alive_any _).mono ?_
  rintro e w1 ⟨rfl, hb⟩
  have H1 := Lib.hid (HS.out.go hb)
  have g0 := H1.out.c0
  have g1 := H1.out.c1
  have g2 := H1.out.c2
  clear hb HS
  go_wp2_with fail
  refine (few_bx H1.out).mono ?_
  rintro e w2 ⟨b, rfl, hb, hsm⟩
  have H2 := Lib.hid (H1.out.go hb)
  clear hb g0 g1 g2 H1
  cases b
  · go_wp2
    go_ret
    exact ⟨rfl, H2.out.grow⟩
  have HSM := Lib.hid (hsm rfl)
  clear hsm
  by_cases hlong_rules : (60 : Int) < rules.length
  · go_wp2
    go_ret
    exact ⟨rfl, H2.out.grow⟩
  have g0 := H2.out.c0
  have g1 := H2.out.c1
  have g2 := H2.out.c2
  go_wp2_with fail
  refine (right_brief H2.out.gram' (Nat.le_refl _)).mono ?_
  rintro e w3 ⟨b, rfl, hb, hok⟩
  have H3 := Lib.hid (H2.out.go hb)
  clear hb g0 g1 g2 H2
  cases b
  · go_wp2
    go_ret
    exact ⟨rfl, H3.out.grow⟩
  exact absurd (hok rfl) hnb

theorem walk_all {w : World} {g : GramD} (hg : GramAt w w.heap.size g) (hwf : ∀ i (h : i < g.rules.length), ∀ x ∈ g.rules[i].right, (Lit.int .i64 x).wf = true) (v : Int)
    {a : Option Addr} {cap : Nat} {rules : List Int} (hr : Ints w w.heap.size a rules) (hc : rules.length ≤ cap) (hc2 : cap ≤ maxLen) :
    Calls Try.prog 3 #[GV g, .int .i64 v, .slice a rules.length cap] w fun e w' => e = .returned (.bool true) ∧ Below w.heap.size w w' := by
  by_cases hbr : Brief g
  · exact treeBuilds.walk hg hbr hwf v hr hc hc2
  · exact walk_nb hg hbr v hr hc hc2

set_option maxRecDepth 100000 in
theorem lifted (os : Os) (started : os.Started) (H : Type) (enc : TypeId × Value → H) :
    ReturnsInHanded {} Try.checked os 3 .any (Rows.treeBuildsSpec.pre6 enc Try.prog Try.f3 Rows.treeBuildsRow.domain false) (Rows.treeBuildsSpec.post enc Try.prog Try.f3 false true false false) := by
  refine returnsInHanded_of_change (C := Try.checked) own started (by kernel_rfl) Try.func3
    (ChangeSpec.witness6 (enc := enc) (C := Try.checked) false ⟨#[], #[.agg #[.slice none 0 0, .slice none 0 0, .slice none 0 0], .int .i64 0, .slice none 0 0], []⟩ 8 (by kernel_rfl) (by kernel_rfl) (by kernel_rfl) (by kernel_rfl)) ?_
  intro W base args ds gs before hval0 hW hcnd _
  have hval : ∀ (j : Nat) t v, Try.f3.params[j]? = some t → args[j]? = some v → Value.okWide Try.prog W .any base t v := hval0
  have hW' := hW
  obtain ⟨p, q, hA0, hV, rfl, hfz, hnd⟩ := hW
  have hA : DataW.TrodAll enc Try.prog W 0 (fun _ => true) true Try.f3.params.toList args.toList ds p := hA0
  rw [Try.params3] at hA hval
  obtain ⟨v0, vs0, d0, ds0, p0, q0, hargs, rfl, rfl, h0, r0⟩ := trodAll_cons hA
  obtain ⟨v1, vs1, d1, ds1, p1, q1, rfl, rfl, rfl, h1, r1⟩ := trodAll_cons r0
  obtain ⟨v2, vs2, d2, ds2, p2, q2, rfl, rfl, rfl, h2, r2⟩ := trodAll_cons r1
  obtain ⟨rfl, rfl, rfl⟩ := trodAll_nil r2
  obtain rfl : args = #[v0, v1, v2] := by cases args; simp_all
  obtain ⟨rfl, rfl⟩ := trodVars_none hV
  have k0 := h0
  have lt0 : ∀ x ∈ p0, x.block < W.heap.size := by obtain ⟨m, hm⟩ := k0; exact DataW.trod_lt m _ _ _ hm
  obtain ⟨g, rfl, hgr, hwf⟩ := gram_of_trod_wf (hval 0 25 v0 rfl rfl) h0
  obtain ⟨a1, rfl, rfl, rfl, w1⟩ := open_int Try.underlying3 (hval 1 3 v1 rfl rfl) h1
  have k2 := h2
  have lt2 : ∀ x ∈ p2, x.block < W.heap.size := by obtain ⟨m, hm⟩ := k2; exact DataW.trod_lt m _ _ _ hm
  obtain ⟨a2, xs2, cap2, rfl, hi2, hl2, hm2, hn2⟩ := ints_of_val (hval 2 26 v2 rfl rfl) h2
  clear hA0 hval0
  refine (walk_all hgr hwf a1 hi2 hl2 hm2).mono fun e W' ⟨he, bel⟩ => ?_
  subst he
  exact ⟨_, rfl, _, _, _, [], _, [], hW', trodAll_mk1 (shut_bool Try.underlying4 _), (trodAll_cons_mk (Below.trod laidOut (by kernel_rfl) (of_decide_eq_true (by kernel_rfl)) k0 bel lt0) (trodAll_cons_mk (shut_int Try.underlying3 w1) (trodAll_cons_mk (Below.trod laidOut (by kernel_rfl) (of_decide_eq_true (by kernel_rfl)) k2 bel lt2) trodAll_mk0))), rfl, bel.frame _, fun h => by cases h⟩

theorem over : Rows.treeBuildsRow.holds Try.pinned (OpenSpec.ofChange Rows.treeBuildsSpec) :=
  OpenClaim.holds_of_wide 3 Try.f3 rfl rfl rfl rfl rfl rfl rfl ⟨rfl, rfl, rfl, rfl, rfl⟩ rfl rfl rfl rfl rfl (by kernel_rfl) Try.func3 (by kernel_rfl)
    (of_decide_eq_true (by kernel_rfl)) (by unfold Func.isWrapper; first | (rw [if_pos (by decide +kernel)]; kernel_rfl) | (rw [if_neg (by decide +kernel)]; exact ⟨rfl, rfl⟩))
    (fun os started H enc _ => lifted os started H enc)

theorem proved : Rows.TreeBuildsSaid := over
#print axioms proved
end Go.Proofs.Ytfiafmhnmafnbaa.treeBuildsAll
