/-
  TreeSames answers true, and leaves its arguments xa they were, for every grammar, variable and two derivations that together are of bulk at most 1048576 (the second form).
-/
import Derived.Test.YtfiafmhnmafnbaaSamesF
import Derived.Test.YtfiafmhnmafnbaaSamesT
import Derived.Test.YtfiafmhnmafnbaaTwo
import Derived.Deep.RegionLaw
import Derived.JoinedCond
import Derived.WalkKit
import Derived.ProofKit
import Derived.OpenShut
import Derived.ShutString
import Derived.ChangeOld
import Derived.Below
namespace Go.Proofs.Ytfiafmhnmafnbaa.treeSames
open Go.ChangeShapes Go.WideShapes Go.ChangeAt Go.RowKit
set_option linter.unusedVariables false

theorem own : ownKnob Try.prog.godebug = none := by kernel_rfl
theorem laidOut : laidOutB Try.prog = true := by kernel_rfl

theorem walk {w : World} {g : GramD} (hg : GramAt w w.heap.size g) (hbr : Brief g) (hwf : ∀ i (h : i < g.rules.length), ∀ x ∈ g.rules[i].right, (Lit.int .i64 x).wf = true) (v : Int)
    {a1 : Option Addr} {cap1 : Nat} {xa : List Int} (hr1 : Ints w w.heap.size a1 xa) (hc1 : xa.length ≤ cap1) (hm1 : cap1 ≤ maxLen) {a2 : Option Addr} {cap2 : Nat} {xb : List Int} (hr2 : Ints w w.heap.size a2 xb) (hc2 : xb.length ≤ cap2) (hm2 : cap2 ≤ maxLen) :
    Calls Try.prog 4 #[GV g, .int .i64 v, .slice a1 xa.length cap1, .slice a2 xb.length cap2] w fun e w' => e = .returned (.bool true) ∧ Below w.heap.size w w' := by
  cases hxy : decide (xa = xb) with
  | false => exact walk_ne hg hbr hwf v hr1 hc1 hm1 hr2 hc2 hm2 hxy
  | true => exact walk_eq hg hbr hwf v hr1 hc1 hm1 hr2 hc2 hm2 hxy

theorem short {H : Type} {d0 d1 d2 d3 : DataW H} (hk : Rows.uptoSmall H [d0, d1, d2, d3] = true) : Rows.uptoBulk d0 ≤ 1048576 := by
  have h : Rows.uptoBulkAll [d0, d1, d2, d3] ≤ 1048576 := of_decide_eq_true hk
  simp only [Rows.uptoBulkAll] at h
  omega

set_option maxRecDepth 100000 in
theorem lifted (os : Os) (started : os.Started) (H : Type) (enc : TypeId × Value → H) (F : Stop.Interp) :
    ReturnsInHanded {} Try.checked os 4 .any ((Rows.OpenSpec.upto Rows.treeSamesSpec).pre6 enc Try.prog Try.f4 Rows.treeSamesUptoRow.domain false) (((Rows.OpenSpec.upto Rows.treeSamesSpec).at F).post enc Try.prog Try.f4 false true false false) := by
  refine returnsInHanded_of_cond (C := Try.checked) (s := Rows.OpenSpec.upto Rows.treeSamesSpec) (k := Rows.uptoSmall) rfl own started (by kernel_rfl) Try.func4
    (OpenSpec.witness (enc := enc) (C := Try.checked) (s := Rows.OpenSpec.upto Rows.treeSamesSpec) (k := Rows.uptoSmall) rfl false ⟨#[], #[.agg #[.slice none 0 0, .slice none 0 0, .slice none 0 0], .int .i64 0, .slice none 0 0, .slice none 0 0], []⟩ 8 (by kernel_rfl) (by kernel_rfl) (by kernel_rfl)
      (x := ([.agg [.nil, .nil, .nil], .lit (.int .i64 0), .nil, .nil], [], [])) (by kernel_rfl) rfl (by kernel_rfl)) ?_
  intro W base args ds gs before hval0 hW _ hk _
  have hval : ∀ (j : Nat) t v, Try.f4.params[j]? = some t → args[j]? = some v → Value.okWide Try.prog W .any base t v := hval0
  have hW' := hW
  obtain ⟨p, q, hA0, hV, rfl, hfz, hnd⟩ := hW
  have hA : DataW.TrodAll enc Try.prog W 0 (fun _ => true) true Try.f4.params.toList args.toList ds p := hA0
  rw [Try.params4] at hA hval
  obtain ⟨v0, vs0, d0, ds0, p0, q0, hargs, rfl, rfl, h0, r0⟩ := trodAll_cons hA
  obtain ⟨v1, vs1, d1, ds1, p1, q1, rfl, rfl, rfl, h1, r1⟩ := trodAll_cons r0
  obtain ⟨v2, vs2, d2, ds2, p2, q2, rfl, rfl, rfl, h2, r2⟩ := trodAll_cons r1
  obtain ⟨v3, vs3, d3, ds3, p3, q3, rfl, rfl, rfl, h3, r3⟩ := trodAll_cons r2
  obtain ⟨rfl, rfl, rfl⟩ := trodAll_nil r3
  obtain rfl : args = #[v0, v1, v2, v3] := by cases args; simp_all
  obtain ⟨rfl, rfl⟩ := trodVars_none hV
  have hb := short hk
  have k0 := h0
  have lt0 : ∀ x ∈ p0, x.block < W.heap.size := by obtain ⟨m, hm⟩ := k0; exact DataW.trod_lt m _ _ _ hm
  obtain ⟨g, rfl, hgr, hbr, hwf⟩ := gram_of_trod_b (hval 0 25 v0 rfl rfl) h0 hb
  obtain ⟨a1, rfl, rfl, rfl, w1⟩ := open_int Try.underlying3 (hval 1 3 v1 rfl rfl) h1
  have k2 := h2
  have lt2 : ∀ x ∈ p2, x.block < W.heap.size := by obtain ⟨m, hm⟩ := k2; exact DataW.trod_lt m _ _ _ hm
  obtain ⟨a2, xs2, cap2, rfl, hi2, hl2, hm2, hn2⟩ := ints_of_val (hval 2 26 v2 rfl rfl) h2
  have k3 := h3
  have lt3 : ∀ x ∈ p3, x.block < W.heap.size := by obtain ⟨m, hm⟩ := k3; exact DataW.trod_lt m _ _ _ hm
  obtain ⟨a3, xs3, cap3, rfl, hi3, hl3, hm3, hn3⟩ := ints_of_val (hval 3 26 v3 rfl rfl) h3
  clear hA0 hval0
  refine (walk hgr hbr hwf a1 hi2 hl2 hm2 hi3 hl3 hm3).mono fun e W' ⟨he, bel⟩ => ?_
  subst he
  exact ⟨_, rfl, _, _, _, [], _, [], hW', trodAll_mk1 (shut_bool Try.underlying4 _), (trodAll_cons_mk (Below.trod laidOut (by kernel_rfl) (of_decide_eq_true (by kernel_rfl)) k0 bel lt0) (trodAll_cons_mk (shut_int Try.underlying3 w1) (trodAll_cons_mk (Below.trod laidOut (by kernel_rfl) (of_decide_eq_true (by kernel_rfl)) k2 bel lt2) (trodAll_cons_mk (Below.trod laidOut (by kernel_rfl) (of_decide_eq_true (by kernel_rfl)) k3 bel lt3) trodAll_mk0)))), rfl, bel.frame _, fun h => by cases h⟩

theorem proved : Rows.TreeSamesUptoSaid :=
  OpenClaim.holds_of_cond 4 Try.f4 rfl rfl rfl rfl rfl rfl rfl ⟨rfl, rfl, rfl, rfl, rfl⟩ rfl rfl rfl rfl rfl (by kernel_rfl) Try.func4 (by kernel_rfl)
    (of_decide_eq_true (by kernel_rfl)) (by unfold Func.isWrapper; first | (rw [if_pos (by decide +kernel)]; kernel_rfl) | (rw [if_neg (by decide +kernel)]; exact ⟨rfl, rfl⟩))
    (fun os started H enc _ F => lifted os started H enc F)
#print axioms proved
end Go.Proofs.Ytfiafmhnmafnbaa.treeSames
