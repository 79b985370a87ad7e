/-
  DerivReplays answers true, and leaves its arguments as they were, for every grammar, form and rules. No conditions.
-/
import Derived.Test.YtekdciigiogjkaaFrame
import Derived.Test.YtekdciigiogjkaaRows
import Derived.Deep.RegionHeld3
import Derived.WalkKit
import Derived.ProofKit
import Derived.OpenShut
import Derived.ShutString
import Derived.ChangeOld
import Derived.Below
namespace Go.Proofs.Ytekdciigiogjkaa.derivReplays
open Go.ChangeShapes Go.WideShapes Go.ChangeAt Go.RowKit
set_option linter.unusedVariables false

theorem own : ownKnob Try.prog.godebug = none := by kernel_rfl
theorem laidOut : laidOutB Try.prog = true := by kernel_rfl

theorem drew_grow (w : World) : Grow w w.drew := ⟨rfl, rfl, rfl, Nat.le_refl _, fun _ _ => rfl⟩
set_option maxRecDepth 100000 in
set_option maxHeartbeats 4000000 in
theorem walk {w : World} {g : GramD} (hg : GramAt w w.heap.size g) {a : Option Addr} {cap : Nat} {form : List Int} (hf : Ints w w.heap.size a form) (hc : form.length ≤ cap) (hc2 : cap ≤ maxLen) (hcap : a = none → cap = 0) {a2 : Option Addr} {cap2 : Nat} {rules : List Int} (hr : Ints w w.heap.size a2 rules) (hd : rules.length ≤ cap2) (hd2 : cap2 ≤ maxLen) (hdap : a2 = none → cap2 = 0) :
    Calls Try.prog 4 #[GV g, .slice a form.length cap, .slice a2 rules.length cap2] w fun e w' => e = .returned (.bool true) ∧ Below w.heap.size w w' := by
  have HS := Lib.hid (box_start hg)
  have HF := Lib.hid (show Lst w a form from hf)
  have HR := Lib.hid (show Lst w a2 rules from hr)
  clear hg hf hr
  unfold GV
  go_enter Try.func4, Try.ntmps4
  go_wp2_with fail
  refine (alive_any _).mono ?_
  rintro e w1 ⟨rfl, hb⟩
  have H1 := Lib.hid (HS.out.go hb)
  have g0 := H1.out.c0
  have g1 := H1.out.c1
  have g2 := H1.out.c2
  clear hb HS
  go_wp2_with fail
  refine (few_bx H1.out).mono ?_
  rintro e w2 ⟨b, rfl, hb, hsm⟩
  have H2 := Lib.hid (H1.out.go hb)
  clear hb g0 g1 g2 H1
  cases b
  · go_wp2
    go_ret
    exact ⟨rfl, H2.out.grow⟩
  have HSM := Lib.hid (hsm rfl)
  clear hsm
  by_cases hlong : (40 : Int) < form.length
  · go_wp2
    go_ret
    exact ⟨rfl, H2.out.grow⟩
  by_cases hlong2 : (60 : Int) < rules.length
  · go_wp2
    go_ret
    exact ⟨rfl, H2.out.grow⟩
  have g0 := H2.out.c0
  have g1 := H2.out.c1
  have g2 := H2.out.c2
  go_wp2_with fail
  refine (right_bx H2.out).mono ?_
  rintro e w3 ⟨b, rfl, hb⟩
  have H3 := Lib.hid (H2.out.go hb)
  clear hb g0 g1 g2 H2
  cases b
  · go_wp2
    go_ret
    exact ⟨rfl, H3.out.grow⟩
  have g0 := H3.out.c0
  have g1 := H3.out.c1
  have g2 := H3.out.c2
  go_wp2_with fail
  refine (replay_bx H3.out HSM.out (HF.out.go H3.out.grow) (HR.out.go H3.out.grow) (by omega) (by omega)).mono ?_
  rintro e w4 ⟨a4, c4, rfl, hi4, hb, -, -, -⟩
  have H4 := Lib.hid (H3.out.go hb)
  have I4 := Lib.hid hi4
  have hl4 := repS_len g HSM.out rules form 0
  have HR4 := Lib.hid (rreplay_bx (cap := cap) (cap2 := cap2) H4.out HSM.out (HF.out.go H4.out.grow) (HR.out.go H4.out.grow) (by omega) (by omega))
  generalize repS g form 0 rules = st at *
  clear hb hi4 g0 g1 g2 H3
  have g0 := H4.out.c0
  have g1 := H4.out.c1
  have g2 := H4.out.c2
  go_wp2_with fail
  refine HR4.out.mono ?_
  rintro e w5 ⟨a5, c5, rfl, hi5, hb⟩
  have H5 := Lib.hid (H4.out.go hb)
  have I5 := Lib.hid (And.intro (I4.out.go hb) hi5)
  clear hb hi5 g0 g1 g2 H4 I4 HR4
  have g0 := H5.out.c0
  have g1 := H5.out.c1
  have g2 := H5.out.c2
  have hly : (yieldS g form rules).1.length ≤ 1000000 := by
    have := repS_len g HSM.out rules form 0
    unfold yieldS
    split
    · simp
    · split
      · simp
      · simp only [leadL, List.length_map, List.length_take]; omega
  go_wp2_with fail
  refine (yield_bx H5.out HSM.out (HF.out.go H5.out.grow) (HR.out.go H5.out.grow) (by omega) (by omega)).mono ?_
  rintro e w6 ⟨a6, c6, rfl, hi6, hb, -, -, -⟩
  have H6 := Lib.hid (H5.out.go hb)
  have I6 := Lib.hid (And.intro (I5.out.1.go hb) (And.intro (I5.out.2.go hb) hi6))
  have HR6 := Lib.hid (ryield_bx (cap := cap) (cap2 := cap2) H6.out HSM.out (HF.out.go H6.out.grow) (HR.out.go H6.out.grow) (by omega) (by omega))
  generalize yieldS g form rules = yt at *
  clear hb hi6 g0 g1 g2 H5 I5
  have g0 := H6.out.c0
  have g1 := H6.out.c1
  have g2 := H6.out.c2
  go_wp2_with fail
  refine HR6.out.mono ?_
  rintro e w7 ⟨a7, c7, rfl, hi7, hb, -, -, -⟩
  have H7 := Lib.hid (H6.out.go hb)
  have I7 := Lib.hid (And.intro (I6.out.1.go hb) (And.intro (I6.out.2.1.go hb) (And.intro (I6.out.2.2.go hb) hi7)))
  clear hb hi7 g0 g1 g2 H6 I6 HR6
  have g0 := H7.out.c0
  have g1 := H7.out.c1
  have g2 := H7.out.c2
  have he1 : (st.2.2 == st.2.2) = true := by simp
  have he2 : ((st.2.1 : Int) == (st.2.1 : Int)) = true := by simp
  have he3 : (yt.2 == yt.2) = true := by simp
  have HD := Lib.hid (And.intro (H7.out.go (drew_grow w7)) (And.intro (I7.out.1.go (drew_grow w7)) (And.intro (I7.out.2.1.go (drew_grow w7)) (And.intro (I7.out.2.2.1.go (drew_grow w7)) (I7.out.2.2.2.go (drew_grow w7))))))
  go_wp2
  go_region_held3 (fun w' => w'.cell? ⟨w.heap.size, 0, none⟩ = some (.slice g.ta g.terms.length g.tc) ∧ w'.cell? ⟨w.heap.size, 1, none⟩ = some (.slice g.va g.vars.length g.vc) ∧ w'.cell? ⟨w.heap.size, 2, none⟩ = some (.slice g.ra g.rules.length g.rc))
    (first | exact hS5 | exact hS4 | exact hS3 | exact hS2 | exact hS1 | exact ⟨g0, g1, g2⟩)
    (first
      | (go_at_call 21; refine (fsame_val _ _ _).mono ?_; rintro e x5 ⟨rfl, hw⟩
         have K5 := K4
         rw [hw] at K5
         rw [SumIs.same K3s.out K4s.out]
         have hS5 := And.intro K5.out.c0 (And.intro K5.out.c1 K5.out.c2)
         clear hw)
      | (go_at_call 23; refine (rweight_bx (cap2 := cap2) K3.out (HR.out.go K3.out.grow) (by omega)).mono ?_; rintro e x4 ⟨r4, rfl, hs, hb⟩
         have K4 := Lib.hid (K3.out.go hb)
         have K4s := Lib.hid hs
         have hS4 := And.intro K4.out.c0 (And.intro K4.out.c1 K4.out.c2)
         clear hb hs)
      | (go_at_call 22; refine (weight_bx (cap2 := cap2) K2.out (HR.out.go K2.out.grow) (by omega)).mono ?_; rintro e x3 ⟨r3, rfl, hs, hb⟩
         have K3 := Lib.hid (K2.out.go hb)
         have K3s := Lib.hid hs
         have hS3 := And.intro K3.out.c0 (And.intro K3.out.c1 K3.out.c2)
         clear hb hs)
      | (go_at_call 14; refine (same_bx K1I.out.1 K1I.out.2 (by omega) (by omega)).mono ?_; rintro e x2 ⟨rfl, hb⟩
         have K2 := Lib.hid (K1.out.go hb)
         rw [decide_eq_true (rfl : yt.1 = yt.1)]
         have hS2 := And.intro K2.out.c0 (And.intro K2.out.c1 K2.out.c2)
         clear hb)
      | (go_at_call 14; refine (same_bx HD.out.2.1 HD.out.2.2.1 (by omega) (by omega)).mono ?_; rintro e x1 ⟨rfl, hb⟩
         have K1 := Lib.hid (HD.out.1.go hb)
         have K1I := Lib.hid (And.intro (HD.out.2.2.2.1.go hb) (HD.out.2.2.2.2.go hb))
         rw [decide_eq_true (rfl : st.1 = st.1)]
         have hS1 := And.intro K1.out.c0 (And.intro K1.out.c1 K1.out.c2)
         clear hb))
  all_goals go_wp2
  all_goals go_ret
  all_goals exact ⟨rfl, K5.out.grow⟩

set_option maxRecDepth 100000 in
theorem lifted (os : Os) (started : os.Started) (H : Type) (enc : TypeId × Value → H) :
    ReturnsInHanded {} Try.checked os 4 .any (Rows.derivReplaysSpec.pre6 enc Try.prog Try.f4 Rows.derivReplaysRow.domain false) (Rows.derivReplaysSpec.post enc Try.prog Try.f4 false true false false) := by
  refine returnsInHanded_of_change (C := Try.checked) own started (by kernel_rfl) Try.func4
    (ChangeSpec.witness6 (enc := enc) (C := Try.checked) false ⟨#[], #[.agg #[.slice none 0 0, .slice none 0 0, .slice none 0 0], .slice none 0 0, .slice none 0 0], []⟩ 8 (by kernel_rfl) (by kernel_rfl) (by kernel_rfl) (by kernel_rfl)) ?_
  intro W base args ds gs before hval0 hW hcnd _
  have hval : ∀ (j : Nat) t v, Try.f4.params[j]? = some t → args[j]? = some v → Value.okWide Try.prog W .any base t v := hval0
  have hW' := hW
  obtain ⟨p, q, hA0, hV, rfl, hfz, hnd⟩ := hW
  have hA : DataW.TrodAll enc Try.prog W 0 (fun _ => true) true Try.f4.params.toList args.toList ds p := hA0
  rw [Try.params4] at hA hval
  obtain ⟨v0, vs0, d0, ds0, p0, q0, hargs, rfl, rfl, h0, r0⟩ := trodAll_cons hA
  obtain ⟨v1, vs1, d1, ds1, p1, q1, rfl, rfl, rfl, h1, r1⟩ := trodAll_cons r0
  obtain ⟨v2, vs2, d2, ds2, p2, q2, rfl, rfl, rfl, h2, r2⟩ := trodAll_cons r1
  obtain ⟨rfl, rfl, rfl⟩ := trodAll_nil r2
  obtain rfl : args = #[v0, v1, v2] := by cases args; simp_all
  obtain ⟨rfl, rfl⟩ := trodVars_none hV
  have k0 := h0
  have lt0 : ∀ x ∈ p0, x.block < W.heap.size := by obtain ⟨m, hm⟩ := k0; exact DataW.trod_lt m _ _ _ hm
  obtain ⟨g, rfl, hgr⟩ := gram_of_trod (hval 0 25 v0 rfl rfl) h0
  have k1 := h1
  have lt1 : ∀ x ∈ p1, x.block < W.heap.size := by obtain ⟨m, hm⟩ := k1; exact DataW.trod_lt m _ _ _ hm
  obtain ⟨a1, xs1, cap1, rfl, hi1, hl1, hm1, hn1⟩ := ints_of_val (hval 1 26 v1 rfl rfl) h1
  have k2 := h2
  have lt2 : ∀ x ∈ p2, x.block < W.heap.size := by obtain ⟨m, hm⟩ := k2; exact DataW.trod_lt m _ _ _ hm
  obtain ⟨a2, xs2, cap2, rfl, hi2, hl2, hm2, hn2⟩ := ints_of_val (hval 2 26 v2 rfl rfl) h2
  clear hA0 hval0
  refine (walk hgr hi1 hl1 hm1 hn1 hi2 hl2 hm2 hn2).mono fun e W' ⟨he, bel⟩ => ?_
  subst he
  exact ⟨_, rfl, _, _, _, [], _, [], hW', trodAll_mk1 (shut_bool Try.underlying4 _), (trodAll_cons_mk (Below.trod laidOut (by kernel_rfl) (of_decide_eq_true (by kernel_rfl)) k0 bel lt0) (trodAll_cons_mk (Below.trod laidOut (by kernel_rfl) (of_decide_eq_true (by kernel_rfl)) k1 bel lt1) (trodAll_cons_mk (Below.trod laidOut (by kernel_rfl) (of_decide_eq_true (by kernel_rfl)) k2 bel lt2) trodAll_mk0))), rfl, bel.frame _, fun h => by cases h⟩

theorem over : Rows.derivReplaysRow.holds Try.pinned (OpenSpec.ofChange Rows.derivReplaysSpec) :=
  OpenClaim.holds_of_wide 4 Try.f4 rfl rfl rfl rfl rfl rfl rfl ⟨rfl, rfl, rfl, rfl, rfl⟩ rfl rfl rfl rfl rfl (by kernel_rfl) Try.func4 (by kernel_rfl)
    (of_decide_eq_true (by kernel_rfl)) (by unfold Func.isWrapper; first | (rw [if_pos (by decide +kernel)]; kernel_rfl) | (rw [if_neg (by decide +kernel)]; exact ⟨rfl, rfl⟩))
    (fun os started H enc _ => lifted os started H enc)

theorem proved : Rows.DerivReplaysSaid := over
#print axioms proved
end Go.Proofs.Ytekdciigiogjkaa.derivReplays
