/-
  DerivParts answers true, and leaves its arguments as they were, for every grammar, form, rules and cut. No conditions.
-/
import Derived.Test.YtekdciigiogjkaaFrame
import Derived.Test.YtekdciigiogjkaaRows
import Derived.Test.YtekdciigiogjkaaParts0
import Derived.Deep.RegionHeld3
import Derived.WalkKit
import Derived.ProofKit
import Derived.OpenShut
import Derived.ShutString
import Derived.ChangeOld
import Derived.Below
namespace Go.Proofs.Ytekdciigiogjkaa.derivParts
open Go.ChangeShapes Go.WideShapes Go.ChangeAt Go.RowKit
set_option linter.unusedVariables false

theorem own : ownKnob Try.prog.godebug = none := by kernel_rfl
theorem laidOut : laidOutB Try.prog = true := by kernel_rfl
theorem drew_grow (w : World) : Grow w w.drew := ⟨rfl, rfl, rfl, Nat.le_refl _, fun _ _ => rfl⟩
set_option maxRecDepth 100000 in
set_option maxHeartbeats 4000000 in
theorem walk {w : World} {g : GramD} (hg : GramAt w w.heap.size g) {a0 : Option Addr} {cap0 : Nat} {form : List Int} (hi0 : Ints w w.heap.size a0 form) (hl0 : form.length ≤ cap0) (hm0 : cap0 ≤ maxLen) (hn0 : a0 = none → cap0 = 0) {a1 : Option Addr} {cap1 : Nat} {rules : List Int} (hi1 : Ints w w.heap.size a1 rules) (hl1 : rules.length ≤ cap1) (hm1 : cap1 ≤ maxLen) (hn1 : a1 = none → cap1 = 0) (cut : Int) :
    Calls Try.prog 5 #[GV g, .slice a0 form.length cap0, .slice a1 rules.length cap1, .int .i64 cut] w fun e w' => e = .returned (.bool true) ∧ Below w.heap.size w w' := by
  have HS := Lib.hid (box_start hg)
  have HF0 := Lib.hid (show Lst w a0 form from hi0)
  have HF1 := Lib.hid (show Lst w a1 rules from hi1)
  clear hg hi0 hi1
  unfold GV
  go_enter Try.func5, Try.ntmps5
  go_wp2_with fail
  refine (alive_any _).mono ?_
  rintro e w1 ⟨rfl, hb⟩
  have H1 := Lib.hid (HS.out.go hb)
  have g0 := H1.out.c0
  have g1 := H1.out.c1
  have g2 := H1.out.c2
  clear hb HS
  go_wp2_with fail
  refine (few_bx H1.out).mono ?_
  rintro e w2 ⟨b, rfl, hb, hsm⟩
  have H2 := Lib.hid (H1.out.go hb)
  clear hb g0 g1 g2 H1
  cases b
  · go_wp2
    go_ret
    exact ⟨rfl, H2.out.grow⟩
  have HSM := Lib.hid (hsm rfl)
  clear hsm
  by_cases hlong0 : (40 : Int) < form.length
  · go_wp2
    go_ret
    exact ⟨rfl, H2.out.grow⟩
  by_cases hlong1 : (60 : Int) < rules.length
  · go_wp2
    go_ret
    exact ⟨rfl, H2.out.grow⟩
  have g0 := H2.out.c0
  have g1 := H2.out.c1
  have g2 := H2.out.c2
  go_wp2_with fail
  refine (right_bx H2.out).mono ?_
  rintro e w3 ⟨b, rfl, hb⟩
  have H3 := Lib.hid (H2.out.go hb)
  clear hb g0 g1 g2 H2
  cases b
  · go_wp2
    go_ret
    exact ⟨rfl, H3.out.grow⟩
  have g0 := H3.out.c0
  have g1 := H3.out.c1
  have g2 := H3.out.c2
  go_wp2_with fail
  obtain ⟨c, hcut, hcl⟩ := cut_range cut rules.length (by omega)
  rw [hcut]
  clear hcut
  refine (replay_bx H3.out HSM.out (HF0.out.go H3.out.grow) (HF1.out.go H3.out.grow) (by omega) (by omega)).mono ?_
  rintro e w4 ⟨a4, c4, rfl, hi4, hb, -, -, -⟩
  have H4 := Lib.hid (H3.out.go hb)
  have I4 := Lib.hid hi4
  have HQ := Lib.hid (repS_cut g form rules c hcl)
  have hl4 := repS_len g HSM.out rules form 0
  have hl5 := repS_len g HSM.out (rules.take c) form 0
  have hz5 := Lib.hid (repS_none g (rules.take c) form 0)
  have hlt : (rules.take c).length = c := by simp; omega
  rw [hlt] at hl5
  have hs1 := fun W => slice_h W a1 rules.length cap1 c (by omega)
  have hc0 : (0 : Int) ≤ (c : Int) := by omega
  have hc1 : (c : Int) ≤ (cap1 : Int) := by omega
  have hc2 : (c : Int) ≤ (rules.length : Int) := by omega
  have HC := Lib.hid (replay_bx (cap := cap0) (cap2 := cap1) (H4.out.go (drew_grow w4)) HSM.out ((HF0.out.go H4.out.grow).go (drew_grow w4)) (((HF1.out.go H4.out.grow).take c).go (drew_grow w4)) (by omega) (by omega))
  rw [hlt] at HC
  have HD := Lib.hid (And.intro (H4.out.go (drew_grow w4)) (I4.out.go (drew_grow w4)))
  generalize repS g form 0 rules = st at *
  generalize hst2 : repS g form 0 (rules.take c) = st2 at *
  clear hst2
  clear hb hi4 g0 g1 g2 H3 hlt
  have g0 := H4.out.c0
  have g1 := H4.out.c1
  have g2 := H4.out.c2
  go_wp2
  go_region_held3 (fun w' => w'.cell? ⟨w.heap.size, 0, none⟩ = some (.slice g.ta g.terms.length g.tc) ∧ w'.cell? ⟨w.heap.size, 1, none⟩ = some (.slice g.va g.vars.length g.vc) ∧ w'.cell? ⟨w.heap.size, 2, none⟩ = some (.slice g.ra g.rules.length g.rc))
    (first | exact hS1 | exact ⟨g0, g1, g2⟩)
    ((go_at_call 17; refine HC.out.mono ?_; rintro e w5 ⟨a5, c5, rfl, hi5, hb, -, -, -⟩
      have K5 := Lib.hid (HD.out.1.go hb)
      have K5I := Lib.hid (And.intro (HD.out.2.go hb) hi5)
      have hS1 := And.intro K5.out.c0 (And.intro K5.out.c1 K5.out.c2)
      clear hb hi5))
  clear HD HC hS1 g0 g1 g2 H4 I4
  have g0 := K5.out.c0
  have g1 := K5.out.c1
  have g2 := K5.out.c2
  by_cases hz : st2.2.2 = 0
  · have hzb : (st2.2.2 != 0) = false := by simp [hz]
    have HQ2 := Lib.hid (HQ.out.trans (if_pos hz))
    clear HQ hz5 hz
    have hl6 := repS_len g HSM.out (rules.drop c) st2.1 0
    have hat6 := repS_at g (rules.drop c) st2.1 0
    have hld : (rules.drop c).length = rules.length - c := by simp
    have HLP : Hid ((repS g st2.1 0 (rules.drop c)).2.2 = 0 → (leadL st2.1).length ≤ (leadL (repS g st2.1 0 (rules.drop c)).1).length ∧ leadL st2.1 = (leadL (repS g st2.1 0 (rules.drop c)).1).take (leadL st2.1).length) := fun h => leadL_part h
    rw [hld] at hl6 hat6
    have hs2 := fun W => slice_l W a1 rules.length cap1 c hcl
    have HA := Lib.hid ((HF1.out.go K5.out.grow).drop hl1 c)
    generalize (if cap1 = c then a1 else a1.map (fun x => x.add c)) = A at *
    have HC := Lib.hid (replay_bx (cap := c5) (cap2 := cap1 - c) (K5.out.go (drew_grow w5)) HSM.out (K5I.out.2.go (drew_grow w5)) (HA.out.go (drew_grow w5)) (by omega) (by omega))
    rw [hld] at HC
    have HD := Lib.hid (And.intro (K5.out.go (drew_grow w5)) (And.intro (K5I.out.1.go (drew_grow w5)) (K5I.out.2.go (drew_grow w5))))
    generalize repS g st2.1 0 (rules.drop c) = st3 at *
    clear hld HA
    obtain ⟨sl, sk, se⟩ := st
    obtain ⟨tl, tk, te⟩ := st3
    have HQ3 := Lib.hid (And.intro (congrArg Prod.fst HQ2.out) (And.intro (congrArg (fun x => x.2.1) HQ2.out) (congrArg (fun x => x.2.2) HQ2.out)))
    obtain ⟨q1, q2, q3⟩ := HQ3.out
    dsimp only at q1 q2 q3
    subst q1 q3
    clear HQ2 HQ3
    dsimp only at *
    have HQA := Lib.hid q2
    clear q2
    go_wp2
    go_region_held3 (fun w' => w'.cell? ⟨w.heap.size, 0, none⟩ = some (.slice g.ta g.terms.length g.tc) ∧ w'.cell? ⟨w.heap.size, 1, none⟩ = some (.slice g.va g.vars.length g.vc) ∧ w'.cell? ⟨w.heap.size, 2, none⟩ = some (.slice g.ra g.rules.length g.rc))
      (first | exact hS1 | exact ⟨g0, g1, g2⟩)
      ((go_at_call 17; refine HC.out.mono ?_; rintro e w6 ⟨a6, c6, rfl, hi6, hb, -, -, -⟩
        have K6 := Lib.hid (HD.out.1.go hb)
        have K6I := Lib.hid (And.intro (HD.out.2.1.go hb) (And.intro (HD.out.2.2.go hb) hi6))
        have hS1 := And.intro K6.out.c0 (And.intro K6.out.c1 K6.out.c2)
        clear hb hi6))
    clear HD HC hS1 g0 g1 g2 K5 K5I hs1 hs2
    have hee : (se != se) = false := by simp
    have hlL : sl.length ≤ 1000000 := by omega
    go_wp2_with fail
    refine (same_bx K6I.out.1 K6I.out.2.2 hlL hlL).mono ?_
    rintro e w7 ⟨rfl, hb⟩
    have K7 := Lib.hid (K6.out.go hb)
    have K7I := Lib.hid (And.intro (K6I.out.1.go hb) (K6I.out.2.1.go hb))
    clear hb K6 K6I
    rw [decide_eq_true (rfl : sl = sl)]
    by_cases hte : se = 0
    · subst hte
      have HLL := Lib.hid (HLP.out rfl)
      clear HQA HLP
      have hlS : st2.1.length ≤ 1000000 := by omega
      go_wp2_with fail
      refine (lead_bx K7I.out.2 hlS).mono ?_
      rintro e w8 ⟨a8, c8, rfl, hi8, hb, -, -, -⟩
      have K8 := Lib.hid (K7.out.go hb)
      have K8I := Lib.hid (And.intro (K7I.out.1.go hb) hi8)
      clear hb hi8 K7 K7I
      go_wp2_with fail
      refine (lead_bx K8I.out.1 hlL).mono ?_
      rintro e w9 ⟨a9, c9, rfl, hi9, hb, hlc9, -, -⟩
      have K9 := Lib.hid (K8.out.go hb)
      dsimp only at *
      have hle9 : (leadL sl).length ≤ 1000000 := by unfold leadL; simp; omega
      obtain ⟨hle, htk⟩ := HLL.out
      have K9I := Lib.hid (And.intro (K8I.out.2.go hb) (hi9.take (leadL st2.1).length))
      rw [← htk] at K9I
      clear hb hi9 K8 K8I htk HLL
      generalize leadL st2.1 = X at *
      generalize leadL sl = Y at *
      have hle2 : (X.length : Int) ≤ (Y.length : Int) := by omega
      have hs3 := fun W => slice_h W a9 Y.length c9 X.length (by omega)
      go_wp2_with fail
      refine (same_bx K9I.out.1 K9I.out.2 (by omega) (by omega)).mono ?_
      rintro e w10 ⟨rfl, hb⟩
      have K10 := Lib.hid (K9.out.go hb)
      clear hb K9 K9I
      rw [decide_eq_true (rfl : X = X)]
      go_wp2
      go_ret
      exact ⟨rfl, K10.out.grow⟩
    · have HQB := HQA.out.trans (if_neg hte)
      subst HQB
      have hteb : (se != 0) = true := by simp [hte]
      have hwr : (((c + tk : Nat) : Int) != (c : Int) + (tk : Int)) = false := by simp
      clear HQA hte
      go_wp2
      go_ret
      exact ⟨rfl, K7.out.grow⟩
  · have hzb : (st2.2.2 != 0) = true := by simp [hz]
    have HQ2 := HQ.out.trans (if_neg hz)
    have hn := hz5.out hz
    subst HQ2
    have he1 : (st.2.2 == st.2.2) = true := by simp
    have he2 : ((st.2.1 : Int) == (st.2.1 : Int)) = true := by simp
    have he3 : (((st.1.length : Nat) : Int) == 0) = true := by simp [hn]
    clear HQ hz5 hz hn
    go_wp2
    go_ret
    exact ⟨rfl, K5.out.grow⟩

set_option maxRecDepth 100000 in
theorem lifted (os : Os) (started : os.Started) (H : Type) (enc : TypeId × Value → H) :
    ReturnsInHanded {} Try.checked os 5 .any (Rows.derivPartsSpec.pre6 enc Try.prog Try.f5 Rows.derivPartsRow.domain false) (Rows.derivPartsSpec.post enc Try.prog Try.f5 false true false false) := by
  refine returnsInHanded_of_change (C := Try.checked) own started (by kernel_rfl) Try.func5
    (ChangeSpec.witness6 (enc := enc) (C := Try.checked) false ⟨#[], #[.agg #[.slice none 0 0, .slice none 0 0, .slice none 0 0], .slice none 0 0, .slice none 0 0, .int .i64 0], []⟩ 8 (by kernel_rfl) (by kernel_rfl) (by kernel_rfl) (by kernel_rfl)) ?_
  intro W base args ds gs before hval0 hW hcnd _
  have hval : ∀ (j : Nat) t v, Try.f5.params[j]? = some t → args[j]? = some v → Value.okWide Try.prog W .any base t v := hval0
  have hW' := hW
  obtain ⟨p, q, hA0, hV, rfl, hfz, hnd⟩ := hW
  have hA : DataW.TrodAll enc Try.prog W 0 (fun _ => true) true Try.f5.params.toList args.toList ds p := hA0
  rw [Try.params5] at hA hval
  obtain ⟨v0, vs0, d0, ds0, p0, q0, hargs, rfl, rfl, h0, r0⟩ := trodAll_cons hA
  obtain ⟨v1, vs1, d1, ds1, p1, q1, rfl, rfl, rfl, h1, r1⟩ := trodAll_cons r0
  obtain ⟨v2, vs2, d2, ds2, p2, q2, rfl, rfl, rfl, h2, r2⟩ := trodAll_cons r1
  obtain ⟨v3, vs3, d3, ds3, p3, q3, rfl, rfl, rfl, h3, r3⟩ := trodAll_cons r2
  obtain ⟨rfl, rfl, rfl⟩ := trodAll_nil r3
  obtain rfl : args = #[v0, v1, v2, v3] := by cases args; simp_all
  obtain ⟨rfl, rfl⟩ := trodVars_none hV
  have k0 := h0
  have lt0 : ∀ x ∈ p0, x.block < W.heap.size := by obtain ⟨m, hm⟩ := k0; exact DataW.trod_lt m _ _ _ hm
  obtain ⟨g, rfl, hgr⟩ := gram_of_trod (hval 0 25 v0 rfl rfl) h0
  have k1 := h1
  have lt1 : ∀ x ∈ p1, x.block < W.heap.size := by obtain ⟨m, hm⟩ := k1; exact DataW.trod_lt m _ _ _ hm
  obtain ⟨a1, xs1, cap1, rfl, hi1, hl1, hm1, hn1⟩ := ints_of_val (hval 1 26 v1 rfl rfl) h1
  have k2 := h2
  have lt2 : ∀ x ∈ p2, x.block < W.heap.size := by obtain ⟨m, hm⟩ := k2; exact DataW.trod_lt m _ _ _ hm
  obtain ⟨a2, xs2, cap2, rfl, hi2, hl2, hm2, hn2⟩ := ints_of_val (hval 2 26 v2 rfl rfl) h2
  obtain ⟨a3, rfl, rfl, rfl, w3⟩ := open_int Try.underlying3 (hval 3 3 v3 rfl rfl) h3
  clear hA0 hval0
  refine (walk hgr hi1 hl1 hm1 hn1 hi2 hl2 hm2 hn2 a3).mono fun e W' ⟨he, bel⟩ => ?_
  subst he
  exact ⟨_, rfl, _, _, _, [], _, [], hW', trodAll_mk1 (shut_bool Try.underlying4 _), (trodAll_cons_mk (Below.trod laidOut (by kernel_rfl) (of_decide_eq_true (by kernel_rfl)) k0 bel lt0) (trodAll_cons_mk (Below.trod laidOut (by kernel_rfl) (of_decide_eq_true (by kernel_rfl)) k1 bel lt1) (trodAll_cons_mk (Below.trod laidOut (by kernel_rfl) (of_decide_eq_true (by kernel_rfl)) k2 bel lt2) (trodAll_cons_mk (shut_int Try.underlying3 w3) trodAll_mk0)))), rfl, bel.frame _, fun h => by cases h⟩

theorem over : Rows.derivPartsRow.holds Try.pinned (OpenSpec.ofChange Rows.derivPartsSpec) :=
  OpenClaim.holds_of_wide 5 Try.f5 rfl rfl rfl rfl rfl rfl rfl ⟨rfl, rfl, rfl, rfl, rfl⟩ rfl rfl rfl rfl rfl (by kernel_rfl) Try.func5 (by kernel_rfl)
    (of_decide_eq_true (by kernel_rfl)) (by unfold Func.isWrapper; first | (rw [if_pos (by decide +kernel)]; kernel_rfl) | (rw [if_neg (by decide +kernel)]; exact ⟨rfl, rfl⟩))
    (fun os started H enc _ => lifted os started H enc)

theorem proved : Rows.DerivPartsSaid := over
#print axioms proved
end Go.Proofs.Ytekdciigiogjkaa.derivParts
