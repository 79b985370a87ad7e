/-
  DerivCounts answers true, and leaves its arguments as they were, for every grammar, form and rules. No conditions.
-/
import Derived.Test.YtekdciigiogjkaaFrame
import Derived.Test.YtekdciigiogjkaaRows
import Derived.Test.YtekdciigiogjkaaParts0
import Derived.Deep.RegionHeld3
import Derived.WalkKit
import Derived.ProofKit
import Derived.OpenShut
import Derived.ShutString
import Derived.ChangeOld
import Derived.Below
namespace Go.Proofs.Ytekdciigiogjkaa.derivCounts
open Go.ChangeShapes Go.WideShapes Go.ChangeAt Go.RowKit
set_option linter.unusedVariables false

theorem own : ownKnob Try.prog.godebug = none := by kernel_rfl
theorem laidOut : laidOutB Try.prog = true := by kernel_rfl
theorem drew_grow (w : World) : Grow w w.drew := ⟨rfl, rfl, rfl, Nat.le_refl _, fun _ _ => rfl⟩
set_option maxRecDepth 100000 in
set_option maxHeartbeats 4000000 in
theorem walk {w : World} {g : GramD} (hg : GramAt w w.heap.size g) {a0 : Option Addr} {cap0 : Nat} {form : List Int} (hi0 : Ints w w.heap.size a0 form) (hl0 : form.length ≤ cap0) (hm0 : cap0 ≤ maxLen) (hn0 : a0 = none → cap0 = 0) {a1 : Option Addr} {cap1 : Nat} {rules : List Int} (hi1 : Ints w w.heap.size a1 rules) (hl1 : rules.length ≤ cap1) (hm1 : cap1 ≤ maxLen) (hn1 : a1 = none → cap1 = 0) :
    Calls Try.prog 7 #[GV g, .slice a0 form.length cap0, .slice a1 rules.length cap1] w fun e w' => e = .returned (.bool true) ∧ Below w.heap.size w w' := by
  have HS := Lib.hid (box_start hg)
  have HF0 := Lib.hid (show Lst w a0 form from hi0)
  have HF1 := Lib.hid (show Lst w a1 rules from hi1)
  clear hg hi0 hi1
  unfold GV
  go_enter Try.func7, Try.ntmps7
  go_wp2_with fail
  refine (alive_any _).mono ?_
  rintro e w1 ⟨rfl, hb⟩
  have H1 := Lib.hid (HS.out.go hb)
  have g0 := H1.out.c0
  have g1 := H1.out.c1
  have g2 := H1.out.c2
  clear hb HS
  go_wp2_with fail
  refine (few_bx H1.out).mono ?_
  rintro e w2 ⟨b, rfl, hb, hsm⟩
  have H2 := Lib.hid (H1.out.go hb)
  clear hb g0 g1 g2 H1
  cases b
  · go_wp2
    go_ret
    exact ⟨rfl, H2.out.grow⟩
  have HSM := Lib.hid (hsm rfl)
  clear hsm
  by_cases hlong0 : (40 : Int) < form.length
  · go_wp2
    go_ret
    exact ⟨rfl, H2.out.grow⟩
  by_cases hlong1 : (60 : Int) < rules.length
  · go_wp2
    go_ret
    exact ⟨rfl, H2.out.grow⟩
  have g0 := H2.out.c0
  have g1 := H2.out.c1
  have g2 := H2.out.c2
  go_wp2_with fail
  refine (right_bx H2.out).mono ?_
  rintro e w3 ⟨b, rfl, hb⟩
  have H3 := Lib.hid (H2.out.go hb)
  clear hb g0 g1 g2 H2
  cases b
  · go_wp2
    go_ret
    exact ⟨rfl, H3.out.grow⟩
  have g0 := H3.out.c0
  have g1 := H3.out.c1
  have g2 := H3.out.c2
  go_wp2
  go_loopw [7, 38] (fun v i wr => ∃ k : Nat, k ≤ rules.length ∧ i = .int .i64 k ∧ Hid (∃ fm fa fc, v = .slice fa fm.length fc ∧ repS g form 0 (rules.take k) = (fm, 0, 0) ∧ Lst wr fa fm ∧ Box w g wr ∧ fm.length ≤ fc ∧ fc ≤ maxLen ∧ (fa = none → fc = 0))) (fun _ i _ => rules.length - (intOf i).toNat)
  case atStart => exact ⟨0, by omega, rfl, form, a0, cap0, rfl, rfl, HF0.out.go H3.out.grow, H3.out, hl0, hm0, hn0⟩
  case round =>
    clear g0 g1 g2 H3
    obtain ⟨k, hk, rfl, hh⟩ := hrel
    obtain ⟨fm, fa, fc, rfl, hq, hl, hbx, hlc, hcm, hnn⟩ := hh.out
    have hlf := repS_len g HSM.out (rules.take k) form 0
    rw [hq] at hlf
    simp only [List.length_take] at hlf
    have HB := Lib.hid hbx
    have HL := Lib.hid hl
    have HQ := Lib.hid hq
    clear hh hbx hl hq
    by_cases hlt : k < rules.length
    · have hki : (k : Int) < rules.length := by omega
      obtain ⟨b, off, rfl, hb, hc⟩ := (HF1.out.go HB.out.grow) k hlt
      have g0 := HB.out.c0
      have g1 := HB.out.c1
      have g2 := HB.out.c2
      have HS := Lib.hid (step_bx HB.out HSM.out HL.out (by omega) hnn hlc hcm rules[k])
      have HQ2 := Lib.hid (show repS g form 0 (rules.take (k + 1)) = if (stepS g fm rules[k]).2 = 0 then ((stepS g fm rules[k]).1, 0, 0) else ([], k, (stepS g fm rules[k]).2) by
        rw [List.take_succ_eq_append_getElem hlt, repS_append, HQ.out, if_pos rfl]
        have e : (rules.take k).length = k := by simp; omega
        rw [e, Nat.zero_add]
        rfl)
      have HLE : Hid ((stepS g fm rules[k]).2 = 0 → ∃ r : Nat, ∃ h : r < g.rules.length, rules[k] = (r : Int) ∧ (stepS g fm rules[k]).1.length + 1 = fm.length + (g.rules[r]'h).right.length) := stepS_long g fm rules[k]
      have hln := stepS_len g HSM.out fm rules[k]
      generalize rules[k] = r at *
      generalize stepS g fm r = st at *
      go_wp2_with fail
      refine HS.out.mono ?_
      rintro e w4 ⟨a4, c4, rfl, hi4, hb4, hlc4, hcm4, hnn4⟩
      have H4 := Lib.hid (HB.out.go hb4)
      have I4 := Lib.hid (And.intro (HL.out.go hb4) hi4)
      clear hb4 hi4 hc g0 g1 g2 HB HL HS
      have hs1 : ∀ W, (Instr.slice 26 (.slice (some ⟨b, off, none⟩) rules.length cap1) none (some (.int .i64 ((k : Int) + 1))) none).run Try.prog W = .ok (.slice (some ⟨b, off, none⟩) (k + 1) cap1) W := fun W => by
        have := slice_h W (some ⟨b, off, none⟩) rules.length cap1 (k + 1) (by omega)
        simpa using this
      have hw1 : IntKind.i64.wrap ((k : Int) + 1) = (k : Int) + 1 := by rw [IntKind.wrap_i64]; omega
      have hk1 : (0 : Int) ≤ (k : Int) + 1 := by omega
      have hk2 : (k : Int) + 1 ≤ (cap1 : Int) := by omega
      have hlt2 : (rules.take (k + 1)).length = k + 1 := by simp; omega
      have HC := Lib.hid (replay_bx (cap := cap0) (cap2 := cap1) (H4.out.go (drew_grow w4)) HSM.out ((HF0.out.go H4.out.grow).go (drew_grow w4)) (((HF1.out.go H4.out.grow).take (k + 1)).go (drew_grow w4)) (by omega) (by omega))
      rw [hlt2, HQ2.out] at HC
      have HD := Lib.hid (And.intro (H4.out.go (drew_grow w4)) (And.intro (I4.out.1.go (drew_grow w4)) (I4.out.2.go (drew_grow w4))))
      have g0 := H4.out.c0
      have g1 := H4.out.c1
      have g2 := H4.out.c2
      clear hlt2
      by_cases hz : st.2 = 0
      · rw [if_pos hz] at HC HQ2
        obtain ⟨rn, hrn, hre, hlong⟩ := HLE.out hz
        obtain ⟨sl, se⟩ := st
        dsimp only at *
        subst hz hre
        go_wp2
        go_region_held3 (fun w' => w'.cell? ⟨w.heap.size, 0, none⟩ = some (.slice g.ta g.terms.length g.tc) ∧ w'.cell? ⟨w.heap.size, 1, none⟩ = some (.slice g.va g.vars.length g.vc) ∧ w'.cell? ⟨w.heap.size, 2, none⟩ = some (.slice g.ra g.rules.length g.rc))
          (first | exact hS1 | exact ⟨g0, g1, g2⟩)
          ((go_at_call 17; refine HC.out.mono ?_; rintro e w5 ⟨a5, c5, rfl, hi5, hb, -, -, -⟩
            have K5 := Lib.hid (HD.out.1.go hb)
            have K5I := Lib.hid (And.intro (HD.out.2.1.go hb) (And.intro (HD.out.2.2.go hb) hi5))
            have hS1 := And.intro K5.out.c0 (And.intro K5.out.c1 K5.out.c2)
            clear hb hi5))
        clear HD HC hS1 g0 g1 g2 H4 I4 hs1
        have hL1 : sl.length ≤ 1000000 := by omega
        go_wp2_with fail
        refine (same_bx K5I.out.2.1 K5I.out.2.2 hL1 hL1).mono ?_
        rintro e w6 ⟨rfl, hb⟩
        have K6 := Lib.hid (K5.out.go hb)
        have K6I := Lib.hid (K5I.out.2.1.go hb)
        clear hb K5 K5I
        rw [decide_eq_true (rfl : sl = sl)]
        have g2 := K6.out.c2
        have hr8 := HSM.out.2 rn hrn
        obtain ⟨gb, go, hra, -, -, e2, -, -, -⟩ := K6.out.gram.rules rn hrn
        have hri : (rn : Int) < g.rules.length := by omega
        have hr0 : (0 : Int) ≤ rn := by omega
        obtain ⟨gta, gterms, gtc, gva, gvars, gvc, gra, grules, grc⟩ := g
        dsimp only at *
        subst hra
        generalize grules[rn].right = rg at *
        generalize grules[rn].ra = rga at *
        generalize grules[rn].rc = rgc at *
        have hne : ((sl.length : Int) != (fm.length : Int) - 1 + (rg.length : Int)) = false := by simp; omega
        go_wp2
        go_roundw
        case rel => exact ⟨k + 1, by omega, by go_num, sl, a4, c4, rfl, HQ2.out, K6I.out, K6.out, hlc4, hcm4, hnn4⟩
        case measure => simp [intOf]; omega
      · have hzb : (st.2 != 0) = true := by simp [hz]
        have hzz : (st.2 != st.2) = false := by simp
        have hkk : ((k : Int) != (k : Int)) = false := by simp
        rw [if_neg hz] at HC HQ2
        clear hz HLE
        go_wp2
        go_region_held3 (fun w' => w'.cell? ⟨w.heap.size, 0, none⟩ = some (.slice g.ta g.terms.length g.tc) ∧ w'.cell? ⟨w.heap.size, 1, none⟩ = some (.slice g.va g.vars.length g.vc) ∧ w'.cell? ⟨w.heap.size, 2, none⟩ = some (.slice g.ra g.rules.length g.rc))
          (first | exact hS1 | exact ⟨g0, g1, g2⟩)
          ((go_at_call 17; refine HC.out.mono ?_; rintro e w5 ⟨a5, c5, rfl, hi5, hb, -, -, -⟩
            have K5 := Lib.hid (HD.out.1.go hb)
            have hS1 := And.intro K5.out.c0 (And.intro K5.out.c1 K5.out.c2)
            clear hb hi5))
        go_wp2
        go_ret
        exact ⟨rfl, K5.out.grow⟩
    · have hki : ¬ (k : Int) < rules.length := by omega
      go_wp2
      go_ret
      exact ⟨rfl, HB.out.grow⟩

set_option maxRecDepth 100000 in
theorem lifted (os : Os) (started : os.Started) (H : Type) (enc : TypeId × Value → H) :
    ReturnsInHanded {} Try.checked os 7 .any (Rows.derivCountsSpec.pre6 enc Try.prog Try.f7 Rows.derivCountsRow.domain false) (Rows.derivCountsSpec.post enc Try.prog Try.f7 false true false false) := by
  refine returnsInHanded_of_change (C := Try.checked) own started (by kernel_rfl) Try.func7
    (ChangeSpec.witness6 (enc := enc) (C := Try.checked) false ⟨#[], #[.agg #[.slice none 0 0, .slice none 0 0, .slice none 0 0], .slice none 0 0, .slice none 0 0], []⟩ 8 (by kernel_rfl) (by kernel_rfl) (by kernel_rfl) (by kernel_rfl)) ?_
  intro W base args ds gs before hval0 hW hcnd _
  have hval : ∀ (j : Nat) t v, Try.f7.params[j]? = some t → args[j]? = some v → Value.okWide Try.prog W .any base t v := hval0
  have hW' := hW
  obtain ⟨p, q, hA0, hV, rfl, hfz, hnd⟩ := hW
  have hA : DataW.TrodAll enc Try.prog W 0 (fun _ => true) true Try.f7.params.toList args.toList ds p := hA0
  rw [Try.params7] at hA hval
  obtain ⟨v0, vs0, d0, ds0, p0, q0, hargs, rfl, rfl, h0, r0⟩ := trodAll_cons hA
  obtain ⟨v1, vs1, d1, ds1, p1, q1, rfl, rfl, rfl, h1, r1⟩ := trodAll_cons r0
  obtain ⟨v2, vs2, d2, ds2, p2, q2, rfl, rfl, rfl, h2, r2⟩ := trodAll_cons r1
  obtain ⟨rfl, rfl, rfl⟩ := trodAll_nil r2
  obtain rfl : args = #[v0, v1, v2] := by cases args; simp_all
  obtain ⟨rfl, rfl⟩ := trodVars_none hV
  have k0 := h0
  have lt0 : ∀ x ∈ p0, x.block < W.heap.size := by obtain ⟨m, hm⟩ := k0; exact DataW.trod_lt m _ _ _ hm
  obtain ⟨g, rfl, hgr⟩ := gram_of_trod (hval 0 25 v0 rfl rfl) h0
  have k1 := h1
  have lt1 : ∀ x ∈ p1, x.block < W.heap.size := by obtain ⟨m, hm⟩ := k1; exact DataW.trod_lt m _ _ _ hm
  obtain ⟨a1, xs1, cap1, rfl, hi1, hl1, hm1, hn1⟩ := ints_of_val (hval 1 26 v1 rfl rfl) h1
  have k2 := h2
  have lt2 : ∀ x ∈ p2, x.block < W.heap.size := by obtain ⟨m, hm⟩ := k2; exact DataW.trod_lt m _ _ _ hm
  obtain ⟨a2, xs2, cap2, rfl, hi2, hl2, hm2, hn2⟩ := ints_of_val (hval 2 26 v2 rfl rfl) h2
  clear hA0 hval0
  refine (walk hgr hi1 hl1 hm1 hn1 hi2 hl2 hm2 hn2).mono fun e W' ⟨he, bel⟩ => ?_
  subst he
  exact ⟨_, rfl, _, _, _, [], _, [], hW', trodAll_mk1 (shut_bool Try.underlying4 _), (trodAll_cons_mk (Below.trod laidOut (by kernel_rfl) (of_decide_eq_true (by kernel_rfl)) k0 bel lt0) (trodAll_cons_mk (Below.trod laidOut (by kernel_rfl) (of_decide_eq_true (by kernel_rfl)) k1 bel lt1) (trodAll_cons_mk (Below.trod laidOut (by kernel_rfl) (of_decide_eq_true (by kernel_rfl)) k2 bel lt2) trodAll_mk0))), rfl, bel.frame _, fun h => by cases h⟩

theorem over : Rows.derivCountsRow.holds Try.pinned (OpenSpec.ofChange Rows.derivCountsSpec) :=
  OpenClaim.holds_of_wide 7 Try.f7 rfl rfl rfl rfl rfl rfl rfl ⟨rfl, rfl, rfl, rfl, rfl⟩ rfl rfl rfl rfl rfl (by kernel_rfl) Try.func7 (by kernel_rfl)
    (of_decide_eq_true (by kernel_rfl)) (by unfold Func.isWrapper; first | (rw [if_pos (by decide +kernel)]; kernel_rfl) | (rw [if_neg (by decide +kernel)]; exact ⟨rfl, rfl⟩))
    (fun os started H enc _ => lifted os started H enc)

theorem proved : Rows.DerivCountsSaid := over
#print axioms proved
end Go.Proofs.Ytekdciigiogjkaa.derivCounts
