/-
  DerivBehind answers true, and leaves its arguments as they were, for every grammar, form, rules and symbols behind. No conditions.
-/
import Derived.Test.YtekdciigiogjkaaFrame
import Derived.Test.YtekdciigiogjkaaRows
import Derived.Test.YtekdciigiogjkaaBehind0
import Derived.Test.YtekdciigiogjkaaStepAppend
import Derived.Deep.RegionHeld3
import Derived.WalkKit
import Derived.ProofKit
import Derived.OpenShut
import Derived.ShutString
import Derived.ChangeOld
import Derived.Below
namespace Go.Proofs.Ytekdciigiogjkaa.derivBehind
open Go.ChangeShapes Go.WideShapes Go.ChangeAt Go.RowKit
set_option linter.unusedVariables false

theorem own : ownKnob Try.prog.godebug = none := by kernel_rfl
theorem laidOut : laidOutB Try.prog = true := by kernel_rfl
theorem drew_grow (w : World) : Grow w w.drew := ⟨rfl, rfl, rfl, Nat.le_refl _, fun _ _ => rfl⟩
set_option maxRecDepth 100000 in
set_option maxHeartbeats 4000000 in
theorem walk {w : World} {g : GramD} (hg : GramAt w w.heap.size g) (hgr : GramR g) {a0 : Option Addr} {cap0 : Nat} {form : List Int} (hi0 : Ints w w.heap.size a0 form) (hl0 : form.length ≤ cap0) (hm0 : cap0 ≤ maxLen) (hn0 : a0 = none → cap0 = 0) (hfr : InR form) {a1 : Option Addr} {cap1 : Nat} {rules : List Int} (hi1 : Ints w w.heap.size a1 rules) (hl1 : rules.length ≤ cap1) (hm1 : cap1 ≤ maxLen) (hn1 : a1 = none → cap1 = 0) {a2 : Option Addr} {cap2 : Nat} {behind : List Int} (hi2 : Ints w w.heap.size a2 behind) (hl2 : behind.length ≤ cap2) (hm2 : cap2 ≤ maxLen) (hn2 : a2 = none → cap2 = 0) :
    Calls Try.prog 6 #[GV g, .slice a0 form.length cap0, .slice a1 rules.length cap1, .slice a2 behind.length cap2] w fun e w' => e = .returned (.bool true) ∧ Below w.heap.size w w' := by
  have HS := Lib.hid (box_start hg)
  have hx := nt_run
  have HF0 := Lib.hid (show Lst w a0 form from hi0)
  have HF1 := Lib.hid (show Lst w a1 rules from hi1)
  have HF2 := Lib.hid (show Lst w a2 behind from hi2)
  clear hg hi0 hi1 hi2
  unfold GV
  go_enter Try.func6, Try.ntmps6
  go_wp2_with fail
  refine (alive_any _).mono ?_
  rintro e w1 ⟨rfl, hb⟩
  have H1 := Lib.hid (HS.out.go hb)
  have g0 := H1.out.c0
  have g1 := H1.out.c1
  have g2 := H1.out.c2
  clear hb HS
  go_wp2_with fail
  refine (few_bx H1.out).mono ?_
  rintro e w2 ⟨b, rfl, hb, hsm⟩
  have H2 := Lib.hid (H1.out.go hb)
  clear hb g0 g1 g2 H1
  cases b
  · go_wp2
    go_ret
    exact ⟨rfl, H2.out.grow⟩
  have HSM := Lib.hid (hsm rfl)
  clear hsm
  by_cases hlong0 : (40 : Int) < form.length
  · go_wp2
    go_ret
    exact ⟨rfl, H2.out.grow⟩
  by_cases hlong1 : (40 : Int) < behind.length
  · go_wp2
    go_ret
    exact ⟨rfl, H2.out.grow⟩
  by_cases hlong2 : (60 : Int) < rules.length
  · go_wp2
    go_ret
    exact ⟨rfl, H2.out.grow⟩
  have g0 := H2.out.c0
  have g1 := H2.out.c1
  have g2 := H2.out.c2
  go_wp2_with fail
  refine (right_bx H2.out).mono ?_
  rintro e w3 ⟨b, rfl, hb⟩
  have H3 := Lib.hid (H2.out.go hb)
  clear hb g0 g1 g2 H2
  cases b
  · go_wp2
    go_ret
    exact ⟨rfl, H3.out.grow⟩
  have g0 := H3.out.c0
  have g1 := H3.out.c1
  have g2 := H3.out.c2
  go_wp2_with fail
  refine (yield_bx H3.out HSM.out (HF0.out.go H3.out.grow) (HF1.out.go H3.out.grow) (by omega) (by omega)).mono ?_
  rintro e w4 ⟨a4, c4, rfl, hi4, hb, -, -, -⟩
  have H4 := Lib.hid (H3.out.go hb)
  have I4 := Lib.hid hi4
  clear hb hi4 g0 g1 g2 H3
  by_cases hz : (yieldS g form rules).2 = 0
  · obtain ⟨fm, hrep, hy⟩ := yieldS_ok hz
    have hfl := repS_len g HSM.out rules form 0
    have hrB := repS_behind g behind rules form 0 (by rw [hrep])
    have hinr := repS_inr hgr rules form 0 hfr
    rw [hrep] at hfl hrB hinr
    rw [hy] at I4 ⊢
    dsimp only at hfl hrB hinr I4 ⊢
    have hOk : ∀ k (h1 : k < (fm.map nt).length) (h2 : k < (fm ++ behind).length), (fm ++ behind)[k] = nt (fm.map nt)[k] := fun k h1 h2 => by
      have h3 : k < fm.length := by simpa using h1
      rw [List.getElem_append_left h3, List.getElem_map, nt_nt (hinr _ (List.getElem_mem h3))]
    have HOK := Lib.hid hOk
    have HOD := Lib.hid (show (fm ++ behind).drop (fm.map nt).length = behind by rw [List.length_map, List.drop_left])
    have HOl := Lib.hid (show (fm ++ behind).length = (fm.map nt).length + behind.length by simp)
    have hob : (((fm ++ behind).length : Int) != ((fm.map nt).length : Int) + (behind.length : Int)) = false := by simp
    have hol2 : (fm.map nt).length ≤ 600 := by simp; omega
    have HRB := Lib.hid hrB
    clear hrep hy hrB hinr hOk hz hfl
    generalize fm.map nt = Wd at *
    generalize fm ++ behind = O at *
    obtain ⟨L, hL⟩ : ∃ L, L = form ++ behind := ⟨_, rfl⟩
    have hLl : L.length ≤ 80 := by rw [hL]; simp; omega
    rw [← hL] at HRB
    have HL := Lib.hid hL
    clear hL
    have g0 := H4.out.c0
    have g1 := H4.out.c1
    have g2 := H4.out.c2
    have HG0 := Lib.hid (show Grow w4 (w4.alloc (.cells #[] 3)).drew from ⟨rfl, rfl, rfl, by simp, fun k hk => Below.heap_alloc _ _ _ hk⟩)
    have hSd : w4.drew.cell? ⟨w.heap.size, 0, none⟩ = some (.slice g.ta g.terms.length g.tc) ∧ w4.drew.cell? ⟨w.heap.size, 1, none⟩ = some (.slice g.va g.vars.length g.vc) ∧ w4.drew.cell? ⟨w.heap.size, 2, none⟩ = some (.slice g.ra g.rules.length g.rc) := ⟨g0, g1, g2⟩
    have K0 := H4.out.go HG0.out
    have hS0 := And.intro K0.c0 (And.intro K0.c1 K0.c2)
    clear K0
    have HO0 := Lib.hid (show Own (w4.alloc (.cells #[] 3)).drew w4.heap.size (.slice (some ⟨w4.heap.size, 0, none⟩) 0 0) [] from own_empty w4 (Nat.le_refl _))
    have HSrc1 := Lib.hid (((HF0.out.go H4.out.grow).go HG0.out).src)
    go_wp2
    go_region_held3 (fun w' => w'.cell? ⟨w.heap.size, 0, none⟩ = some (.slice g.ta g.terms.length g.tc) ∧ w'.cell? ⟨w.heap.size, 1, none⟩ = some (.slice g.va g.vars.length g.vc) ∧ w'.cell? ⟨w.heap.size, 2, none⟩ = some (.slice g.ra g.rules.length g.rc))
      (first | with_reducible exact hS3 | with_reducible exact hS2 | with_reducible exact hS1 | with_reducible exact hS0 | with_reducible exact hSd)
      (first
        | (refine step_append_ints (by rfl) (.tmp 57) (.tmp 58) 26 (by rfl) Try.underlying26 info3 w4.heap.size v1 ([] ++ form) (by rfl) GO1.out a2 cap2 behind.length behind (by rfl) rfl hn2 (((HF2.out.go H4.out.grow).go GG1.out).src) (by rw [List.nil_append]; omega) GG1.out.size ?_; intro v2 x2 hown2 hgrow2
           have GG2 := Lib.hid (Below.trans GG1.out (below_grown GO1.out hgrow2 GG1.out.size))
           rw [List.nil_append, ← HL.out] at hown2
           obtain ⟨va, vc, rfl, -, hvi, -, -⟩ := hown2.shape
           have K2 := Lib.hid (H4.out.go GG2.out)
           have K2I := Lib.hid (show Lst x2 va L from hvi)
           have hS2 := And.intro K2.out.c0 (And.intro K2.out.c1 K2.out.c2)
           clear hown2 hgrow2 hvi GO1)
        | (refine step_append_ints (by rfl) (.tmp 55) (.tmp 56) 26 (by rfl) Try.underlying26 info3 w4.heap.size (.slice (some ⟨w4.heap.size, 0, none⟩) 0 0) [] (by rfl) HO0.out a0 cap0 form.length form (by rfl) rfl hn0 HSrc1.out (by simp only [List.length_nil]; omega) (by simp) ?_; intro v1 x1 hown1 hgrow1
           have GG1 := Lib.hid (Below.trans HG0.out (below_grown HO0.out hgrow1 (by simp)))
           have GO1 := Lib.hid hown1
           have K1 := Lib.hid (H4.out.go GG1.out)
           have hS1 := And.intro K1.out.c0 (And.intro K1.out.c1 K1.out.c2)
           clear hown1 hgrow1 HO0)
        | (go_at_call 17; refine (replay_bx (cap := vc) (cap2 := cap1) K2.out HSM.out K2I.out (HF1.out.go K2.out.grow) (by omega) (by omega)).mono ?_; rw [HRB.out]; rintro e w5 ⟨a5, c5, rfl, hi5, hb, hlc5, -, -⟩
           have K5 := Lib.hid (K2.out.go hb)
           have K5I := Lib.hid (And.intro ((I4.out.go GG2.out).go hb) hi5)
           have hS3 := And.intro K5.out.c0 (And.intro K5.out.c1 K5.out.c2)
           clear hb hi5))
    clear hS0 hS1 hS2 hS3 hSd HG0 HSrc1 GG1 GG2 K1 K2 K2I g0 g1 g2 I4 H4
    have hol3 : O.length ≤ 700 := by have := HOl.out; omega
    have hs2 := fun W => slice_l W a5 O.length c5 Wd.length (by have := HOl.out; omega)
    have HA := Lib.hid (K5I.out.2.drop hlc5 Wd.length)
    rw [HOD.out] at HA
    have hdl : O.length - Wd.length = behind.length := by have := HOl.out; omega
    rw [hdl] at hs2
    clear hdl
    have hwo : ((0 : Int) ≤ (Wd.length : Int)) := by omega
    have hwo2 : ((Wd.length : Int) ≤ (O.length : Int)) := by have := HOl.out; omega
    generalize (if c5 = Wd.length then a5 else a5.map (fun x => x.add Wd.length)) = A at *
    go_wp2
    go_loop [79] (fun i => ∃ k : Nat, k ≤ Wd.length ∧ i = .int .i64 k) (fun i => Wd.length - (intOf i).toNat)
    case atStart => exact ⟨0, by omega, rfl⟩
    case round =>
      obtain ⟨k, hk, rfl⟩ := hrel
      by_cases hlt : k < Wd.length
      · have hki : (k : Int) < Wd.length := by omega
        have hko : (k : Int) < O.length := by omega
        have hk0 : (0 : Int) ≤ k := by omega
        obtain ⟨wb, wo, rfl, -, hwc⟩ := K5I.out.1 k hlt
        obtain ⟨ob, oo, hoa, -, hoc⟩ := K5I.out.2 k (by omega)
        subst hoa
        have hnb : (O[k]'(by omega) != nt (Wd[k]'hlt)) = false := by rw [HOK.out k hlt (by omega)]; simp
        generalize O[k]'(by omega) = x at *
        generalize Wd[k]'hlt = y at *
        have hnb2 : (x != bits BinOp.xor .i64 (if IntKind.i64.signed = true then -1 else 9223372036854775807) y) = false := hnb
        go_wp2
        go_round
        case rel => exact ⟨k + 1, by omega, by go_num⟩
        case measure => simp [intOf]; omega
      · have hki : ¬ (k : Int) < Wd.length := by omega
        go_wp2_with fail
        refine (same_bx HA.out (HF2.out.go K5.out.grow) (by omega) (by omega)).mono ?_
        rintro e w6 ⟨rfl, hb⟩
        have K6 := Lib.hid (K5.out.go hb)
        clear hb
        rw [decide_eq_true (rfl : behind = behind)]
        go_wp2
        go_ret
        exact ⟨rfl, K6.out.grow⟩
  · have hzb : ((yieldS g form rules).2 != 0) = true := by simp [hz]
    have hze : (((yieldS g form rules).1.length : Int) == 0) = true := by rw [yieldS_err hz]; rfl
    clear hz
    generalize yieldS g form rules = yt at *
    go_wp2
    go_ret
    exact ⟨rfl, H4.out.grow⟩

set_option maxRecDepth 100000 in
theorem lifted (os : Os) (started : os.Started) (H : Type) (enc : TypeId × Value → H) :
    ReturnsInHanded {} Try.checked os 6 .any (Rows.derivBehindSpec.pre6 enc Try.prog Try.f6 Rows.derivBehindRow.domain false) (Rows.derivBehindSpec.post enc Try.prog Try.f6 false true false false) := by
  refine returnsInHanded_of_change (C := Try.checked) own started (by kernel_rfl) Try.func6
    (ChangeSpec.witness6 (enc := enc) (C := Try.checked) false ⟨#[], #[.agg #[.slice none 0 0, .slice none 0 0, .slice none 0 0], .slice none 0 0, .slice none 0 0, .slice none 0 0], []⟩ 8 (by kernel_rfl) (by kernel_rfl) (by kernel_rfl) (by kernel_rfl)) ?_
  intro W base args ds gs before hval0 hW hcnd _
  have hval : ∀ (j : Nat) t v, Try.f6.params[j]? = some t → args[j]? = some v → Value.okWide Try.prog W .any base t v := hval0
  have hW' := hW
  obtain ⟨p, q, hA0, hV, rfl, hfz, hnd⟩ := hW
  have hA : DataW.TrodAll enc Try.prog W 0 (fun _ => true) true Try.f6.params.toList args.toList ds p := hA0
  rw [Try.params6] at hA hval
  obtain ⟨v0, vs0, d0, ds0, p0, q0, hargs, rfl, rfl, h0, r0⟩ := trodAll_cons hA
  obtain ⟨v1, vs1, d1, ds1, p1, q1, rfl, rfl, rfl, h1, r1⟩ := trodAll_cons r0
  obtain ⟨v2, vs2, d2, ds2, p2, q2, rfl, rfl, rfl, h2, r2⟩ := trodAll_cons r1
  obtain ⟨v3, vs3, d3, ds3, p3, q3, rfl, rfl, rfl, h3, r3⟩ := trodAll_cons r2
  obtain ⟨rfl, rfl, rfl⟩ := trodAll_nil r3
  obtain rfl : args = #[v0, v1, v2, v3] := by cases args; simp_all
  obtain ⟨rfl, rfl⟩ := trodVars_none hV
  have k0 := h0
  have lt0 : ∀ x ∈ p0, x.block < W.heap.size := by obtain ⟨m, hm⟩ := k0; exact DataW.trod_lt m _ _ _ hm
  obtain ⟨g, rfl, hgr, hgw⟩ := gram_of_trod_wf (hval 0 25 v0 rfl rfl) h0
  have k1 := h1
  have lt1 : ∀ x ∈ p1, x.block < W.heap.size := by obtain ⟨m, hm⟩ := k1; exact DataW.trod_lt m _ _ _ hm
  obtain ⟨a1, xs1, cap1, rfl, hi1, hl1, hm1, hn1, hw1⟩ := ints_of_val_wf (hval 1 26 v1 rfl rfl) h1
  have k2 := h2
  have lt2 : ∀ x ∈ p2, x.block < W.heap.size := by obtain ⟨m, hm⟩ := k2; exact DataW.trod_lt m _ _ _ hm
  obtain ⟨a2, xs2, cap2, rfl, hi2, hl2, hm2, hn2⟩ := ints_of_val (hval 2 26 v2 rfl rfl) h2
  have k3 := h3
  have lt3 : ∀ x ∈ p3, x.block < W.heap.size := by obtain ⟨m, hm⟩ := k3; exact DataW.trod_lt m _ _ _ hm
  obtain ⟨a3, xs3, cap3, rfl, hi3, hl3, hm3, hn3⟩ := ints_of_val (hval 3 26 v3 rfl rfl) h3
  clear hA0 hval0
  refine (walk hgr (fun i h => inR_of (hgw i h)) hi1 hl1 hm1 hn1 (inR_of hw1) hi2 hl2 hm2 hn2 hi3 hl3 hm3 hn3).mono fun e W' ⟨he, bel⟩ => ?_
  subst he
  exact ⟨_, rfl, _, _, _, [], _, [], hW', trodAll_mk1 (shut_bool Try.underlying4 _), (trodAll_cons_mk (Below.trod laidOut (by kernel_rfl) (of_decide_eq_true (by kernel_rfl)) k0 bel lt0) (trodAll_cons_mk (Below.trod laidOut (by kernel_rfl) (of_decide_eq_true (by kernel_rfl)) k1 bel lt1) (trodAll_cons_mk (Below.trod laidOut (by kernel_rfl) (of_decide_eq_true (by kernel_rfl)) k2 bel lt2) (trodAll_cons_mk (Below.trod laidOut (by kernel_rfl) (of_decide_eq_true (by kernel_rfl)) k3 bel lt3) trodAll_mk0)))), rfl, bel.frame _, fun h => by cases h⟩

theorem over : Rows.derivBehindRow.holds Try.pinned (OpenSpec.ofChange Rows.derivBehindSpec) :=
  OpenClaim.holds_of_wide 6 Try.f6 rfl rfl rfl rfl rfl rfl rfl ⟨rfl, rfl, rfl, rfl, rfl⟩ rfl rfl rfl rfl rfl (by kernel_rfl) Try.func6 (by kernel_rfl)
    (of_decide_eq_true (by kernel_rfl)) (by unfold Func.isWrapper; first | (rw [if_pos (by decide +kernel)]; kernel_rfl) | (rw [if_neg (by decide +kernel)]; exact ⟨rfl, rfl⟩))
    (fun os started H enc _ => lifted os started H enc)

theorem proved : Rows.DerivBehindSaid := over
#print axioms proved
end Go.Proofs.Ytekdciigiogjkaa.derivBehind
