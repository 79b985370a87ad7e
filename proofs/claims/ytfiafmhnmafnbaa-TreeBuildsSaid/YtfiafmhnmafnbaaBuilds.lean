/-
  TreeBuilds answers true, and leaves its arguments as they were, for every grammar, variable and derivation that together are of bulk at most 1048576 (the second form).
-/
import Derived.Test.YtfiafmhnmafnbaaBulk
import Derived.Test.YtfiafmhnmafnbaaRMeasure
import Derived.JoinedCond
import Derived.WalkKit
import Derived.ProofKit
import Derived.OpenShut
import Derived.ShutString
import Derived.ChangeOld
import Derived.Below
namespace Go.Proofs.Ytfiafmhnmafnbaa.treeBuilds
open Go.ChangeShapes Go.WideShapes Go.ChangeAt Go.RowKit
set_option linter.unusedVariables false

theorem own : ownKnob Try.prog.godebug = none := by kernel_rfl
theorem laidOut : laidOutB Try.prog = true := by kernel_rfl

set_option maxRecDepth 100000 in
set_option maxHeartbeats 4000000 in
theorem walk {w : World} {g : GramD} (hg : GramAt w w.heap.size g) (hbr : Brief g) (hwf : ∀ i (h : i < g.rules.length), ∀ x ∈ g.rules[i].right, (Lit.int .i64 x).wf = true) (v : Int)
    {a : Option Addr} {cap : Nat} {rules : List Int} (hr : Ints w w.heap.size a rules) (hc : rules.length ≤ cap) (hc2 : cap ≤ maxLen) :
    Calls Try.prog 3 #[GV g, .int .i64 v, .slice a rules.length cap] w fun e w' => e = .returned (.bool true) ∧ Below w.heap.size w w' := by
  have HR := Lib.hid (show Lst w a rules from hr)
  have HBR := Lib.hid hbr
  have HWF := Lib.hid hwf
  clear hr hbr hwf
  have HS := Lib.hid (box_start hg)
  unfold GV
  go_enter Try.func3, Try.ntmps3
  go_wp2_with fail
  refine (alive_any _).mono ?_
  rintro e w1 ⟨rfl, hb⟩
  have H1 := Lib.hid (HS.out.go hb)
  have g0 := H1.out.c0
  have g1 := H1.out.c1
  have g2 := H1.out.c2
  clear hb HS
  go_wp2_with fail
  refine (few_bx H1.out).mono ?_
  rintro e w2 ⟨b, rfl, hb, hsm⟩
  have H2 := Lib.hid (H1.out.go hb)
  clear hb g0 g1 g2 H1
  cases b
  · go_wp2
    go_ret
    exact ⟨rfl, H2.out.grow⟩
  have HSM := Lib.hid (hsm rfl)
  clear hsm
  by_cases hlong_rules : (60 : Int) < rules.length
  · go_wp2
    go_ret
    exact ⟨rfl, H2.out.grow⟩
  have g0 := H2.out.c0
  have g1 := H2.out.c1
  have g2 := H2.out.c2
  go_wp2_with fail
  refine (right_bx H2.out).mono ?_
  rintro e w3 ⟨b, rfl, hb, hok⟩
  have H3 := Lib.hid (H2.out.go hb)
  clear hb g0 g1 g2 H2
  cases b
  · go_wp2
    go_ret
    exact ⟨rfl, H3.out.grow⟩
  have HOK := Lib.hid (hok rfl)
  clear hok
  have g0 := H3.out.c0
  have g1 := H3.out.c1
  have g2 := H3.out.c2
  by_cases hv0 : v < 0
  · go_wp2
    go_ret
    exact ⟨rfl, H3.out.grow⟩
  by_cases hv1 : (g.vars.length : Int) ≤ v
  · go_wp2
    go_ret
    exact ⟨rfl, H3.out.grow⟩
  go_wp2_with fail
  refine (of_bx H3.out HSM.out HOK.out (HR.out.go H3.out.grow) hc hc2 (by omega) (by omega)).mono ?_
  rintro e w4 ⟨hb, h4⟩
  have H4 := Lib.hid (H3.out.go hb)
  clear hb g0 g1 g2 H3
  have hg4 : Grow w4 (w4.alloc (.cells #[.int .i64 v] 3)) := (Below.refl _ _).alloc (Nat.le_refl _) _
  have hl1 : Lst (w4.alloc (.cells #[.int .i64 v] 3)) (some ⟨w4.heap.size, 0, none⟩) [v] := ints_new w4 #[.int .i64 v] [v] rfl
  have HYC := Lib.hid (ryield_bx (cap := 1) (cap2 := cap) (H4.out.go hg4) HSM.out hl1 (HR.out.go (H4.out.go hg4).grow) (by simp; omega) (by omega))
  have HG4 := Lib.hid hg4
  clear hg4 hl1
  rcases h4 with ⟨hz, t, he, ht1, ht2, ht3, ht4, ht5, ht6⟩ | ⟨hz, he⟩
  rotate_left
  · subst he
    generalize yieldS g [v] rules = Y at *
    have hz' : (Y.2 != 0) = true := by simp [hz]
    have hyy : (Y.2 != Y.2) = false := by simp
    have htt : (true != true) = false := rfl
    have g0 := H4.out.c0
    have g1 := H4.out.c1
    have g2 := H4.out.c2
    clear hz
    go_wp2_with fail
    refine HYC.out.mono ?_
    rintro e w5 ⟨a5, c5, rfl, -, hb, -, -, -⟩
    have H5 := Lib.hid ((H4.out.go HG4.out).go hb)
    clear hb HYC
    go_wp2
    go_ret
    exact ⟨rfl, H5.out.grow⟩
  unfold MT.ptr at he
  subst he
  obtain ⟨⟨wd, f⟩, hY⟩ : ∃ Y, yieldS g [v] rules = Y := ⟨_, rfl⟩
  rw [hY] at hz ht3 HYC
  obtain rfl : f = 0 := hz
  have hsz : t.pt.size ≤ 1000 := by
    have := valid_size HSM.out _ ht4
    rw [ht2] at this
    omega
  have HSZ := Lib.hid (show t.pt.size ≤ 10000 by omega)
  have HNM := Lib.hid (valid_named HOK.out HWF.out t.pt ht4 (by rw [ht1]; exact ⟨by omega, fun h => by omega⟩))
  have HTT := Lib.hid (And.intro ht1 (And.intro ht2 (And.intro ht3 ht4)))
  have HT4 := Lib.hid (show Tre w4.heap.size.pred w4 t ∨ True from .inr trivial)
  have HTW := Lib.hid ht5
  have hlw : wd.length ≤ 1000 := by
    have h1 := (leaves_size t.pt).1
    have h2 : wd = t.pt.leaves.map nt := ht3.symm
    rw [h2, List.length_map]
    omega
  clear ht1 ht2 ht3 ht4 ht5 ht6 hY HT4

  have g0 := H4.out.c0
  have g1 := H4.out.c1
  have g2 := H4.out.c2
  obtain ⟨tb, htb⟩ : ∃ tb, t.blk = tb := ⟨_, rfl⟩
  have HTB := Lib.hid htb
  rw [htb]
  clear htb
  go_wp2_with fail
  refine HYC.out.mono ?_
  rintro e w5 ⟨a5, c5, rfl, hl5, hb, -, -, -⟩
  have H5 := Lib.hid ((H4.out.go HG4.out).go hb)
  have HT5 := Lib.hid (show Tre _ w5 t from Tre.go (Tre.go HTW.out HG4.out) hb)
  have HL5 := Lib.hid hl5
  clear hb hl5 HYC HTW HG4 H4 g0 g1 g2
  have g0 := H5.out.c0
  have g1 := H5.out.c1
  have g2 := H5.out.c2
  have hff : (false != false) = false := rfl
  have HX := Lib.hid (rtext_any (cap := cap) HBR.out HSM.out t.pt HTT.out.2.2.2 HNM.out HSZ.out (rest := []) H5.out.gram' (Nat.le_refl _) (a := a) (by rw [List.append_nil, HTT.out.2.1]; exact HR.out.go H5.out.grow) (by rw [List.append_nil, HTT.out.2.1]; exact hc) (by simp only [maxLen] at hc2; omega))
  rw [List.append_nil, HTT.out.2.1, HTT.out.1] at HX
  unfold GV at HX
  have hxs : (strOf (t.pt.text g)).size ≤ 20000000000 := by
    show (t.pt.text g).toArray.size ≤ _
    rw [List.size_toArray]
    have := text_len HBR.out t.pt
    omega
  go_wp2_with fail
  refine HX.out.mono ?_
  rintro e w6 ⟨rfl, hb⟩
  have H6 := Lib.hid (H5.out.go hb)
  have HT6 := Lib.hid (HT5.out.go hb)
  have HL6 := Lib.hid (HL5.out.go hb)
  clear hb HX H5 HT5 HL5 g0 g1 g2
  have g0 := H6.out.c0
  have g1 := H6.out.c1
  have g2 := H6.out.c2
  have HX := Lib.hid (rmeasure_any (cap := cap) HSM.out t.pt HTT.out.2.2.2 HSZ.out (rest := []) H6.out.gram' (Nat.le_refl _) (a := a) (by rw [List.append_nil, HTT.out.2.1]; exact HR.out.go H6.out.grow) (by rw [List.append_nil, HTT.out.2.1]; exact hc) (by simp only [maxLen] at hc2; omega))
  rw [List.append_nil, HTT.out.2.1, HTT.out.1] at HX
  unfold GV at HX
  go_wp2_with fail
  refine HX.out.mono ?_
  rintro e w7 ⟨rfl, hb⟩
  have H7 := Lib.hid (H6.out.go hb)
  have HT7 := Lib.hid (HT6.out.go hb)
  have HL7 := Lib.hid (HL6.out.go hb)
  clear hb HX H6 HT6 HL6 g0 g1 g2
  have g0 := H7.out.c0
  have g1 := H7.out.c1
  have g2 := H7.out.c2
  have HX := Lib.hid (text_bx H7.out HBR.out HT7.out HNM.out HSZ.out)
  rw [HTB.out] at HX
  generalize strOf (t.pt.text g) = X at *
  have hx1 : (X == X) = true := by rw [show (X == X) = (X.data == X.data) from rfl]; simp
  go_wp2_with fail
  refine HX.out.mono ?_
  rintro e w8 ⟨rfl, hb⟩
  have H8 := Lib.hid (H7.out.go hb)
  have HT8 := Lib.hid (HT7.out.go hb)
  have HL8 := Lib.hid (HL7.out.go hb)
  clear hb HX H7 HT7 HL7 g0 g1 g2
  have HX := Lib.hid (size_bx HT8.out HSZ.out)
  rw [HTB.out] at HX
  have hx2 : ((t.pt.size : Int) == (t.pt.size : Int)) = true := by simp
  go_wp2_with fail
  refine HX.out.mono ?_
  rintro e w9 ⟨rfl, hb⟩
  have H9 := Lib.hid (H8.out.go hb)
  have HT9 := Lib.hid (HT8.out.go hb)
  have HL9 := Lib.hid (HL8.out.go hb)
  clear hb HX H8 HT8 HL8
  have HX := Lib.hid (height_bx HT9.out HSZ.out)
  rw [HTB.out] at HX
  have hx3 : ((t.pt.height : Int) == (t.pt.height : Int)) = true := by simp
  go_wp2_with fail
  refine HX.out.mono ?_
  rintro e w10 ⟨rfl, hb⟩
  have H10 := Lib.hid (H9.out.go hb)
  have HT10 := Lib.hid (HT9.out.go hb)
  have HL10 := Lib.hid (HL9.out.go hb)
  clear hb HX H9 HT9 HL9
  have HX := Lib.hid (word_bx HT10.out HSZ.out)
  rw [HTB.out, HTT.out.2.2.1] at HX
  try dsimp only at HX
  go_wp2_with fail
  refine HX.out.mono ?_
  rintro e w11 ⟨a11, c11, rfl, hl, hb, -, -, -⟩
  have H11 := Lib.hid (H10.out.go hb)
  have HT11 := Lib.hid (HT10.out.go hb)
  have HX2 := Lib.hid (same_bx (cap := c11) (cb := c5) hl (HL10.out.go hb) (by omega) (show wd.length ≤ 1000000 by omega))
  rw [decide_eq_true (rfl : wd = wd)] at HX2
  clear hl hb HX H10 HT10 HL10
  go_wp2_with fail
  refine HX2.out.mono ?_
  rintro e w12 ⟨rfl, hb⟩
  have H12 := Lib.hid (H11.out.go hb)
  have HT12 := Lib.hid (HT11.out.go hb)
  clear hb HX2 H11 HT11
  have HX := Lib.hid (rules_bx HT12.out HSZ.out)
  rw [HTB.out, HTT.out.2.1] at HX
  go_wp2_with fail
  refine HX.out.mono ?_
  rintro e w13 ⟨a13, c13, rfl, hl, hb, -, -, -⟩
  have H13 := Lib.hid (H12.out.go hb)
  have HT13 := Lib.hid (HT12.out.go hb)
  have HX2 := Lib.hid (same_bx (cap := c13) (cb := cap) hl (HR.out.go H13.out.grow) (by omega) (by omega))
  rw [decide_eq_true (rfl : rules = rules)] at HX2
  clear hl hb HX H12 HT12
  go_wp2_with fail
  refine HX2.out.mono ?_
  rintro e w14 ⟨rfl, hb⟩
  have H14 := Lib.hid (H13.out.go hb)
  have HT14 := Lib.hid (HT13.out.go hb)
  clear hb HX2 H13 HT13
  have g0 := H14.out.c0
  have g1 := H14.out.c1
  have g2 := H14.out.c2
  have HX := Lib.hid (valid_bx H14.out HSM.out HT14.out HSZ.out)
  rw [HTB.out, HTT.out.2.2.2] at HX
  go_wp2_with fail
  refine HX.out.mono ?_
  rintro e w15 ⟨rfl, hb⟩
  have H15 := Lib.hid (H14.out.go hb)
  have HT15 := Lib.hid (HT14.out.go hb)
  clear hb HX H14 HT14 g0 g1 g2
  have hsym : w15.cell? ⟨tb, 0, none⟩ = some (.int .i64 v) := by
    have h1 := HT15.out
    have h2 := HTT.out.1
    have h3 := HTB.out
    obtain ⟨b, kv, s, r, kids⟩ := t
    rw [mt_sym] at h2
    have h4 := cell_of_block (off := 0) (show MT.At w15 _ _ from h1).2.1
    rw [show b = tb from h3, show s = v from h2] at h4
    exact h4
  have hvv : (v == v) = true := by simp
  go_wp2
  go_ret
  exact ⟨rfl, H15.out.grow⟩

theorem short {H : Type} {d0 d1 d2 : DataW H} (hk : Rows.uptoSmall H [d0, d1, d2] = true) : Rows.uptoBulk d0 ≤ 1048576 := by
  have h : Rows.uptoBulkAll [d0, d1, d2] ≤ 1048576 := of_decide_eq_true hk
  simp only [Rows.uptoBulkAll] at h
  omega

set_option maxRecDepth 100000 in
theorem lifted (os : Os) (started : os.Started) (H : Type) (enc : TypeId × Value → H) (F : Stop.Interp) :
    ReturnsInHanded {} Try.checked os 3 .any ((Rows.OpenSpec.upto Rows.treeBuildsSpec).pre6 enc Try.prog Try.f3 Rows.treeBuildsUptoRow.domain false) (((Rows.OpenSpec.upto Rows.treeBuildsSpec).at F).post enc Try.prog Try.f3 false true false false) := by
  refine returnsInHanded_of_cond (C := Try.checked) (s := Rows.OpenSpec.upto Rows.treeBuildsSpec) (k := Rows.uptoSmall) rfl own started (by kernel_rfl) Try.func3
    (OpenSpec.witness (enc := enc) (C := Try.checked) (s := Rows.OpenSpec.upto Rows.treeBuildsSpec) (k := Rows.uptoSmall) rfl false ⟨#[], #[.agg #[.slice none 0 0, .slice none 0 0, .slice none 0 0], .int .i64 0, .slice none 0 0], []⟩ 8 (by kernel_rfl) (by kernel_rfl) (by kernel_rfl)
      (x := ([.agg [.nil, .nil, .nil], .lit (.int .i64 0), .nil], [], [])) (by kernel_rfl) rfl (by kernel_rfl)) ?_
  intro W base args ds gs before hval0 hW _ hk _
  have hval : ∀ (j : Nat) t v, Try.f3.params[j]? = some t → args[j]? = some v → Value.okWide Try.prog W .any base t v := hval0
  have hW' := hW
  obtain ⟨p, q, hA0, hV, rfl, hfz, hnd⟩ := hW
  have hA : DataW.TrodAll enc Try.prog W 0 (fun _ => true) true Try.f3.params.toList args.toList ds p := hA0
  rw [Try.params3] at hA hval
  obtain ⟨v0, vs0, d0, ds0, p0, q0, hargs, rfl, rfl, h0, r0⟩ := trodAll_cons hA
  obtain ⟨v1, vs1, d1, ds1, p1, q1, rfl, rfl, rfl, h1, r1⟩ := trodAll_cons r0
  obtain ⟨v2, vs2, d2, ds2, p2, q2, rfl, rfl, rfl, h2, r2⟩ := trodAll_cons r1
  obtain ⟨rfl, rfl, rfl⟩ := trodAll_nil r2
  obtain rfl : args = #[v0, v1, v2] := by cases args; simp_all
  obtain ⟨rfl, rfl⟩ := trodVars_none hV
  have hb := short hk
  have k0 := h0
  have lt0 : ∀ x ∈ p0, x.block < W.heap.size := by obtain ⟨m, hm⟩ := k0; exact DataW.trod_lt m _ _ _ hm
  obtain ⟨g, rfl, hgr, hbr, hwf⟩ := gram_of_trod_b (hval 0 25 v0 rfl rfl) h0 hb
  obtain ⟨a1, rfl, rfl, rfl, w1⟩ := open_int Try.underlying3 (hval 1 3 v1 rfl rfl) h1
  have k2 := h2
  have lt2 : ∀ x ∈ p2, x.block < W.heap.size := by obtain ⟨m, hm⟩ := k2; exact DataW.trod_lt m _ _ _ hm
  obtain ⟨a2, xs2, cap2, rfl, hi2, hl2, hm2, hn2⟩ := ints_of_val (hval 2 26 v2 rfl rfl) h2
  clear hA0 hval0
  refine (walk hgr hbr hwf a1 hi2 hl2 hm2).mono fun e W' ⟨he, bel⟩ => ?_
  subst he
  exact ⟨_, rfl, _, _, _, [], _, [], hW', trodAll_mk1 (shut_bool Try.underlying4 _), (trodAll_cons_mk (Below.trod laidOut (by kernel_rfl) (of_decide_eq_true (by kernel_rfl)) k0 bel lt0) (trodAll_cons_mk (shut_int Try.underlying3 w1) (trodAll_cons_mk (Below.trod laidOut (by kernel_rfl) (of_decide_eq_true (by kernel_rfl)) k2 bel lt2) trodAll_mk0))), rfl, bel.frame _, fun h => by cases h⟩

theorem proved : Rows.TreeBuildsUptoSaid :=
  OpenClaim.holds_of_cond 3 Try.f3 rfl rfl rfl rfl rfl rfl rfl ⟨rfl, rfl, rfl, rfl, rfl⟩ rfl rfl rfl rfl rfl (by kernel_rfl) Try.func3 (by kernel_rfl)
    (of_decide_eq_true (by kernel_rfl)) (by unfold Func.isWrapper; first | (rw [if_pos (by decide +kernel)]; kernel_rfl) | (rw [if_neg (by decide +kernel)]; exact ⟨rfl, rfl⟩))
    (fun os started H enc _ F => lifted os started H enc F)
#print axioms proved
end Go.Proofs.Ytfiafmhnmafnbaa.treeBuilds
