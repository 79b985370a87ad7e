/-
  TreeSpans answers true, and leaves its arguments as they were, for every grammar, variable and derivation. No conditions.
-/
import Derived.Test.YtfiafmhnmafnbaaTwo
import Derived.Test.YtfiafmhnmafnbaaRows
import Derived.WalkKit
import Derived.ProofKit
import Derived.OpenShut
import Derived.ShutString
import Derived.ChangeOld
import Derived.Below
namespace Go.Proofs.Ytfiafmhnmafnbaa.treeSpans
open Go.ChangeShapes Go.WideShapes Go.ChangeAt Go.RowKit
set_option linter.unusedVariables false

theorem own : ownKnob Try.prog.godebug = none := by kernel_rfl
theorem laidOut : laidOutB Try.prog = true := by kernel_rfl

set_option maxRecDepth 100000 in
set_option maxHeartbeats 4000000 in
theorem walk {w : World} {g : GramD} (hg : GramAt w w.heap.size g) (v : Int) {a : Option Addr} {cap : Nat} {rules : List Int} (hr : Ints w w.heap.size a rules) (hc : rules.length ≤ cap) (hc2 : cap ≤ maxLen) (hcap : a = none → cap = 0) :
    Calls Try.prog 6 #[GV g, .int .i64 v, .slice a rules.length cap] w fun e w' => e = .returned (.bool true) ∧ Below w.heap.size w w' := by
  have HR := Lib.hid (show Lst w a rules from hr)
  clear hr
  have HS := Lib.hid (box_start hg)
  unfold GV
  go_enter Try.func6, Try.ntmps6
  go_wp2_with fail
  refine (alive_any _).mono ?_
  rintro e w1 ⟨rfl, hb⟩
  have H1 := Lib.hid (HS.out.go hb)
  have g0 := H1.out.c0
  have g1 := H1.out.c1
  have g2 := H1.out.c2
  clear hb HS
  go_wp2_with fail
  refine (few_bx H1.out).mono ?_
  rintro e w2 ⟨b, rfl, hb, hsm⟩
  have H2 := Lib.hid (H1.out.go hb)
  clear hb g0 g1 g2 H1
  cases b
  · go_wp2
    go_ret
    exact ⟨rfl, H2.out.grow⟩
  have HSM := Lib.hid (hsm rfl)
  clear hsm
  by_cases hlong_rules : (60 : Int) < rules.length
  · go_wp2
    go_ret
    exact ⟨rfl, H2.out.grow⟩
  have g0 := H2.out.c0
  have g1 := H2.out.c1
  have g2 := H2.out.c2
  go_wp2_with fail
  refine (right_bx H2.out).mono ?_
  rintro e w3 ⟨b, rfl, hb, hok⟩
  have H3 := Lib.hid (H2.out.go hb)
  clear hb g0 g1 g2 H2
  cases b
  · go_wp2
    go_ret
    exact ⟨rfl, H3.out.grow⟩
  have HOK := Lib.hid (hok rfl)
  clear hok
  have g0 := H3.out.c0
  have g1 := H3.out.c1
  have g2 := H3.out.c2
  by_cases hv0 : v < 0
  · go_wp2
    go_ret
    exact ⟨rfl, H3.out.grow⟩
  by_cases hv1 : (g.vars.length : Int) ≤ v
  · go_wp2
    go_ret
    exact ⟨rfl, H3.out.grow⟩
  go_wp2_with fail
  refine (of_bx H3.out HSM.out HOK.out (HR.out.go H3.out.grow) hc hc2 (by omega) (by omega)).mono ?_
  rintro e w4 ⟨hb, ⟨hz, t, he, ht1, ht2, ht3, ht4, ht5, ht6⟩ | ⟨hz, he⟩⟩
  rotate_left
  · subst he
    have H4 := Lib.hid (H3.out.go hb)
    generalize hY : yieldS g [v] rules = Y at *
    clear hY
    have hz' : (Y.2 != 0) = true := by simp [hz]
    clear hz
    go_wp2
    go_ret
    exact ⟨rfl, H4.out.grow⟩
  obtain ⟨nb, kv, s, r, kids⟩ := t
  rw [MT.pt_node] at ht1 ht2 ht4
  obtain rfl : s = v := ht1
  dsimp only [MT.ptr, MT.blk] at he
  subst he
  have hvz : 0 ≤ s := by omega
  have H4 := Lib.hid (H3.out.go hb)
  have HT := Lib.hid (show Tre w3.heap.size w4 (.node nb kv s r kids) from ht5)
  have HV := Lib.hid ht4
  have HRU := Lib.hid ht2
  have hsz : (MT.node nb kv s r kids).pt.size ≤ 1000 := by
    have := valid_size HSM.out _ ht4
    rw [ht2] at this
    rw [MT.pt_node]
    omega
  have HSZ := Lib.hid hsz
  clear hb ht2 ht3 ht4 ht5 ht6 hz H3 hsz
  have h1 := cell_of_block (off := 1) HT.out.2.1
  simp only [List.getElem?_toArray, List.getElem?_cons_succ, List.getElem?_cons_zero] at h1
  have h2 := cell_of_block (off := 2) HT.out.2.1
  simp only [List.getElem?_toArray, List.getElem?_cons_succ, List.getElem?_cons_zero] at h2
  have hnb := lt_of_block HT.out.2.1
  have h1' : (w4.alloc (.cells #[] 3)).cell? ⟨nb, 1, none⟩ = some (.int .i64 r) := cell_alloc_keep hnb h1
  have HA := Lib.hid (two_a w4 r)
  have HB := Lib.hid (two_b w4 r)
  obtain ⟨ka, kc, rfl, hkn, -, -, hkc⟩ := (show MT.At w4 w3.heap.size (.node nb kv s r kids) from HT.out).reads
  have HKC := Lib.hid hkc
  obtain ⟨rn, rfl, hrn, -, -, hkv⟩ := valid_var HV.out hvz
  have HKV := Lib.hid hkv
  have hkl : kids.length ≤ 1000 := by have := HSZ.out; rw [MT.pt_node, PT.size] at this; have := PT.len_le (kids.map MT.pt); simp at this; omega
  clear hkc hkv
  have h2a : ∀ o1 o2, ((w4.alloc o1).alloc o2).cell? ⟨nb, 2, none⟩ = some (.slice ka kids.length kc) := fun o1 o2 => cell_alloc_keep (by simp; omega) (cell_alloc_keep hnb h2)
  go_wp2
  go_region
  all_goals
    go_wp2
    go_loopw [9, 10, 11, 12, 63] (fun v1 v2 sz hi i wr => ∃ k : Nat, k ≤ kids.length ∧ i = .int .i64 k ∧ sz = .int .i64 ((1 + PT.sizeL ((kids.take k).map MT.pt) : Nat)) ∧ hi = .int .i64 (PT.heightL ((kids.take k).map MT.pt) : Nat) ∧
      Hid (TwoL w4.heap.size wr v1 ((PT.leavesL ((kids.take k).map MT.pt)).map nt) v2 ((rn : Int) :: PT.rulesL ((kids.take k).map MT.pt)) ∧ Grow w4 wr)) (fun _ _ _ _ i _ => kids.length - (intOf i).toNat)
    case atStart =>
      first
        | exact ⟨0, by omega, rfl, rfl, rfl, HA.out.1, HA.out.2⟩
        | exact ⟨0, by omega, rfl, rfl, rfl, HB.out.1, HB.out.2⟩
    case round =>
      clear HA HB h1 h1' h2 h2a
      obtain ⟨k, hk, rfl, rfl, rfl, hh⟩ := hrel
      have HTW := Lib.hid hh.out.1
      have HG := Lib.hid hh.out.2
      have hsg := hh.out.2.size
      clear hh
      by_cases hlt : k < kids.length
      · obtain ⟨gb, rfl, hcp⟩ := HKC.out k hlt
        have hki : (k : Int) < kids.length := by omega
        have hcp2 : wr.cell? ⟨gb, k, none⟩ = some kids[k].ptr := (World.cell?_of_block (HG.out.block gb (block_of_cell hcp))).trans hcp
        have HTk := Lib.hid (show Tre w3.heap.size w4 kids[k] from (show MT.At w4 w3.heap.size _ from HT.out).kid (List.getElem_mem hlt))
        have hksz : kids[k].pt.size ≤ 1000 := by
          have := HSZ.out
          rw [MT.pt_node, PT.size] at this
          have := PT.size_le (List.mem_map_of_mem (f := MT.pt) (List.getElem_mem hlt))
          omega
        have HKZ : Hid (kids[k].pt.size ≤ 10000) := by
          have := hksz
          exact Lib.hid (by omega)
        have HKV1 := Lib.hid (HKV.out _ (List.mem_map_of_mem (f := MT.pt) (List.getElem_mem hlt)))
        have htk : (kids.take (k + 1)).map MT.pt = (kids.take k).map MT.pt ++ [kids[k].pt] := by rw [List.take_succ_eq_append_getElem hlt, List.map_append]; rfl
        have HP1 := Lib.hid (show (PT.leavesL ((kids.take (k + 1)).map MT.pt)).map nt = (PT.leavesL ((kids.take k).map MT.pt)).map nt ++ kids[k].pt.leaves.map nt by rw [htk, PT.leavesL_append]; simp [PT.leavesL])
        have HP2 := Lib.hid (show (rn : Int) :: PT.rulesL ((kids.take (k + 1)).map MT.pt) = ((rn : Int) :: PT.rulesL ((kids.take k).map MT.pt)) ++ kids[k].pt.rules by rw [htk, PT.rulesL_append]; simp [PT.rulesL])
        have HP3 := Lib.hid (show PT.sizeL ((kids.take (k + 1)).map MT.pt) = PT.sizeL ((kids.take k).map MT.pt) + kids[k].pt.size by rw [htk, PT.sizeL_append]; simp [PT.sizeL])
        have HP4 := Lib.hid (heightL_take kids k hlt)
        have hb1 : PT.sizeL ((kids.take k).map MT.pt) ≤ 1000 := by
          have := HSZ.out
          rw [MT.pt_node, PT.size] at this
          have h7 := sizeL_take_le (kids.map MT.pt) k
          rw [← List.map_take] at h7
          omega
        have hb2 := (leavesL_size ((kids.take k).map MT.pt)).1
        have hb3 := (leavesL_size ((kids.take k).map MT.pt)).2
        have hb4 := heightL_le ((kids.take k).map MT.pt)
        have hb5 := (leaves_size kids[k].pt).1
        have hb6 := (leaves_size kids[k].pt).2
        have hb7 := PT.height_le kids[k].pt
        have hx1 : ((PT.leavesL ((kids.take k).map MT.pt)).map nt).length ≤ 1000 := by rw [List.length_map]; omega
        have hx2 : ((rn : Int) :: PT.rulesL ((kids.take k).map MT.pt)).length ≤ 1001 := by rw [List.length_cons]; omega
        have hx3 : (kids[k].pt.leaves.map nt).length ≤ 1000 := by rw [List.length_map]; omega
        have hx4 : kids[k].pt.rules.length ≤ 1000 := by omega
        have hx5 : PT.heightL ((kids.take k).map MT.pt) ≤ 1000 := by omega
        have hx6 : kids[k].pt.height ≤ 1000 := by omega
        clear htk hb2 hb3 hb4 hb5 hb6 hb7 hcp
        have HW1 := Lib.hid (word_bx (HTk.out.go HG.out) HKZ.out)
        dsimp only [MT.ptr] at hcp2
        generalize kids[k]'hlt = K at hcp2 HTk hksz HKZ HKV1 HP1 HP2 HP3 HP4 hx3 hx4 hx6 HW1
        generalize hLV : K.pt.leaves.map nt = LV at HP1 HW1 hx3
        generalize (PT.leavesL ((kids.take k).map MT.pt)).map nt = XS at HP1 HTW hx1
        generalize (rn : Int) :: PT.rulesL ((kids.take k).map MT.pt) = YS at HP2 HTW hx2
        generalize PT.sizeL ((kids.take k).map MT.pt) = SZ at *
        generalize PT.heightL ((kids.take k).map MT.pt) = HH at *
        clear hLV
        go_wp2_with (first
          | (go_at_call 18; refine HW1.out.mono ?_; rintro e wa ⟨aw, cw, rfl, hl, hg, hlc, -, hnw⟩
             have HX1 := Lib.hid hl
             have HX2 := Lib.hid hg
             have HTA := Lib.hid (HTW.out.go hg)
             have hsa : w4.heap.size ≤ wa.heap.size := Nat.le_trans hsg hg.size
             clear hl hg)
          | (at_builtin; (refine append_ints_at rfl _ _ 26 rfl Try.underlying26 info3 w4.heap.size _ XS rfl HTA.out.one aw cw _ LV rfl rfl hnw HX1.out.src (by omega) hsa ?_); intro v1' wb ho hgrow hat))
        have HTB := Lib.hid (HTA.out.app hgrow ho hat)
        have HGB := Lib.hid ((HG.out.trans HX2.out).trans' (HTA.out.low hgrow (Nat.le_refl _) hsa))
        have hsb : w4.heap.size ≤ wb.heap.size := HGB.out.size
        have HW2 := Lib.hid (rules_bx (HTk.out.go HGB.out) HKZ.out)
        clear hgrow ho hat HTA HX1 HX2 HW1 HTW HG hsg hsa hnw hlc
        generalize hKR : K.pt.rules = KR at HP2 HW2 hx4
        clear hKR
        go_wp2_with (first
          | (go_at_call 19; refine HW2.out.mono ?_; rintro e wc ⟨aw, cw, rfl, hl, hg, hlc, -, hnw⟩
             have HX1 := Lib.hid hl
             have HX2 := Lib.hid hg
             have HTA := Lib.hid (HTB.out.go hg).swap
             have hsa : w4.heap.size ≤ wc.heap.size := Nat.le_trans hsb hg.size
             clear hl hg)
          | (at_builtin; (refine append_ints_at rfl _ _ 26 rfl Try.underlying26 info3 w4.heap.size _ YS rfl HTA.out.one aw cw _ KR rfl rfl hnw HX1.out.src (by omega) hsa ?_); intro v2' wd ho hgrow hat))
        have HTC := Lib.hid (HTA.out.app hgrow ho hat).swap
        have HGC := Lib.hid ((HGB.out.trans HX2.out).trans' (HTA.out.low hgrow (Nat.le_refl _) hsa))
        have hsd : w4.heap.size ≤ wd.heap.size := HGC.out.size
        have HW3 := Lib.hid (size_bx (HTk.out.go HGC.out) HKZ.out)
        clear hgrow ho hat HTA HX1 HX2 HW2 HTB HGB hsb hsa hnw hlc
        generalize hKS : K.pt.size = KS at HP3 HW3 hksz
        clear hKS
        go_wp2_with (first
          | (go_at_call 15; refine HW3.out.mono ?_; rintro e we ⟨rfl, hg⟩
             have HTD := Lib.hid (HTC.out.go hg)
             have HGD := Lib.hid (HGC.out.trans hg)
             have HW4 := Lib.hid (height_bx (HTk.out.go HGD.out) HKZ.out)
             clear hg HTC HGC HW3 hsd)
          | (go_at_call 16; refine HW4.out.mono ?_; rintro e wf ⟨rfl, hg⟩
             have HTE := Lib.hid (HTD.out.go hg)
             have HGE := Lib.hid (HGD.out.trans hg)
             have HX := Lib.hid (H4.out.go HGE.out)
             have g0 := HX.out.c0
             have g1 := HX.out.c1
             have g2 := HX.out.c2
             have HW5 := Lib.hid (valid_bx HX.out HSM.out (HTk.out.go HGE.out) HKZ.out)
             rw [HKV1.out] at HW5
             clear hg HTD HGD HW4)
          | (go_at_call 20; refine HW5.out.mono ?_; rintro e wg ⟨rfl, hg⟩
             have HTF := Lib.hid (HTE.out.go hg)
             have HGF := Lib.hid (HGE.out.trans hg)
             clear hg HTE HGE HW5))
        go_roundw
        case rel => exact ⟨k + 1, by omega, by go_num, by rw [HP3.out]; congr 1; omega, by rw [HP4.out]; congr 1; omega, by rw [HP1.out, HP2.out]; exact ⟨HTF.out, HGF.out⟩⟩
        case measure => simp [intOf]; omega
      · have hki : ¬ (k : Int) < kids.length := by omega
        obtain rfl : k = kids.length := by omega
        rw [List.take_length] at *
        have HPT := Lib.hid (show (MT.node nb (Value.slice ka kids.length kc) s (rn : Int) kids).pt = PT.node s rn (kids.map MT.pt) from MT.pt_node _ _ _ _ _)
        have hsz := HSZ.out
        rw [HPT.out] at hsz
        have HE1 := Lib.hid (show (PT.node s rn (kids.map MT.pt)).leaves = PT.leavesL (kids.map MT.pt) by rw [PT.leaves, if_pos hvz]; rfl)
        have HE2 := Lib.hid (show (PT.node s rn (kids.map MT.pt)).rules = (rn : Int) :: PT.rulesL (kids.map MT.pt) by rw [PT.rules, if_pos hvz]; rfl)
        have HE3 := Lib.hid (show (PT.node s rn (kids.map MT.pt)).size = 1 + PT.sizeL (kids.map MT.pt) by rw [PT.size])
        have HE4 := Lib.hid (show (PT.node s rn (kids.map MT.pt)).height = PT.heightL (kids.map MT.pt) + 1 by rw [PT.height])
        have HKZ : Hid ((MT.node nb (Value.slice ka kids.length kc) s (rn : Int) kids).pt.size ≤ 10000) := by
          have := HSZ.out
          exact Lib.hid (by omega)
        have hb0 : 1 + PT.sizeL (kids.map MT.pt) ≤ 1000 := by rw [← HE3.out]; exact hsz
        have hb2 := (leavesL_size (kids.map MT.pt)).1
        have hb3 := (leavesL_size (kids.map MT.pt)).2
        have hb4 := heightL_le (kids.map MT.pt)
        have hx1 : ((PT.leavesL (kids.map MT.pt)).map nt).length ≤ 1000 := by rw [List.length_map]; omega
        have hx2 : ((rn : Int) :: PT.rulesL (kids.map MT.pt)).length ≤ 1001 := by rw [List.length_cons]; omega
        have hx5 : PT.heightL (kids.map MT.pt) ≤ 1000 := by omega
        have HW1 := Lib.hid (word_bx (HT.out.go HG.out) HKZ.out)
        rw [HPT.out, HE1.out] at HW1
        dsimp only [MT.blk] at HW1
        generalize hXS : (PT.leavesL (kids.map MT.pt)).map nt = XS at *
        generalize hYS : (rn : Int) :: PT.rulesL (kids.map MT.pt) = YS at *
        generalize hSZ : PT.sizeL (kids.map MT.pt) = SZ at *
        generalize hHH : PT.heightL (kids.map MT.pt) = HH at *
        clear hXS hYS hSZ hHH hb2 hb3 hb4 hsz
        obtain ⟨a1, c1, rfl, -⟩ := HTW.out.one.shape
        obtain ⟨a2, c2, rfl, -⟩ := HTW.out.two.shape
        go_wp2_with fail
        refine HW1.out.mono ?_
        rintro e wa ⟨aw, cw, rfl, hl, hg, -, -, -⟩
        have HTA := Lib.hid (HTW.out.go hg)
        have HGA := Lib.hid (HG.out.trans hg)
        have HS1 := Lib.hid (same_bx (cap := c1) (cb := cw) (show Lst wa a1 XS from HTA.out.one.ints.2) hl (by omega) (by omega))
        rw [decide_eq_true (rfl : XS = XS)] at HS1
        clear hl hg HW1 HTW HG hsg
        go_wp2_with fail
        refine HS1.out.mono ?_
        rintro e wb ⟨rfl, hg⟩
        have HTB := Lib.hid (HTA.out.go hg)
        have HGB := Lib.hid (HGA.out.trans hg)
        have HW2 := Lib.hid (rules_bx (HT.out.go HGB.out) HKZ.out)
        rw [HPT.out, HE2.out] at HW2
        dsimp only [MT.blk] at HW2
        clear hg HS1 HTA HGA
        go_wp2_with fail
        refine HW2.out.mono ?_
        rintro e wc ⟨aw, cw, rfl, hl, hg, -, -, -⟩
        have HTC := Lib.hid (HTB.out.go hg)
        have HGC := Lib.hid (HGB.out.trans hg)
        have HS2 := Lib.hid (same_bx (cap := c2) (cb := cw) (show Lst wc a2 YS from HTC.out.two.ints.2) hl (by omega) (by omega))
        rw [decide_eq_true (rfl : YS = YS)] at HS2
        clear hl hg HW2 HTB HGB
        go_wp2_with fail
        refine HS2.out.mono ?_
        rintro e wd ⟨rfl, hg⟩
        have HGD := Lib.hid (HGC.out.trans hg)
        have HW3 := Lib.hid (size_bx (HT.out.go HGD.out) HKZ.out)
        rw [HPT.out, HE3.out] at HW3
        dsimp only [MT.blk] at HW3
        clear hg HS2 HTC HGC
        go_wp2_with fail
        refine HW3.out.mono ?_
        rintro e we ⟨rfl, hg⟩
        have HGE := Lib.hid (HGD.out.trans hg)
        have HW4 := Lib.hid (height_bx (HT.out.go HGE.out) HKZ.out)
        rw [HPT.out, HE4.out] at HW4
        dsimp only [MT.blk] at HW4
        clear hg HGD HW3
        have hq1 : (((1 + SZ : Nat) : Int) == ((1 + SZ : Nat) : Int)) = true := by simp
        go_wp2_with fail
        refine HW4.out.mono ?_
        rintro e wf ⟨rfl, hg⟩
        have HGF := Lib.hid (H4.out.grow.trans (HGE.out.trans hg))
        clear hg HGE HW4
        have hq2 : ((HH : Int) + 1 == ((HH + 1 : Nat) : Int)) = true := by simp
        go_wp2
        go_ret
        exact ⟨rfl, HGF.out⟩


set_option maxRecDepth 100000 in
theorem lifted (os : Os) (started : os.Started) (H : Type) (enc : TypeId × Value → H) :
    ReturnsInHanded {} Try.checked os 6 .any (Rows.treeSpansSpec.pre6 enc Try.prog Try.f6 Rows.treeSpansRow.domain false) (Rows.treeSpansSpec.post enc Try.prog Try.f6 false true false false) := by
  refine returnsInHanded_of_change (C := Try.checked) own started (by kernel_rfl) Try.func6
    (ChangeSpec.witness6 (enc := enc) (C := Try.checked) false ⟨#[], #[.agg #[.slice none 0 0, .slice none 0 0, .slice none 0 0], .int .i64 0, .slice none 0 0], []⟩ 8 (by kernel_rfl) (by kernel_rfl) (by kernel_rfl) (by kernel_rfl)) ?_
  intro W base args ds gs before hval0 hW hcnd _
  have hval : ∀ (j : Nat) t v, Try.f6.params[j]? = some t → args[j]? = some v → Value.okWide Try.prog W .any base t v := hval0
  have hW' := hW
  obtain ⟨p, q, hA0, hV, rfl, hfz, hnd⟩ := hW
  have hA : DataW.TrodAll enc Try.prog W 0 (fun _ => true) true Try.f6.params.toList args.toList ds p := hA0
  rw [Try.params6] at hA hval
  obtain ⟨v0, vs0, d0, ds0, p0, q0, hargs, rfl, rfl, h0, r0⟩ := trodAll_cons hA
  obtain ⟨v1, vs1, d1, ds1, p1, q1, rfl, rfl, rfl, h1, r1⟩ := trodAll_cons r0
  obtain ⟨v2, vs2, d2, ds2, p2, q2, rfl, rfl, rfl, h2, r2⟩ := trodAll_cons r1
  obtain ⟨rfl, rfl, rfl⟩ := trodAll_nil r2
  obtain rfl : args = #[v0, v1, v2] := by cases args; simp_all
  obtain ⟨rfl, rfl⟩ := trodVars_none hV
  have k0 := h0
  have lt0 : ∀ x ∈ p0, x.block < W.heap.size := by obtain ⟨m, hm⟩ := k0; exact DataW.trod_lt m _ _ _ hm
  obtain ⟨g, rfl, hgr⟩ := gram_of_trod (hval 0 25 v0 rfl rfl) h0
  obtain ⟨a1, rfl, rfl, rfl, w1⟩ := open_int Try.underlying3 (hval 1 3 v1 rfl rfl) h1
  have k2 := h2
  have lt2 : ∀ x ∈ p2, x.block < W.heap.size := by obtain ⟨m, hm⟩ := k2; exact DataW.trod_lt m _ _ _ hm
  obtain ⟨a2, xs2, cap2, rfl, hi2, hl2, hm2, hn2⟩ := ints_of_val (hval 2 26 v2 rfl rfl) h2
  clear hA0 hval0
  refine (walk hgr a1 hi2 hl2 hm2 hn2).mono fun e W' ⟨he, bel⟩ => ?_
  subst he
  exact ⟨_, rfl, _, _, _, [], _, [], hW', trodAll_mk1 (shut_bool Try.underlying4 _), (trodAll_cons_mk (Below.trod laidOut (by kernel_rfl) (of_decide_eq_true (by kernel_rfl)) k0 bel lt0) (trodAll_cons_mk (shut_int Try.underlying3 w1) (trodAll_cons_mk (Below.trod laidOut (by kernel_rfl) (of_decide_eq_true (by kernel_rfl)) k2 bel lt2) trodAll_mk0))), rfl, bel.frame _, fun h => by cases h⟩

theorem over : Rows.treeSpansRow.holds Try.pinned (OpenSpec.ofChange Rows.treeSpansSpec) :=
  OpenClaim.holds_of_wide 6 Try.f6 rfl rfl rfl rfl rfl rfl rfl ⟨rfl, rfl, rfl, rfl, rfl⟩ rfl rfl rfl rfl rfl (by kernel_rfl) Try.func6 (by kernel_rfl)
    (of_decide_eq_true (by kernel_rfl)) (by unfold Func.isWrapper; first | (rw [if_pos (by decide +kernel)]; kernel_rfl) | (rw [if_neg (by decide +kernel)]; exact ⟨rfl, rfl⟩))
    (fun os started H enc _ => lifted os started H enc)

theorem proved : Rows.TreeSpansSaid := over
#print axioms proved
end Go.Proofs.Ytfiafmhnmafnbaa.treeSpans
