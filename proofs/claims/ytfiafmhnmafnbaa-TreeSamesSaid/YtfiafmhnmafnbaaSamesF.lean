/-
  The walk of TreeSames where the two derivations differ.
-/
import Derived.Test.YtfiafmhnmafnbaaBulk
import Derived.Test.YtfiafmhnmafnbaaTwo
import Derived.Deep.RegionLaw
import Derived.JoinedCond
import Derived.WalkKit
import Derived.ProofKit
import Derived.OpenShut
import Derived.ShutString
import Derived.ChangeOld
import Derived.Below
namespace Go.Proofs.Ytfiafmhnmafnbaa.treeSames
open Go.ChangeShapes Go.WideShapes Go.ChangeAt Go.RowKit
set_option linter.unusedVariables false

set_option maxRecDepth 100000 in
set_option maxHeartbeats 60000000 in
theorem walk_ne {w : World} {g : GramD} (hg : GramAt w w.heap.size g) (hbr : Brief g) (hwf : ∀ i (h : i < g.rules.length), ∀ x ∈ g.rules[i].right, (Lit.int .i64 x).wf = true) (v : Int)
    {a1 : Option Addr} {cap1 : Nat} {xa : List Int} (hr1 : Ints w w.heap.size a1 xa) (hc1 : xa.length ≤ cap1) (hm1 : cap1 ≤ maxLen) {a2 : Option Addr} {cap2 : Nat} {xb : List Int} (hr2 : Ints w w.heap.size a2 xb) (hc2 : xb.length ≤ cap2) (hm2 : cap2 ≤ maxLen) (hxy : decide (xa = xb) = false) :
    Calls Try.prog 4 #[GV g, .int .i64 v, .slice a1 xa.length cap1, .slice a2 xb.length cap2] w fun e w' => e = .returned (.bool true) ∧ Below w.heap.size w w' := by
  have HR1 := Lib.hid (show Lst w a1 xa from hr1)
  have HR2 := Lib.hid (show Lst w a2 xb from hr2)
  clear hr1 hr2
  have HS := Lib.hid (box_start hg)
  unfold GV
  go_enter Try.func4, Try.ntmps4
  go_wp2_with fail
  refine (alive_any _).mono ?_
  rintro e w1 ⟨rfl, hb⟩
  have H1 := Lib.hid (HS.out.go hb)
  have g0 := H1.out.c0
  have g1 := H1.out.c1
  have g2 := H1.out.c2
  clear hb HS
  go_wp2_with fail
  refine (few_bx H1.out).mono ?_
  rintro e w2 ⟨b, rfl, hb, hsm⟩
  have H2 := Lib.hid (H1.out.go hb)
  clear hb g0 g1 g2 H1
  cases b
  · go_wp2
    go_ret
    exact ⟨rfl, H2.out.grow⟩
  have HSM := Lib.hid (hsm rfl)
  clear hsm
  by_cases hlong_xa : (60 : Int) < xa.length
  · go_wp2
    go_ret
    exact ⟨rfl, H2.out.grow⟩
  by_cases hlong_xb : (60 : Int) < xb.length
  · go_wp2
    go_ret
    exact ⟨rfl, H2.out.grow⟩
  have g0 := H2.out.c0
  have g1 := H2.out.c1
  have g2 := H2.out.c2
  go_wp2_with fail
  refine (right_bx H2.out).mono ?_
  rintro e w3 ⟨b, rfl, hb, hok⟩
  have H3 := Lib.hid (H2.out.go hb)
  clear hb g0 g1 g2 H2
  cases b
  · go_wp2
    go_ret
    exact ⟨rfl, H3.out.grow⟩
  have HOK := Lib.hid (hok rfl)
  clear hok
  have g0 := H3.out.c0
  have g1 := H3.out.c1
  have g2 := H3.out.c2
  by_cases hv0 : v < 0
  · go_wp2
    go_ret
    exact ⟨rfl, H3.out.grow⟩
  by_cases hv1 : (g.vars.length : Int) ≤ v
  · go_wp2
    go_ret
    exact ⟨rfl, H3.out.grow⟩
  go_wp2_with fail
  refine (of_bx H3.out HSM.out HOK.out (HR1.out.go H3.out.grow) hc1 hm1 (by omega) (by omega)).mono ?_
  rintro e w4 ⟨hb, h4⟩
  have H4 := Lib.hid (H3.out.go hb)
  have hs4 := hb.size
  clear hb
  rcases h4 with ⟨hz, tx, he, ht1, ht2, ht3, ht4, ht5, ht6⟩ | ⟨hz, he⟩
  rotate_left
  · subst he
    generalize yieldS g [v] xa = Y at *
    have hz' : (Y.2 != 0) = true := by simp [hz]
    clear hz
    have g0 := H4.out.c0
    have g1 := H4.out.c1
    have g2 := H4.out.c2
    go_wp2_with fail
    refine (of_bx H4.out HSM.out HOK.out (HR2.out.go H4.out.grow) hc2 hm2 (by omega) (by omega)).mono ?_
    rintro e w5 ⟨hb, ⟨hzz, t, he, -⟩ | ⟨hzz, he⟩⟩
    all_goals
      subst he
      have H5 := Lib.hid (H4.out.go hb)
      clear hb hzz
      try unfold MT.ptr
      go_wp2
      go_ret
      exact ⟨rfl, H5.out.grow⟩
  unfold MT.ptr at he
  subst he
  have HX := Lib.hid (And.intro ht1 (And.intro ht2 ht4))
  have HTX := Lib.hid (show Tre w3.heap.size w4 tx from ht5)
  clear hz ht1 ht2 ht3 ht4 ht5 ht6
  have g0 := H4.out.c0
  have g1 := H4.out.c1
  have g2 := H4.out.c2
  go_wp2_with fail
  refine (of_bx H4.out HSM.out HOK.out (HR2.out.go H4.out.grow) hc2 hm2 (by omega) (by omega)).mono ?_
  rintro e w5 ⟨hb, h5⟩
  have H5 := Lib.hid (H4.out.go hb)
  have HTX5 := Lib.hid (HTX.out.go hb)
  clear hb g0 g1 g2 HTX
  rcases h5 with ⟨hz, ty, he, ht1, ht2, ht3, ht4, ht5, ht6⟩ | ⟨hz, he⟩
  rotate_left
  · subst he
    generalize yieldS g [v] xb = Y at *
    have hz' : (Y.2 != 0) = true := by simp [hz]
    clear hz
    go_wp2
    go_ret
    exact ⟨rfl, H5.out.grow⟩
  unfold MT.ptr at he
  subst he
  have HY := Lib.hid (And.intro ht1 (And.intro ht2 ht4))
  have HTY5 := Lib.hid (show Tre w4.heap.size w5 ty from ht5)
  have hsx : tx.pt.size ≤ 1000 := by
    have := valid_size HSM.out _ HX.out.2.2
    rw [HX.out.2.1] at this
    omega
  have hsy : ty.pt.size ≤ 1000 := by
    have := valid_size HSM.out _ ht4
    rw [ht2] at this
    omega
  have HSX := Lib.hid (show tx.pt.size ≤ 10000 by omega)
  have HSY := Lib.hid (show ty.pt.size ≤ 10000 by omega)
  have HLX := Lib.hid (leaves_size tx.pt).2
  have HLY := Lib.hid (leaves_size ty.pt).2
  clear hz ht1 ht2 ht3 ht4 ht5 ht6 H3 H4
  have HQ := Lib.hid (same_of HX.out.2.2 HY.out.2.2 (HX.out.1.trans HY.out.1.symm))
  rw [HX.out.2.1, HY.out.2.1] at HQ
  have HS := Lib.hid (same_bx (cap := cap1) (cb := cap2) (HR1.out.go H5.out.grow) (HR2.out.go H5.out.grow) (by omega) (by omega))
  have hlas : xa.length ≤ 60 := by omega
  have hlbs : xb.length ≤ 60 := by omega
  generalize hq : decide (xa = xb) = q at *
  have HQE := Lib.hid hq
  clear hq
  go_wp2_with fail
  refine HS.out.mono ?_
  rintro e w6 ⟨rfl, hb⟩
  have H6 := Lib.hid (H5.out.go hb)
  have HTX6 := Lib.hid (HTX5.out.go hb)
  have HTY6 := Lib.hid (HTY5.out.go hb)
  clear hb H5 HTX5 HTY5 HS
  have hG0 : Grow w6 w6.drew := grow_drew (Grow.refl _)
  have HCC : Hid (∀ W, Grow w6 W → Box w g W) := Lib.hid fun W h => H6.out.go h
  have HS1 : ∀ W, Grow w6 W → Hid (Calls Try.prog 21 #[.pointer (some ⟨tx.blk, 0, none⟩), .pointer (some ⟨ty.blk, 0, none⟩)] W fun e w' => e = .returned (.bool q) ∧ Grow W w') := fun W h => by
    have := sameN_bx (HTX6.out.go h) (HTY6.out.go h) HSX.out HSY.out
    rw [HQ.out.1] at this
    exact Lib.hid this
  have HS2 : ∀ W, Grow w6 W → Hid (Calls Try.prog 21 #[.pointer (some ⟨ty.blk, 0, none⟩), .pointer (some ⟨tx.blk, 0, none⟩)] W fun e w' => e = .returned (.bool q) ∧ Grow W w') := fun W h => by
    have := sameN_bx (HTY6.out.go h) (HTX6.out.go h) HSY.out HSX.out
    rw [HQ.out.2] at this
    exact Lib.hid this
  have HRx : ∀ W, Grow w6 W → Hid (Calls Try.prog 19 #[.pointer (some ⟨tx.blk, 0, none⟩)] W (ResL W tx.pt.rules)) := fun W h => Lib.hid (rules_bx (HTX6.out.go h) HSX.out)
  have HRy : ∀ W, Grow w6 W → Hid (Calls Try.prog 19 #[.pointer (some ⟨ty.blk, 0, none⟩)] W (ResL W ty.pt.rules)) := fun W h => Lib.hid (rules_bx (HTY6.out.go h) HSY.out)
  have HS17 : ∀ (W : World) (a : Option Addr) (c : Nat) (b : Option Addr) (d : Nat), Lst W a tx.pt.rules → Lst W b ty.pt.rules → Hid (Calls Try.prog 17 #[.slice a tx.pt.rules.length c, .slice b ty.pt.rules.length d] W fun e w' => e = .returned (.bool q) ∧ Grow W w') := fun W a c b d h1 h2 => by
    have := same_bx (cap := c) (cb := d) h1 h2 (by rw [HX.out.2.1]; omega) (by rw [HY.out.2.1]; omega)
    rw [HX.out.2.1, HY.out.2.1, HQE.out] at this
    rw [HX.out.2.1, HY.out.2.1]
    exact Lib.hid this
  have HNx := Lib.hid (valid_named HOK.out hwf tx.pt HX.out.2.2 (by rw [HX.out.1]; exact ⟨by omega, fun h => by omega⟩))
  have HNy := Lib.hid (valid_named HOK.out hwf ty.pt HY.out.2.2 (by rw [HY.out.1]; exact ⟨by omega, fun h => by omega⟩))
  have HTx : ∀ W, Grow w6 W → Hid (Calls Try.prog 14 #[.pointer (some ⟨tx.blk, 0, none⟩), .agg #[.slice g.ta g.terms.length g.tc, .slice g.va g.vars.length g.vc, .slice g.ra g.rules.length g.rc]] W fun e w' => e = .returned (.string (strOf (tx.pt.text g))) ∧ Grow W w') := fun W h => Lib.hid (text_bx (HCC.out W h) hbr (HTX6.out.go h) HNx.out HSX.out)
  have HTy : ∀ W, Grow w6 W → Hid (Calls Try.prog 14 #[.pointer (some ⟨ty.blk, 0, none⟩), .agg #[.slice g.ta g.terms.length g.tc, .slice g.va g.vars.length g.vc, .slice g.ra g.rules.length g.rc]] W fun e w' => e = .returned (.string (strOf (ty.pt.text g))) ∧ Grow W w') := fun W h => Lib.hid (text_bx (HCC.out W h) hbr (HTY6.out.go h) HNy.out HSY.out)
  have HXY := Lib.hid (fun hq : q = true => (tree_unique tx.pt ty.pt [] [] HX.out.2.2 HY.out.2.2 (HX.out.1.trans HY.out.1.symm) (by
    rw [HX.out.2.1, HY.out.2.1]
    have := HQE.out
    rw [hq] at this
    rw [of_decide_eq_true this])).1)
  have g0 := H6.out.c0
  have g1 := H6.out.c1
  have g2 := H6.out.c2
  have HGW := Lib.hid H6.out.grow
  clear HX HY HTX6 HTY6 HSX HSY HLX HLY HQ HR1 HR2 hsx hsy hlas hlbs HNx HNy H6 HSM HOK hwf hbr hg
  cases q
  · have hff : (false == false) = true := rfl
    generalize tx.pt.rules = RX at *
    generalize ty.pt.rules = RY at *
    clear HTx HTy HXY
    generalize tx.blk = bx at *
    generalize ty.blk = bY at *
    go_wp2
    refine wp_region_any (by kernel_rfl) ?_
    change wpAny _ _ _ _ _ _ _ (World.drew _)
    refine wpAny_take (i := 0) (v := ?_) rfl (by kernel_rfl) (by kernel_rfl) (by kernel_rfl) (fun _ _ _ h => h) (Or.inl ⟨by rfl, ?_⟩) ?_
    rotate_left
    · intro w; go_simp; (try with_reducible rfl)
    refine wpAny_take (i := 1) (v := ?_) rfl (by kernel_rfl) (by kernel_rfl) (by kernel_rfl) (fun _ _ _ h => h) (Or.inl ⟨by rfl, ?_⟩) ?_
    rotate_left
    · intro w; go_simp; (try with_reducible rfl)
    refine wpAny_take (i := 3) (v := ?_) rfl (by kernel_rfl) (by kernel_rfl) (by kernel_rfl) (fun _ _ _ h => h) (Or.inl ⟨by rfl, ?_⟩) ?_
    rotate_left
    · intro w; go_simp; (try with_reducible rfl)
    refine wpAny_ready (rs := [2]) (by kernel_rfl) (by simp) ?_
    refine AllReady.cons rfl (fun K hK => ?_) ?_
    · go_simp; go_at_call 21
      with_reducible refine Calls.mono (HS1 _ ?_).out ?_
      · assumption
      rintro e wa ⟨rfl, hga⟩
      have hGa := Grow.trans (by assumption) hga
      refine hK _ _ ?_
      clear hK K
      refine wpAny_take (i := 4) (v := ?_) rfl (by kernel_rfl) (by kernel_rfl) (by kernel_rfl) (fun _ _ _ h => h) (Or.inl ⟨by rfl, ?_⟩) ?_
      rotate_left
      · intro w; go_simp; (try with_reducible rfl)
      refine wpAny_take (i := 5) (v := ?_) rfl (by kernel_rfl) (by kernel_rfl) (by kernel_rfl) (fun _ _ _ h => h) (Or.inl ⟨by rfl, ?_⟩) ?_
      rotate_left
      · intro w; go_simp; (try with_reducible rfl)
      refine wpAny_take (i := 6) (v := ?_) rfl (by kernel_rfl) (by kernel_rfl) (by kernel_rfl) (fun _ _ _ h => h) (Or.inl ⟨by rfl, ?_⟩) ?_
      rotate_left
      · intro w; go_simp; (try with_reducible rfl)
      refine wpAny_take (i := 7) (v := ?_) rfl (by kernel_rfl) (by kernel_rfl) (by kernel_rfl) (fun _ _ _ h => h) (Or.inl ⟨by rfl, ?_⟩) ?_
      rotate_left
      · intro w; go_simp; (try with_reducible rfl)
      refine wpAny_take (i := 9) (v := ?_) rfl (by kernel_rfl) (by kernel_rfl) (by kernel_rfl) (fun _ _ _ h => h) (Or.inl ⟨by rfl, ?_⟩) ?_
      rotate_left
      · intro w; go_simp; (try with_reducible rfl)
      refine wpAny_ready (rs := [8]) (by kernel_rfl) (by simp) ?_
      refine AllReady.cons rfl (fun K hK => ?_) ?_
      · go_simp; go_at_call 21
        with_reducible refine Calls.mono (HS2 _ ?_).out ?_
        · assumption
        rintro e wb ⟨rfl, hgb⟩
        have hGb := Grow.trans (by assumption) hgb
        refine hK _ _ ?_
        clear hK K
        refine wpAny_take (i := 10) (v := ?_) rfl (by kernel_rfl) (by kernel_rfl) (by kernel_rfl) (fun _ _ _ h => h) (Or.inl ⟨by rfl, ?_⟩) ?_
        rotate_left
        · intro w; go_simp; (try with_reducible rfl)
        refine wpAny_take (i := 11) (v := ?_) rfl (by kernel_rfl) (by kernel_rfl) (by kernel_rfl) (fun _ _ _ h => h) (Or.inl ⟨by rfl, ?_⟩) ?_
        rotate_left
        · intro w; go_simp; (try with_reducible rfl)
        refine wpAny_take (i := 12) (v := ?_) rfl (by kernel_rfl) (by kernel_rfl) (by kernel_rfl) (fun _ _ _ h => h) (Or.inl ⟨by rfl, ?_⟩) ?_
        rotate_left
        · intro w; go_simp; (try with_reducible rfl)
        refine wpAny_take (i := 13) (v := ?_) rfl (by kernel_rfl) (by kernel_rfl) (by kernel_rfl) (fun _ _ _ h => h) (Or.inl ⟨by rfl, ?_⟩) ?_
        rotate_left
        · intro w; go_simp; (try with_reducible rfl)
        refine wpAny_take (i := 15) (v := ?_) rfl (by kernel_rfl) (by kernel_rfl) (by kernel_rfl) (fun _ _ _ h => h) (Or.inl ⟨by rfl, ?_⟩) ?_
        rotate_left
        · intro w; go_simp; (try with_reducible rfl)
        refine wpAny_take (i := 18) (v := ?_) rfl (by kernel_rfl) (by kernel_rfl) (by kernel_rfl) (fun _ _ _ h => h) (Or.inl ⟨by rfl, ?_⟩) ?_
        rotate_left
        · intro w; go_simp; (try with_reducible rfl)
        refine wpAny_ready (rs := [14]) (by kernel_rfl) (by simp) ?_
        refine AllReady.cons rfl (fun K hK => ?_) ?_
        · go_simp; go_at_call 19
          with_reducible refine Calls.mono (HRx _ ?_).out ?_
          · assumption
          rintro e wc ⟨ac, cc, rfl, hlc, hgc, -, -, -⟩
          have hGc := Grow.trans (by assumption) hgc
          refine hK _ _ ?_
          clear hK K
          refine wpAny_ready (rs := [16]) (by kernel_rfl) (by simp) ?_
          refine AllReady.cons rfl (fun K hK => ?_) ?_
          · go_simp; go_at_call 19
            with_reducible refine Calls.mono (HRy _ ?_).out ?_
            · assumption
            rintro e wd ⟨ad, cd, rfl, hld, hgd, -, -, -⟩
            have hGd := Grow.trans (by assumption) hgd
            have hlc2 := hlc.go hgd
            refine hK _ _ ?_
            clear hK K
            refine wpAny_ready (rs := [17]) (by kernel_rfl) (by simp) ?_
            refine AllReady.cons rfl (fun K hK => ?_) ?_
            · go_simp; go_at_call 17
              with_reducible refine Calls.mono (HS17 _ _ _ _ _ ?_ ?_).out ?_
              · assumption
              · assumption
              rintro e we ⟨rfl, hge⟩
              have hGe := Grow.trans (by assumption) hge
              have g0 := (HCC.out _ hGe).c0
              have g1 := (HCC.out _ hGe).c1
              have g2 := (HCC.out _ hGe).c2
              refine hK _ _ ?_
              clear hK K
              refine wpAny_take (i := 19) (v := ?_) rfl (by kernel_rfl) (by kernel_rfl) (by kernel_rfl) (fun _ _ _ h => h) (Or.inl ⟨by rfl, ?_⟩) ?_
              rotate_left
              · intro w; go_simp; (try with_reducible rfl)
              refine wpAny_take (i := 20) (v := ?_) rfl (by kernel_rfl) (by kernel_rfl) (by kernel_rfl) (fun _ _ _ h => h) (Or.inl ⟨by rfl, ?_⟩) ?_
              rotate_left
              · intro w; go_simp; (try with_reducible rfl)
              refine wpAny_take (i := 21) (v := ?_) rfl (by kernel_rfl) (by kernel_rfl) (by kernel_rfl) (fun _ _ _ h => h) (Or.inl ⟨by rfl, ?_⟩) ?_
              rotate_left
              · intro w; go_simp; (try with_reducible rfl)
              refine wpAny_take (i := 22) (v := ?_) rfl (by kernel_rfl) (by kernel_rfl) (by kernel_rfl) (fun _ _ _ h => h) (Or.inl ⟨by rfl, ?_⟩) ?_
              rotate_left
              · intro w; go_simp; (try with_reducible rfl)
              refine wpAny_take (i := 23) (v := ?_) rfl (by kernel_rfl) (by kernel_rfl) (by kernel_rfl) (fun _ _ _ h => h) (Or.inl ⟨by rfl, ?_⟩) ?_
              rotate_left
              · intro w; go_simp; (try with_reducible rfl)
              refine wpAny_take (i := 24) (v := ?_) rfl (by kernel_rfl) (by kernel_rfl) (by kernel_rfl) (fun _ _ _ h => h) (Or.inl ⟨by rfl, ?_⟩) ?_
              rotate_left
              · intro w; go_simp; (try with_reducible rfl)
              refine wpAny_take (i := 25) (v := undef) rfl (by kernel_rfl) (by kernel_rfl) (by kernel_rfl) (fun _ _ _ h => h) (Or.inr ⟨by rfl, rfl⟩) ?_
              refine wpAny_take (i := 28) (v := undef) rfl (by kernel_rfl) (by kernel_rfl) (by kernel_rfl) (fun _ _ _ h => h) (Or.inr ⟨by rfl, rfl⟩) ?_
              refine wpAny_ready (rs := [26, 29]) (by kernel_rfl) (by simp) ?_
              refine AllReady.cons rfl (fun K hK => ?_) ?_
              · go_simp
                refine hK _ _ ?_
                clear hK K
                refine wpAny_ready (rs := [27, 29]) (by kernel_rfl) (by simp) ?_
                refine AllReady.cons rfl (fun K hK => ?_) ?_
                · go_simp
                  refine hK _ _ ?_
                  clear hK K
                  refine wpAny_ready (rs := [29]) (by kernel_rfl) (by simp) ?_
                  refine AllReady.cons rfl (fun K hK => ?_) ?_
                  · go_simp
                    refine hK _ _ ?_
                    clear hK K
                    refine wpAny_ready (rs := [30]) (by kernel_rfl) (by simp) ?_
                    refine AllReady.cons rfl (fun K hK => ?_) ?_
                    · go_simp
                      refine hK _ _ ?_
                      clear hK K
                      refine wpAny_take (i := 31) (v := undef) rfl (by kernel_rfl) (by kernel_rfl) (by kernel_rfl) (fun _ _ _ h => h) (Or.inr ⟨by rfl, rfl⟩) ?_
                      refine wpAny_take (i := 32) (v := ?_) rfl (by kernel_rfl) (by kernel_rfl) (by kernel_rfl) (fun _ _ _ h => h) (Or.inl ⟨by rfl, ?_⟩) ?_
                      rotate_left
                      · intro w; go_simp; (try with_reducible rfl)
                      refine wpAny_take (i := 33) (v := ?_) rfl (by kernel_rfl) (by kernel_rfl) (by kernel_rfl) (fun _ _ _ h => h) (Or.inl ⟨by rfl, ?_⟩) ?_
                      rotate_left
                      · intro w; go_simp; (try with_reducible rfl)
                      refine wpAny_take (i := 34) (v := ?_) rfl (by kernel_rfl) (by kernel_rfl) (by kernel_rfl) (fun _ _ _ h => h) (Or.inl ⟨by rfl, ?_⟩) ?_
                      rotate_left
                      · intro w; go_simp; (try with_reducible rfl)
                      refine wpAny_done (by kernel_rfl) ?_ _
                      go_wp2
                      go_ret
                      exact ⟨rfl, HGW.out.trans (by assumption)⟩
                    exact AllReady.nil
                  exact AllReady.nil
                refine AllReady.cons rfl (fun K hK => ?_) ?_
                · go_simp
                  refine hK _ _ ?_
                  clear hK K
                  refine wpAny_ready (rs := [27]) (by kernel_rfl) (by simp) ?_
                  refine AllReady.cons rfl (fun K hK => ?_) ?_
                  · go_simp
                    refine hK _ _ ?_
                    clear hK K
                    refine wpAny_ready (rs := [30]) (by kernel_rfl) (by simp) ?_
                    refine AllReady.cons rfl (fun K hK => ?_) ?_
                    · go_simp
                      refine hK _ _ ?_
                      clear hK K
                      refine wpAny_take (i := 31) (v := undef) rfl (by kernel_rfl) (by kernel_rfl) (by kernel_rfl) (fun _ _ _ h => h) (Or.inr ⟨by rfl, rfl⟩) ?_
                      refine wpAny_take (i := 32) (v := ?_) rfl (by kernel_rfl) (by kernel_rfl) (by kernel_rfl) (fun _ _ _ h => h) (Or.inl ⟨by rfl, ?_⟩) ?_
                      rotate_left
                      · intro w; go_simp; (try with_reducible rfl)
                      refine wpAny_take (i := 33) (v := ?_) rfl (by kernel_rfl) (by kernel_rfl) (by kernel_rfl) (fun _ _ _ h => h) (Or.inl ⟨by rfl, ?_⟩) ?_
                      rotate_left
                      · intro w; go_simp; (try with_reducible rfl)
                      refine wpAny_take (i := 34) (v := ?_) rfl (by kernel_rfl) (by kernel_rfl) (by kernel_rfl) (fun _ _ _ h => h) (Or.inl ⟨by rfl, ?_⟩) ?_
                      rotate_left
                      · intro w; go_simp; (try with_reducible rfl)
                      refine wpAny_done (by kernel_rfl) ?_ _
                      go_wp2
                      go_ret
                      exact ⟨rfl, HGW.out.trans (by assumption)⟩
                    exact AllReady.nil
                  exact AllReady.nil
                exact AllReady.nil
              refine AllReady.cons rfl (fun K hK => ?_) ?_
              · go_simp
                refine hK _ _ ?_
                clear hK K
                refine wpAny_ready (rs := [26]) (by kernel_rfl) (by simp) ?_
                refine AllReady.cons rfl (fun K hK => ?_) ?_
                · go_simp
                  refine hK _ _ ?_
                  clear hK K
                  refine wpAny_ready (rs := [27]) (by kernel_rfl) (by simp) ?_
                  refine AllReady.cons rfl (fun K hK => ?_) ?_
                  · go_simp
                    refine hK _ _ ?_
                    clear hK K
                    refine wpAny_ready (rs := [30]) (by kernel_rfl) (by simp) ?_
                    refine AllReady.cons rfl (fun K hK => ?_) ?_
                    · go_simp
                      refine hK _ _ ?_
                      clear hK K
                      refine wpAny_take (i := 31) (v := undef) rfl (by kernel_rfl) (by kernel_rfl) (by kernel_rfl) (fun _ _ _ h => h) (Or.inr ⟨by rfl, rfl⟩) ?_
                      refine wpAny_take (i := 32) (v := ?_) rfl (by kernel_rfl) (by kernel_rfl) (by kernel_rfl) (fun _ _ _ h => h) (Or.inl ⟨by rfl, ?_⟩) ?_
                      rotate_left
                      · intro w; go_simp; (try with_reducible rfl)
                      refine wpAny_take (i := 33) (v := ?_) rfl (by kernel_rfl) (by kernel_rfl) (by kernel_rfl) (fun _ _ _ h => h) (Or.inl ⟨by rfl, ?_⟩) ?_
                      rotate_left
                      · intro w; go_simp; (try with_reducible rfl)
                      refine wpAny_take (i := 34) (v := ?_) rfl (by kernel_rfl) (by kernel_rfl) (by kernel_rfl) (fun _ _ _ h => h) (Or.inl ⟨by rfl, ?_⟩) ?_
                      rotate_left
                      · intro w; go_simp; (try with_reducible rfl)
                      refine wpAny_done (by kernel_rfl) ?_ _
                      go_wp2
                      go_ret
                      exact ⟨rfl, HGW.out.trans (by assumption)⟩
                    exact AllReady.nil
                  exact AllReady.nil
                exact AllReady.nil
              exact AllReady.nil
            exact AllReady.nil
          exact AllReady.nil
        exact AllReady.nil
      exact AllReady.nil
    exact AllReady.nil
  · first
    | cases hxy
    | (have := hxy.symm.trans HQE.out; cases this)
end Go.Proofs.Ytfiafmhnmafnbaa.treeSames
