/-
  StrsSets answers true, and leaves its arguments as they were, for all words and every k. No conditions.
-/
import Derived.Test.YtoiinikbbkmjoaaRef3
import Derived.Test.YtoiinikbbkmjoaaRows
import Derived.WalkKit
import Derived.ProofKit
import Derived.OpenShut
import Derived.ShutString
import Derived.ChangeOld
import Derived.Below
namespace Go.Proofs.Ytoiinikbbkmjoaa.strsSets
open Go.ChangeShapes Go.WideShapes Go.ChangeAt Go.RowKit
set_option linter.unusedVariables false

theorem own : ownKnob Try.prog.godebug = none := by kernel_rfl
theorem laidOut : laidOutB Try.prog = true := by kernel_rfl
theorem few_short {L : List (List Int)} (h : Few L) : ∀ y ∈ ofL L, y.length ≤ 20 := fun y hy => h.2 y (mem_ofL.1 hy)
theorem sht {L : List (List Int)} (h : ∀ y ∈ L, y.length ≤ 20) : Short L := fun y hy => by have := h y hy; omega
theorem up5 {L : List (List Int)} (h : ∀ y ∈ L, y.length ≤ 20) : ∀ y ∈ L, y.length ≤ 5000 := fun y hy => by have := h y hy; omega
theorem two_apart {w w1 w2 w3 : World} {xb yb : Nat} {X Y : List (List Int)} (g1 : Grow w w1) (h1 : SetB w1.heap.size xb X w2) (g2 : Grow w1 w2) (h2 : SetB w2.heap.size yb Y w3) (g3 : Grow w2 w3) :
    ∃ slv svs tlv tvs, SetAt xb slv svs X w3 ∧ SetAt yb tlv tvs Y w3 ∧ yb ≠ xb ∧ (∀ k, slv.ownBlock = some k → tlv.ownBlock ≠ some k) ∧ (∀ k, k < w.heap.size → ¬ (k = xb ∨ slv.ownBlock = some k)) ∧ (∀ k, w3.heap.size ≤ k → ¬ (k = xb ∨ slv.ownBlock = some k)) := by
  obtain ⟨slv, svs, hs, -, hx, ho⟩ := h1
  obtain ⟨tlv, tvs, ht, -, hy, hp⟩ := h2
  have l1 := lt_of_block hs.blk
  have e1 := g1.size
  have e3 := g3.size
  refine ⟨slv, svs, tlv, tvs, hs.grow g3, ht, by omega, fun k h1 h2 => ?_, fun k hk h => ?_, fun k hk h => ?_⟩
  · have := (row_ge hs.row h1).1
    have := hp k h2
    omega
  · rcases h with h | h
    · omega
    · have := ho k h; omega
  · rcases h with h | h
    · omega
    · have := (row_ge hs.row h).1; omega
theorem times_short {X Y : List (List Int)} {k : Int} (hX : ∀ y ∈ X, y.length ≤ 20) (hY : ∀ y ∈ Y, y.length ≤ 20) : Short (timesL X Y k) :=
  short_ofL (timesP_short (up5 hX) (up5 hY))
set_option maxRecDepth 100000 in
set_option maxHeartbeats 16000000 in
theorem walk {w : World} {a0 : Option Addr} {cap0 : Nat} {A : List (List Int)} (hi0 : Lsts w a0 A) (hl0 : A.length ≤ cap0) (hm0 : cap0 ≤ maxLen) (hn0 : a0 = none → cap0 = 0)
    {a1 : Option Addr} {cap1 : Nat} {B : List (List Int)} (hi1 : Lsts w a1 B) (hl1 : B.length ≤ cap1) (hm1 : cap1 ≤ maxLen) (hn1 : a1 = none → cap1 = 0)
    {a2 : Option Addr} {cap2 : Nat} {x : List Int} (hi2 : Lst w a2 x) (hl2 : x.length ≤ cap2) (hm2 : cap2 ≤ maxLen) (hn2 : a2 = none → cap2 = 0) (k : Int) (hk : -9223372036854775808 ≤ k ∧ k ≤ 9223372036854775807) :
    Calls Try.prog 6 #[.slice a0 A.length cap0, .slice a1 B.length cap1, .slice a2 x.length cap2, .int .i64 k] w fun e w' => e = .returned (.bool true) ∧ Below w.heap.size w w' := by
  have HF0 := Lib.hid hi0
  have HF1 := Lib.hid hi1
  have HF2 := Lib.hid hi2
  simp only [maxLen] at hm0 hm1 hm2
  clear hi0 hi1 hi2
  go_enter Try.func6, Try.ntmps6
  go_wp2_with fail
  refine (alive_any _).mono ?_
  rintro e w1 ⟨rfl, hb⟩
  have H1 := Lib.hid hb
  clear hb
  go_wp2_with fail
  refine (few_any (HF0.out.go H1.out) (by omega)).mono ?_
  rintro e w1' ⟨b, rfl, rfl, hf⟩
  cases b
  · go_wp2
    go_ret
    exact ⟨rfl, H1.out⟩
  have HA := Lib.hid (hf rfl)
  clear hf
  go_wp2_with fail
  refine (few_any (HF1.out.go H1.out) (by omega)).mono ?_
  rintro e w1' ⟨b, rfl, rfl, hf⟩
  cases b
  · go_wp2
    go_ret
    exact ⟨rfl, H1.out⟩
  have HB := Lib.hid (hf rfl)
  clear hf
  by_cases h20 : (20 : Int) < x.length
  · go_wp2
    go_ret
    exact ⟨rfl, H1.out⟩
  have tA : Short A := fun y hy => by have := HA.out.2 y hy; omega
  have tB : Short B := fun y hy => by have := HB.out.2 y hy; omega
  have lA := ofL_len A
  have lB := ofL_len B
  have fA := HA.out.1
  have fB := HB.out.1
  have SA := Lib.hid (few_short HA.out)
  have SB := Lib.hid (few_short HB.out)
  have TA := Lib.hid tA
  go_wp2_with fail
  refine (of_any (HF0.out.go H1.out) (by omega) tA).mono ?_
  rintro e w2 ⟨xb, rfl, hx, hb⟩
  have H2 := Lib.hid (And.intro hx hb)
  clear hx hb
  go_wp2_with fail
  refine (of_any (HF1.out.go (H1.out.trans H2.out.2)) (by omega) tB).mono ?_
  rintro e w3 ⟨yb, rfl, hx, hb⟩
  obtain ⟨slv, svs, tlv, tvs, hs, ht, hne, hdis, hnew, hnew2⟩ := two_apart H1.out H2.out.1 H2.out.2 hx hb
  have H3 := Lib.hid (And.intro hs (And.intro ht ((H1.out.trans H2.out.2).trans hb)))
  have HD := Lib.hid (And.intro hne (And.intro hdis (And.intro hnew hnew2)))
  clear hs ht hne hdis hnew hnew2 hx hb H1 H2
  have HX := Lib.hid (ofL_sorted A)
  have HY := Lib.hid (ofL_sorted B)
  go_wp2_with fail
  refine (rof_any (HF0.out.go H3.out.2.2) tA (by omega)).mono ?_
  rintro e w4 ⟨xv, rfl, hx, hb⟩
  have H4 := Lib.hid (And.intro (H3.out.1.grow hb) (And.intro (H3.out.2.1.grow hb) (And.intro (H3.out.2.2.trans hb) (And.intro hx hb.size))))
  clear hx hb H3
  go_wp2_with fail
  refine (rof_any (HF1.out.go H4.out.2.2.1) tB (by omega)).mono ?_
  rintro e w5 ⟨yv, rfl, hx, hb⟩
  have H5 : Hid (Sts w w3 xb yb slv tlv svs tvs (ofL A) (ofL B) xv yv w5) := Lib.hid ⟨H4.out.1.grow hb, H4.out.2.1.grow hb, H4.out.2.2.2.1.go hb, hx.mono H4.out.2.2.2.2, H4.out.2.2.1.trans hb, Nat.le_trans H4.out.2.2.2.2 hb.size⟩
  clear hx hb H4 tA tB
  obtain ⟨xa, xc, rfl⟩ := H5.out.x.lit
  obtain ⟨ya, yc, rfl⟩ := H5.out.y.lit
  have HFX : Hid (ofL A = ofL A) := Lib.hid rfl
  generalize hXe : ofL A = X at *
  generalize ofL B = Y at *
  have xl : X.length ≤ 20 := by omega
  have yl : Y.length ≤ 20 := by omega
  have al : A.length ≤ 20 := by omega
  clear lA lB fA fB HFX
  have tX := sht SA.out
  have tY := sht SB.out
  have HTX := Lib.hid tX
  have HTY := Lib.hid tY
  go_wp2_with fail
  refine (all_e (H5.out.s.e HX.out) HTX.out (by omega)).mono ?_
  rintro e w6 ⟨va, vc, rfl, hls, hb⟩
  have H6 := Lib.hid (And.intro (H5.out.go hb) hls)
  clear hls hb H5
  go_wp2_with fail
  refine (alike_any H6.out.2 H6.out.1.x.l HTX.out HTX.out (by omega) (by omega)).mono ?_
  rintro e w7 ⟨rfl, hb⟩
  rw [decide_eq_true (rfl : X = X)]
  have H7 := Lib.hid (H6.out.1.go hb)
  clear hb H6
  go_wp2_with fail
  refine (len_e (H7.out.s.e HX.out)).mono ?_
  rintro e w7' ⟨rfl, rfl⟩
  generalize hpX : decide (x ∈ X) = pX at *
  generalize hpE : decide (X = Y) = pE at *
  cases pX <;> cases pE
  all_goals
    go_wp2_with fail
    refine (has_e (H7.out.s.e HX.out) (HF2.out.go H7.out.b) (by omega) HTX.out (by omega)).mono ?_
    rintro e w8 ⟨rfl, hb⟩
    rw [hpX]
    have H8 := Lib.hid (H7.out.go hb)
    clear hb H7
    go_wp2_with fail
    refine (rhas_any H8.out.x.l (HF2.out.go H8.out.b) HTX.out (by omega) (by omega)).mono ?_
    rintro e w9 ⟨rfl, m, hw⟩
    rw [hpX]
    have H9 := Lib.hid (H8.out.go (grow_drew _ m))
    rw [← hw] at H9
    clear hw H8
    go_wp2_with fail
    refine (same_e (H9.out.s.e HX.out) (H9.out.t.e HY.out) HTX.out HTY.out (by omega) (by omega)).mono ?_
    rintro e w10 ⟨rfl, hb⟩
    rw [hpE]
    have H10 := Lib.hid (H9.out.go hb)
    clear hb H9
    go_wp2_with fail
    refine (alike_any H10.out.x.l H10.out.y.l HTX.out HTY.out (by omega) (by omega)).mono ?_
    rintro e w11 ⟨rfl, hb⟩
    rw [hpE]
    have H11 := Lib.hid (H10.out.go hb)
    clear hb H10
    have HTT := Lib.hid (times_short (k := k) SA.out SB.out)
    have ntl : (timesL X Y k).length ≤ 400 := by
      have h1 := timesL_len X Y k
      have h2 : X.length * Y.length ≤ 20 * 20 := Nat.mul_le_mul xl yl
      omega
    go_wp2_with fail
    refine (times_e (H11.out.s.e HX.out) (H11.out.t.e HY.out) (up5 SA.out) (up5 SB.out) (by omega) (by omega) k hk).mono ?_
    rintro e w12 ⟨ob, rfl, hx, hb⟩
    have H12 := Lib.hid (And.intro (H11.out.go hb) hx)
    clear hx hb H11
    go_wp2_with fail
    refine (all_e H12.out.2 HTT.out (by omega)).mono ?_
    rintro e w13 ⟨va2, vc2, rfl, hls, hb⟩
    have H13 := Lib.hid (And.intro (H12.out.1.go hb) hls)
    clear hls hb H12
    go_wp2_with fail
    refine (rtimes_any H13.out.1.x.l H13.out.1.y.l (up5 SA.out) (up5 SB.out) (by omega) (by omega) k).mono ?_
    rintro e w14 ⟨tv, rfl, hx, hb⟩
    obtain ⟨ta, tc, rfl⟩ := hx.lit
    have H14 := Lib.hid (And.intro (H13.out.1.go hb) (And.intro (H13.out.2.go hb) hx.l))
    clear hx hb H13
    go_wp2_with fail
    refine (alike_any H14.out.2.1 H14.out.2.2 HTT.out HTT.out (by omega) (by omega)).mono ?_
    rintro e w15 ⟨rfl, hb⟩
    rw [decide_eq_true (rfl : timesL X Y k = timesL X Y k)]
    have H15 := Lib.hid (H14.out.1.go hb)
    clear hb H14 HTT ntl
    have HTM := Lib.hid (short_meet (A := X) (B := Y) HTX.out)
    have nml : (meetL X Y).length ≤ 20 := by
      rw [meetL_filter HY.out]
      exact Nat.le_trans (List.length_filter_le _ _) yl
    go_wp2_with fail
    refine (meet_e (H15.out.s.e HX.out) (H15.out.t.e HY.out) HTX.out HTY.out (by omega) (by omega)).mono ?_
    rintro e w16 ⟨ob2, rfl, hx, hb⟩
    have H16 := Lib.hid (And.intro (H15.out.go hb) hx)
    clear hx hb H15
    go_wp2_with fail
    refine (all_e H16.out.2 HTM.out (by omega)).mono ?_
    rintro e w17 ⟨va3, vc3, rfl, hls, hb⟩
    have H17 := Lib.hid (And.intro (H16.out.1.go hb) hls)
    clear hls hb H16
    go_wp2_with fail
    refine (rmeet_any H17.out.1.x.l H17.out.1.y.l HTX.out HTY.out (by omega) (by omega)).mono ?_
    rintro e w18 ⟨mv, rfl, hx, hb⟩
    obtain ⟨ma, mc, rfl⟩ := hx.lit
    have H18 := Lib.hid (And.intro (H17.out.1.go hb) (And.intro (H17.out.2.go hb) hx.l))
    clear hx hb H17
    go_wp2_with fail
    refine (alike_any H18.out.2.1 H18.out.2.2 HTM.out HTM.out (by omega) (by omega)).mono ?_
    rintro e w19 ⟨rfl, hb⟩
    rw [decide_eq_true (rfl : meetL X Y = meetL X Y)]
    have H19 := Lib.hid (H18.out.1.go hb)
    clear hb H18 HTM nml
    have HTR := Lib.hid (short_rAdd (a := x) HTX.out (by omega))
    have nrl : (rAdd X x).length ≤ 21 := by
      by_cases h : x ∈ X
      · unfold rAdd; rw [if_pos h]; omega
      · rw [rAdd_new h]; omega
    have HSR := Lib.hid (rAdd_sorted HX.out x)
    go_wp2_with fail
    refine (of_any (HF0.out.go H19.out.b) (by omega) TA.out).mono ?_
    rintro e w20 ⟨fb, rfl, hx, hb⟩
    rw [hXe] at hx
    have H20 := Lib.hid (And.intro hx hb)
    clear hx hb
    go_wp2_with fail
    refine (add_set H20.out.1 H20.out.2.size (HF2.out.go (Grow.trans H19.out.b H20.out.2)) hn2 (by omega) HTX.out (by omega)).mono ?_
    rintro e w21 ⟨rfl, hx, hb⟩
    rw [hpX]
    have H21 := Lib.hid (And.intro (H19.out.go (Below.trans H20.out.2 hb)) (show SetE fb (rAdd X x) w21 from ⟨_, hx⟩))
    clear hx hb H20 H19
    go_wp2_with fail
    refine (rhas_any H21.out.1.x.l (HF2.out.go H21.out.1.b) HTX.out (by omega) (by omega)).mono ?_
    rintro e w22 ⟨rfl, m2, hw⟩
    rw [hpX]
    have H22 := Lib.hid (And.intro (H21.out.1.go (grow_drew _ m2)) (H21.out.2.go (grow_drew _ m2)))
    rw [← hw] at H22
    clear hw H21
    go_wp2_with fail
    refine (all_e H22.out.2 HTR.out (by omega)).mono ?_
    rintro e w23 ⟨va4, vc4, rfl, hls, hb⟩
    have H23 := Lib.hid (And.intro (H22.out.1.go hb) hls)
    clear hls hb H22
    go_wp2_with fail
    refine (radd_any H23.out.1.x H23.out.1.z (HF2.out.go H23.out.1.b) hn2 HTX.out (by omega) (by omega)).mono ?_
    rintro e w24 ⟨rv, rfl, hx, hb⟩
    obtain ⟨ra, rc, rfl⟩ := hx.lit
    have H24 := Lib.hid (And.intro (H23.out.1.go hb) (And.intro (H23.out.2.go hb) hx.l))
    clear hx hb H23
    go_wp2_with fail
    refine (alike_any H24.out.2.1 H24.out.2.2 HTR.out HTR.out (by omega) (by omega)).mono ?_
    rintro e w25 ⟨rfl, hb⟩
    rw [decide_eq_true (rfl : rAdd X x = rAdd X x)]
    have H25 := Lib.hid (H24.out.1.go hb)
    clear hb H24 HTR nrl HSR
    have HUB := Lib.hid (ofL_both (Y := Y) HX.out)
    have ull := foldl_len Y X
    have ugl : X.length ≤ (Y.foldl rAdd X).length := by
      have := cards (A := X) HY.out
      have h2 : (meetL X Y).length ≤ Y.length := by rw [meetL_filter HY.out]; exact List.length_filter_le _ _
      omega
    have ul : (Y.foldl rAdd X).length ≤ 40 := by omega
    have HSU := Lib.hid (foldl_sorted Y X HX.out)
    have HTU := Lib.hid (short_union (A := X) (B := Y) HTX.out HTY.out)
    have HTB : Hid (Short (X ++ Y)) := Lib.hid (fun y hy => by
      rcases List.mem_append.1 hy with h | h
      · exact HTX.out y h
      · exact HTY.out y h)
    have HT : Hid (∀ w', SetAt xb slv svs X w' → SetAt yb tlv tvs Y w' → Calls Try.prog 31 #[.pointer (some ⟨xb, 0, none⟩), .pointer (some ⟨yb, 0, none⟩)] w' (TakePost xb slv X Y w')) := Lib.hid (fun w' h1 h2 => take_any h1 HX.out h2 HTX.out HTY.out (by omega) (by omega))
    unfold TakePost at HT
    clear ull
    generalize Y.foldl rAdd X = U at *
    have hbig : X.length + Y.length ≤ 40 := by omega
    have hgn : Grow w25 (w25.alloc (.cells #[] 22)) := (Below.refl _ _).alloc (Nat.le_refl _) _
    have H25b := Lib.hid (And.intro (madeR_new w25 w3.heap.size) (H25.out.go hgn))
    clear hgn
    go_wp2_with (first
      | (at_builtin; (refine append_words rfl (.tmp 110) (.tmp 111) rfl w25.heap.size w3.heap.size v26 rfl X H26.out.1 ya Y.length yc Y H26.out.2.1.y rfl (by omega) H26.out.2.2.size ?_); intro v27 w27 hm27 hb27
         have H27 := Lib.hid (And.intro (hm27.made H25.out.z) (And.intro (H25.out.go (Below.trans H26.out.2.2 hb27)) (Below.trans H26.out.2.2 hb27)))
         clear hm27 hb27 H26)
      | (at_builtin; (refine append_words rfl (.tmp 108) (.tmp 109) rfl w25.heap.size w3.heap.size (.slice (some ⟨w25.heap.size, 0, none⟩) 0 0) rfl [] H25b.out.1 xa X.length xc X H25b.out.2.x rfl (by simp only [List.length_nil]; omega) (by simp) ?_); intro v26 w26 hm26 hb26
         rw [List.nil_append] at hm26
         have hg26 : Grow w25 w26 := Below.trans ((Below.refl _ _).alloc (Nat.le_refl _) _) hb26
         have H26 := Lib.hid (And.intro hm26 (And.intro (H25.out.go hg26) hg26))
         clear hm26 hb26 hg26 H25b)
      | fail)
    obtain ⟨ba, bc, rfl⟩ := H27.out.1.lit
    refine (rof_any H27.out.1.l HTB.out (by simp only [List.length_append]; omega)).mono ?_
    rintro e w28 ⟨bv, rfl, hx, hb⟩
    rw [HUB.out] at hx
    obtain ⟨bba, bbc, rfl⟩ := hx.lit
    have H28 := Lib.hid (And.intro (H27.out.2.1.go hb) (hx.mono (Nat.le_trans H25.out.z H27.out.2.2.size)))
    clear hx hb H27 H25
    go_wp2_with fail
    refine (HT.out _ H28.out.1.s H28.out.1.t).mono ?_
    rintro e w29 ⟨slv', svs', rfl, hs, hk, -⟩
    have H29 : Hid (Sts w w3 xb yb slv' tlv svs' tvs U Y (.slice bba U.length bbc) (.slice ya Y.length yc) w29) := Lib.hid ⟨hs, set_kept H28.out.1.s H28.out.1.t hk HD.out.1 HD.out.2.1, H28.out.2.kept hk HD.out.2.2.2, H28.out.1.y.kept hk HD.out.2.2.2, H28.out.1.b.trans (hk.below H28.out.1.b.size HD.out.2.2.1), Nat.le_trans H28.out.1.z hk.size⟩
    clear hs hk H28
    go_wp2_with fail
    refine (all_e (H29.out.s.e HSU.out) HTU.out (by omega)).mono ?_
    rintro e w30 ⟨va5, vc5, rfl, hls, hb⟩
    have H30 := Lib.hid (And.intro (H29.out.go hb) hls)
    clear hls hb H29
    go_wp2_with fail
    refine (alike_any H30.out.2 H30.out.1.x.l HTU.out HTU.out (by omega) (by omega)).mono ?_
    rintro e w31 ⟨rfl, hb⟩
    rw [decide_eq_true (rfl : U = U)]
    have H31 := Lib.hid (H30.out.1.go hb)
    clear hb H30
    go_wp2_with fail
    refine (all_e (H31.out.t.e HY.out) HTY.out (by omega)).mono ?_
    rintro e w32 ⟨va6, vc6, rfl, hls, hb⟩
    have H32 := Lib.hid (And.intro (H31.out.go hb) hls)
    clear hls hb H31
    go_wp2_with fail
    refine (alike_any H32.out.2 H32.out.1.y.l HTY.out HTY.out (by omega) (by omega)).mono ?_
    rintro e w33 ⟨rfl, hb⟩
    rw [decide_eq_true (rfl : Y = Y)]
    have H33 := Lib.hid (H32.out.1.go hb)
    clear hb H32
    go_wp2
    go_ret
    exact ⟨rfl, H33.out.b⟩

set_option maxRecDepth 100000 in
theorem lifted (os : Os) (started : os.Started) (H : Type) (enc : TypeId × Value → H) :
    ReturnsInHanded {} Try.checked os 6 .any (Rows.strsSetsSpec.pre6 enc Try.prog Try.f6 Rows.strsSetsRow.domain false) (Rows.strsSetsSpec.post enc Try.prog Try.f6 false true false false) := by
  refine returnsInHanded_of_change (C := Try.checked) own started (by kernel_rfl) Try.func6
    (ChangeSpec.witness6 (enc := enc) (C := Try.checked) false ⟨#[], #[.slice none 0 0, .slice none 0 0, .slice none 0 0, .int .i64 0], []⟩ 8 (by kernel_rfl) (by kernel_rfl) (by kernel_rfl) (by kernel_rfl)) ?_
  intro W base args ds gs before hval0 hW hcnd _
  have hval : ∀ (j : Nat) t v, Try.f6.params[j]? = some t → args[j]? = some v → Value.okWide Try.prog W .any base t v := hval0
  have hW' := hW
  obtain ⟨p, q, hA0, hV, rfl, hfz, hnd⟩ := hW
  have hA : DataW.TrodAll enc Try.prog W 0 (fun _ => true) true Try.f6.params.toList args.toList ds p := hA0
  rw [Try.params6] at hA hval
  obtain ⟨v0, vs0, d0, ds0, p0, q0, hargs, rfl, rfl, h0, r0⟩ := trodAll_cons hA
  obtain ⟨v1, vs1, d1, ds1, p1, q1, rfl, rfl, rfl, h1, r1⟩ := trodAll_cons r0
  obtain ⟨v2, vs2, d2, ds2, p2, q2, rfl, rfl, rfl, h2, r2⟩ := trodAll_cons r1
  obtain ⟨v3, vs3, d3, ds3, p3, q3, rfl, rfl, rfl, h3, r3⟩ := trodAll_cons r2
  obtain ⟨rfl, rfl, rfl⟩ := trodAll_nil r3
  obtain rfl : args = #[v0, v1, v2, v3] := by cases args; simp_all
  obtain ⟨rfl, rfl⟩ := trodVars_none hV
  have k0 := h0
  have lt0 : ∀ x ∈ p0, x.block < W.heap.size := by obtain ⟨m, hm⟩ := k0; exact DataW.trod_lt m _ _ _ hm
  obtain ⟨a0, xs0, cap0, rfl, hi0, hl0, hm0, hn0⟩ := lsts_of_val (hval 0 29 v0 rfl rfl) h0
  have k1 := h1
  have lt1 : ∀ x ∈ p1, x.block < W.heap.size := by obtain ⟨m, hm⟩ := k1; exact DataW.trod_lt m _ _ _ hm
  obtain ⟨a1, xs1, cap1, rfl, hi1, hl1, hm1, hn1⟩ := lsts_of_val (hval 1 29 v1 rfl rfl) h1
  have k2 := h2
  have lt2 : ∀ x ∈ p2, x.block < W.heap.size := by obtain ⟨m, hm⟩ := k2; exact DataW.trod_lt m _ _ _ hm
  obtain ⟨a2, xs2, cap2, rfl, hi2, hl2, hm2, hn2⟩ := ints_of_val (hval 2 22 v2 rfl rfl) h2
  obtain ⟨a3, rfl, rfl, rfl, w3⟩ := open_int Try.underlying3 (hval 3 3 v3 rfl rfl) h3
  clear hA0 hval0
  refine (walk hi0 hl0 hm0 hn0 hi1 hl1 hm1 hn1 hi2 hl2 hm2 hn2 a3 (range_of w3)).mono fun e W' ⟨he, bel⟩ => ?_
  subst he
  exact ⟨_, rfl, _, _, _, [], _, [], hW', trodAll_mk1 (shut_bool Try.underlying4 _), (trodAll_cons_mk (Below.trod laidOut (by kernel_rfl) (of_decide_eq_true (by kernel_rfl)) k0 bel lt0) (trodAll_cons_mk (Below.trod laidOut (by kernel_rfl) (of_decide_eq_true (by kernel_rfl)) k1 bel lt1) (trodAll_cons_mk (Below.trod laidOut (by kernel_rfl) (of_decide_eq_true (by kernel_rfl)) k2 bel lt2) (trodAll_cons_mk (shut_int Try.underlying3 w3) trodAll_mk0)))), rfl, bel.frame _, fun h => by cases h⟩

theorem over : Rows.strsSetsRow.holds Try.pinned (OpenSpec.ofChange Rows.strsSetsSpec) :=
  OpenClaim.holds_of_wide 6 Try.f6 rfl rfl rfl rfl rfl rfl rfl ⟨rfl, rfl, rfl, rfl, rfl⟩ rfl rfl rfl rfl rfl (by kernel_rfl) Try.func6 (by kernel_rfl)
    (of_decide_eq_true (by kernel_rfl)) (by unfold Func.isWrapper; first | (rw [if_pos (by decide +kernel)]; kernel_rfl) | (rw [if_neg (by decide +kernel)]; exact ⟨rfl, rfl⟩))
    (fun os started H enc _ => lifted os started H enc)

theorem proved : Rows.StrsSetsSaid := over
#print axioms proved
end Go.Proofs.Ytoiinikbbkmjoaa.strsSets
