/-
  StrsMeets answers true, and leaves its arguments as they were, for all words. No conditions. The tail of its walk stands four times: once for each of what the two sets hold.
-/
import Derived.Test.YtoiinikbbkmjoaaCards
import Derived.Test.YtoiinikbbkmjoaaRows
import Derived.WalkKit
import Derived.ProofKit
import Derived.OpenShut
import Derived.ShutString
import Derived.ChangeOld
import Derived.Below
namespace Go.Proofs.Ytoiinikbbkmjoaa.strsMeets
open Go.ChangeShapes Go.WideShapes Go.ChangeAt Go.RowKit
set_option linter.unusedVariables false

theorem own : ownKnob Try.prog.godebug = none := by kernel_rfl
theorem laidOut : laidOutB Try.prog = true := by kernel_rfl
theorem few_short {L : List (List Int)} (h : Few L) : ∀ y ∈ ofL L, y.length ≤ 20 := fun y hy => h.2 y (mem_ofL.1 hy)
theorem sht {L : List (List Int)} (h : ∀ y ∈ L, y.length ≤ 20) : Short L := fun y hy => by have := h y hy; omega
theorem two_apart {w w1 w2 w3 : World} {xb yb : Nat} {X Y : List (List Int)} (g1 : Grow w w1) (h1 : SetB w1.heap.size xb X w2) (g2 : Grow w1 w2) (h2 : SetB w2.heap.size yb Y w3) (g3 : Grow w2 w3) :
    ∃ slv svs tlv tvs, SetAt xb slv svs X w3 ∧ SetAt yb tlv tvs Y w3 ∧ yb ≠ xb ∧ (∀ k, slv.ownBlock = some k → tlv.ownBlock ≠ some k) ∧ (∀ k, k < w.heap.size → ¬ (k = xb ∨ slv.ownBlock = some k)) := by
  obtain ⟨slv, svs, hs, -, hx, ho⟩ := h1
  obtain ⟨tlv, tvs, ht, -, hy, hp⟩ := h2
  have l1 := lt_of_block hs.blk
  have e1 := g1.size
  refine ⟨slv, svs, tlv, tvs, hs.grow g3, ht, by omega, fun k h1 h2 => ?_, fun k hk h => ?_⟩
  · have := (row_ge hs.row h1).1
    have := hp k h2
    omega
  · rcases h with h | h
    · omega
    · have := ho k h; omega
set_option maxRecDepth 100000 in
set_option maxHeartbeats 8000000 in
theorem walk {w : World} {a0 : Option Addr} {cap0 : Nat} {A : List (List Int)} (hi0 : Lsts w a0 A) (hl0 : A.length ≤ cap0) (hm0 : cap0 ≤ maxLen) (hn0 : a0 = none → cap0 = 0)
    {a1 : Option Addr} {cap1 : Nat} {B : List (List Int)} (hi1 : Lsts w a1 B) (hl1 : B.length ≤ cap1) (hm1 : cap1 ≤ maxLen) (hn1 : a1 = none → cap1 = 0)
    {a2 : Option Addr} {cap2 : Nat} {x : List Int} (hi2 : Lst w a2 x) (hl2 : x.length ≤ cap2) (hm2 : cap2 ≤ maxLen) (hn2 : a2 = none → cap2 = 0) :
    Calls Try.prog 7 #[.slice a0 A.length cap0, .slice a1 B.length cap1, .slice a2 x.length cap2] w fun e w' => e = .returned (.bool true) ∧ Below w.heap.size w w' := by
  have HF0 := Lib.hid hi0
  have HF1 := Lib.hid hi1
  have HF2 := Lib.hid hi2
  simp only [maxLen] at hm0 hm1 hm2
  clear hi0 hi1 hi2
  go_enter Try.func7, Try.ntmps7
  go_wp2_with fail
  refine (alive_any _).mono ?_
  rintro e w1 ⟨rfl, hb⟩
  have H1 := Lib.hid hb
  clear hb
  go_wp2_with fail
  refine (few_any (HF0.out.go H1.out) (by omega)).mono ?_
  rintro e w1' ⟨b, rfl, rfl, hf⟩
  cases b
  · go_wp2
    go_ret
    exact ⟨rfl, H1.out⟩
  have HA := Lib.hid (hf rfl)
  clear hf
  go_wp2_with fail
  refine (few_any (HF1.out.go H1.out) (by omega)).mono ?_
  rintro e w1' ⟨b, rfl, rfl, hf⟩
  cases b
  · go_wp2
    go_ret
    exact ⟨rfl, H1.out⟩
  have HB := Lib.hid (hf rfl)
  clear hf
  by_cases h20 : (20 : Int) < x.length
  · go_wp2
    go_ret
    exact ⟨rfl, H1.out⟩
  have sA : ∀ y ∈ ofL A, y.length ≤ 20 := few_short HA.out
  have sB : ∀ y ∈ ofL B, y.length ≤ 20 := few_short HB.out
  have tA : Short A := fun y hy => by have := HA.out.2 y hy; omega
  have tB : Short B := fun y hy => by have := HB.out.2 y hy; omega
  have lA := ofL_len A
  have lB := ofL_len B
  have fA := HA.out.1
  have fB := HB.out.1
  have SA := Lib.hid (sht sA)
  have SB := Lib.hid (sht sB)
  clear sA sB
  go_wp2_with fail
  refine (of_any (HF0.out.go H1.out) (by omega) tA).mono ?_
  rintro e w2 ⟨xb, rfl, hx, hb⟩
  have H2 := Lib.hid (And.intro hx hb)
  clear hx hb
  go_wp2_with fail
  refine (of_any (HF1.out.go (H1.out.trans H2.out.2)) (by omega) tB).mono ?_
  rintro e w3 ⟨yb, rfl, hx, hb⟩
  obtain ⟨slv, svs, tlv, tvs, hs, ht, hne, hdis, hnew⟩ := two_apart H1.out H2.out.1 H2.out.2 hx hb
  have H3 := Lib.hid (And.intro hs (And.intro ht ((H1.out.trans H2.out.2).trans hb)))
  have HD := Lib.hid (And.intro hne (And.intro hdis hnew))
  clear hs ht hne hdis hnew hx hb H1 H2 tA tB
  have HX := Lib.hid (ofL_sorted A)
  have HY := Lib.hid (ofL_sorted B)
  generalize ofL A = X at *
  generalize ofL B = Y at *
  have xl : X.length ≤ 20 := by omega
  have yl : Y.length ≤ 20 := by omega
  clear lA lB fA fB
  go_wp2_with fail
  refine (meet_e (H3.out.1.e HX.out) (H3.out.2.1.e HY.out) SA.out SB.out (by omega) (by omega)).mono ?_
  rintro e w4 ⟨mb, rfl, hx, hb⟩
  have H4 : Hid (Two w xb yb mb slv tlv svs tvs X Y (meetL X Y) w4) := Lib.hid ⟨H3.out.1.grow hb, H3.out.2.1.grow hb, hx, H3.out.2.2.trans hb⟩
  clear hx hb H3
  have hc := cards (A := X) HY.out
  have SM := Lib.hid (short_meet (A := X) (B := Y) SA.out)
  have SU := Lib.hid (short_union (A := X) (B := Y) SA.out SB.out)
  have HSU := Lib.hid (foldl_sorted Y X HX.out)
  have HMU := Lib.hid (meet_union (A := X) HY.out)
  have HMC := Lib.hid (meetL_comm Y X)
  have HH1 := Lib.hid (has_meet X Y x)
  have HH2 := Lib.hid (has_union X Y x)
  have ml : (meetL X Y).length ≤ 20 := by
    have : X.length ≤ (Y.foldl rAdd X).length := by
      have h : ∀ (Bs L : List (List Int)), L.length ≤ (Bs.foldl rAdd L).length := fun Bs => by
        induction Bs with
        | nil => intro L; exact Nat.le_refl _
        | cons b t ih =>
          intro L
          rw [List.foldl_cons]
          refine Nat.le_trans ?_ (ih _)
          by_cases hb : b ∈ L
          · unfold rAdd; rw [if_pos hb]; exact Nat.le_refl _
          · rw [rAdd_new hb]; omega
      exact h _ _
    omega
  have ul : (Y.foldl rAdd X).length ≤ 40 := by omega
  have HC : Hid ((((Y.foldl rAdd X).length : Nat) : Int) = (X.length : Int) + (Y.length : Int) - ((meetL X Y).length : Int)) := Lib.hid (by omega)
  clear hc
  have HT : Hid (∀ w', SetAt xb slv svs X w' → SetAt yb tlv tvs Y w' → Calls Try.prog 31 #[.pointer (some ⟨xb, 0, none⟩), .pointer (some ⟨yb, 0, none⟩)] w' (TakePost xb slv X Y w')) := Lib.hid (fun w' h1 h2 => take_any h1 HX.out h2 SA.out SB.out (by omega) (by omega))
  unfold TakePost at HT
  generalize Y.foldl rAdd X = U at *
  generalize hM : meetL X Y = M at *
  go_wp2_with fail
  refine (len_e (H4.out.s.e HX.out)).mono ?_
  rintro e w4' ⟨rfl, rfl⟩
  go_wp2_with fail
  refine (len_e (H4.out.t.e HY.out)).mono ?_
  rintro e w4' ⟨rfl, rfl⟩
  go_wp2_with fail
  refine (len_e H4.out.m).mono ?_
  rintro e w4' ⟨rfl, rfl⟩
  generalize hpX : decide (x ∈ X) = pX at *
  generalize hpY : decide (x ∈ Y) = pY at *
  cases pX <;> cases pY
  · go_wp2_with fail
    refine (has_e H4.out.m (HF2.out.go H4.out.b) (by omega) SM.out (by omega)).mono ?_
    rintro e w5 ⟨rfl, hb⟩
    rw [HH1.out, show (false && false) = false from rfl]
    have H5 := Lib.hid (H4.out.go hb)
    clear hb H4
    go_wp2_with fail
    refine (has_e (H5.out.s.e HX.out) (HF2.out.go H5.out.b) (by omega) SA.out (by omega)).mono ?_
    rintro e w6 ⟨rfl, hb⟩
    rw [hpX]
    have H6 := Lib.hid (H5.out.go hb)
    clear hb H5
    go_wp2_with fail
    refine (meet_e (H6.out.t.e HY.out) (H6.out.s.e HX.out) SB.out SA.out (by omega) (by omega)).mono ?_
    rintro e w7 ⟨mb2, rfl, hx, hb⟩
    rw [HMC.out] at hx
    have H7 := Lib.hid (And.intro (H6.out.go hb) hx)
    clear hx hb H6
    go_wp2_with fail
    refine (same_e H7.out.1.m H7.out.2 SM.out SM.out (by omega) (by omega)).mono ?_
    rintro e w8 ⟨rfl, hb⟩
    rw [decide_eq_true (rfl : M = M)]
    have H8 := Lib.hid (H7.out.1.go hb)
    clear hb H7
    go_wp2_with fail
    refine (has_e (H8.out.s.e HX.out) (HF2.out.go H8.out.b) (by omega) SA.out (by omega)).mono ?_
    rintro e w9 ⟨rfl, hb⟩
    rw [hpX]
    have H9 := Lib.hid (H8.out.go hb)
    clear hb H8
    go_wp2_with fail
    refine (HT.out _ H9.out.s H9.out.t).mono ?_
    rintro e w10 ⟨slv', svs', rfl, hs, hk, -⟩
    have H10 : Hid (Two w xb yb xb slv' tlv svs' tvs U Y U w10) := Lib.hid ⟨hs, set_kept H9.out.s H9.out.t hk HD.out.1 HD.out.2.1, hs.e HSU.out, H9.out.b.trans (hk.below H9.out.b.size HD.out.2.2)⟩
    clear hs hk H9
    go_wp2_with fail
    refine (len_e H10.out.m).mono ?_
    rintro e w10' ⟨rfl, rfl⟩
    rw [HC.out]
    go_wp2_with fail
    refine (has_e H10.out.m (HF2.out.go H10.out.b) (by omega) SU.out (by omega)).mono ?_
    rintro e w11 ⟨rfl, hb⟩
    rw [HH2.out, show (false || false) = false from rfl]
    have H11 := Lib.hid (H10.out.go hb)
    clear hb H10
    go_wp2_with fail
    refine (has_e (H11.out.t.e HY.out) (HF2.out.go H11.out.b) (by omega) SB.out (by omega)).mono ?_
    rintro e w12 ⟨rfl, hb⟩
    rw [hpY]
    have H12 := Lib.hid (H11.out.go hb)
    clear hb H11
    go_wp2_with fail
    refine (meet_e H12.out.m (H12.out.t.e HY.out) SU.out SB.out (by omega) (by omega)).mono ?_
    rintro e w13 ⟨mb3, rfl, hx, hb⟩
    rw [HMU.out] at hx
    have H13 := Lib.hid (And.intro (H12.out.go hb) hx)
    clear hx hb H12
    go_wp2_with fail
    refine (same_e H13.out.2 (H13.out.1.t.e HY.out) SB.out SB.out (by omega) (by omega)).mono ?_
    rintro e w14 ⟨rfl, hb⟩
    rw [decide_eq_true (rfl : Y = Y)]
    have H14 := Lib.hid (H13.out.1.b.trans (Below.mono hb H13.out.1.b.size))
    clear hb H13
    go_wp2
    go_ret
    exact ⟨rfl, H14.out⟩
  · go_wp2_with fail
    refine (has_e H4.out.m (HF2.out.go H4.out.b) (by omega) SM.out (by omega)).mono ?_
    rintro e w5 ⟨rfl, hb⟩
    rw [HH1.out, show (false && true) = false from rfl]
    have H5 := Lib.hid (H4.out.go hb)
    clear hb H4
    go_wp2_with fail
    refine (has_e (H5.out.s.e HX.out) (HF2.out.go H5.out.b) (by omega) SA.out (by omega)).mono ?_
    rintro e w6 ⟨rfl, hb⟩
    rw [hpX]
    have H6 := Lib.hid (H5.out.go hb)
    clear hb H5
    go_wp2_with fail
    refine (meet_e (H6.out.t.e HY.out) (H6.out.s.e HX.out) SB.out SA.out (by omega) (by omega)).mono ?_
    rintro e w7 ⟨mb2, rfl, hx, hb⟩
    rw [HMC.out] at hx
    have H7 := Lib.hid (And.intro (H6.out.go hb) hx)
    clear hx hb H6
    go_wp2_with fail
    refine (same_e H7.out.1.m H7.out.2 SM.out SM.out (by omega) (by omega)).mono ?_
    rintro e w8 ⟨rfl, hb⟩
    rw [decide_eq_true (rfl : M = M)]
    have H8 := Lib.hid (H7.out.1.go hb)
    clear hb H7
    go_wp2_with fail
    refine (has_e (H8.out.s.e HX.out) (HF2.out.go H8.out.b) (by omega) SA.out (by omega)).mono ?_
    rintro e w9 ⟨rfl, hb⟩
    rw [hpX]
    have H9 := Lib.hid (H8.out.go hb)
    clear hb H8
    go_wp2_with fail
    refine (HT.out _ H9.out.s H9.out.t).mono ?_
    rintro e w10 ⟨slv', svs', rfl, hs, hk, -⟩
    have H10 : Hid (Two w xb yb xb slv' tlv svs' tvs U Y U w10) := Lib.hid ⟨hs, set_kept H9.out.s H9.out.t hk HD.out.1 HD.out.2.1, hs.e HSU.out, H9.out.b.trans (hk.below H9.out.b.size HD.out.2.2)⟩
    clear hs hk H9
    go_wp2_with fail
    refine (len_e H10.out.m).mono ?_
    rintro e w10' ⟨rfl, rfl⟩
    rw [HC.out]
    go_wp2_with fail
    refine (has_e H10.out.m (HF2.out.go H10.out.b) (by omega) SU.out (by omega)).mono ?_
    rintro e w11 ⟨rfl, hb⟩
    rw [HH2.out, show (false || true) = true from rfl]
    have H11 := Lib.hid (H10.out.go hb)
    clear hb H10
    go_wp2_with fail
    refine (has_e (H11.out.t.e HY.out) (HF2.out.go H11.out.b) (by omega) SB.out (by omega)).mono ?_
    rintro e w12 ⟨rfl, hb⟩
    rw [hpY]
    have H12 := Lib.hid (H11.out.go hb)
    clear hb H11
    go_wp2_with fail
    refine (meet_e H12.out.m (H12.out.t.e HY.out) SU.out SB.out (by omega) (by omega)).mono ?_
    rintro e w13 ⟨mb3, rfl, hx, hb⟩
    rw [HMU.out] at hx
    have H13 := Lib.hid (And.intro (H12.out.go hb) hx)
    clear hx hb H12
    go_wp2_with fail
    refine (same_e H13.out.2 (H13.out.1.t.e HY.out) SB.out SB.out (by omega) (by omega)).mono ?_
    rintro e w14 ⟨rfl, hb⟩
    rw [decide_eq_true (rfl : Y = Y)]
    have H14 := Lib.hid (H13.out.1.b.trans (Below.mono hb H13.out.1.b.size))
    clear hb H13
    go_wp2
    go_ret
    exact ⟨rfl, H14.out⟩
  · go_wp2_with fail
    refine (has_e H4.out.m (HF2.out.go H4.out.b) (by omega) SM.out (by omega)).mono ?_
    rintro e w5 ⟨rfl, hb⟩
    rw [HH1.out, show (true && false) = false from rfl]
    have H5 := Lib.hid (H4.out.go hb)
    clear hb H4
    go_wp2_with fail
    refine (has_e (H5.out.s.e HX.out) (HF2.out.go H5.out.b) (by omega) SA.out (by omega)).mono ?_
    rintro e w6 ⟨rfl, hb⟩
    rw [hpX]
    have H6 := Lib.hid (H5.out.go hb)
    clear hb H5
    go_wp2_with fail
    refine (has_e (H6.out.t.e HY.out) (HF2.out.go H6.out.b) (by omega) SB.out (by omega)).mono ?_
    rintro e w7 ⟨rfl, hb⟩
    rw [hpY]
    have H7 := Lib.hid (H6.out.go hb)
    clear hb H6
    go_wp2_with fail
    refine (meet_e (H7.out.t.e HY.out) (H7.out.s.e HX.out) SB.out SA.out (by omega) (by omega)).mono ?_
    rintro e w8 ⟨mb2, rfl, hx, hb⟩
    rw [HMC.out] at hx
    have H8 := Lib.hid (And.intro (H7.out.go hb) hx)
    clear hx hb H7
    go_wp2_with fail
    refine (same_e H8.out.1.m H8.out.2 SM.out SM.out (by omega) (by omega)).mono ?_
    rintro e w9 ⟨rfl, hb⟩
    rw [decide_eq_true (rfl : M = M)]
    have H9 := Lib.hid (H8.out.1.go hb)
    clear hb H8
    go_wp2_with fail
    refine (has_e (H9.out.s.e HX.out) (HF2.out.go H9.out.b) (by omega) SA.out (by omega)).mono ?_
    rintro e w10 ⟨rfl, hb⟩
    rw [hpX]
    have H10 := Lib.hid (H9.out.go hb)
    clear hb H9
    go_wp2_with fail
    refine (HT.out _ H10.out.s H10.out.t).mono ?_
    rintro e w11 ⟨slv', svs', rfl, hs, hk, -⟩
    have H11 : Hid (Two w xb yb xb slv' tlv svs' tvs U Y U w11) := Lib.hid ⟨hs, set_kept H10.out.s H10.out.t hk HD.out.1 HD.out.2.1, hs.e HSU.out, H10.out.b.trans (hk.below H10.out.b.size HD.out.2.2)⟩
    clear hs hk H10
    go_wp2_with fail
    refine (len_e H11.out.m).mono ?_
    rintro e w11' ⟨rfl, rfl⟩
    rw [HC.out]
    go_wp2_with fail
    refine (has_e H11.out.m (HF2.out.go H11.out.b) (by omega) SU.out (by omega)).mono ?_
    rintro e w12 ⟨rfl, hb⟩
    rw [HH2.out, show (true || false) = true from rfl]
    have H12 := Lib.hid (H11.out.go hb)
    clear hb H11
    go_wp2_with fail
    refine (meet_e H12.out.m (H12.out.t.e HY.out) SU.out SB.out (by omega) (by omega)).mono ?_
    rintro e w13 ⟨mb3, rfl, hx, hb⟩
    rw [HMU.out] at hx
    have H13 := Lib.hid (And.intro (H12.out.go hb) hx)
    clear hx hb H12
    go_wp2_with fail
    refine (same_e H13.out.2 (H13.out.1.t.e HY.out) SB.out SB.out (by omega) (by omega)).mono ?_
    rintro e w14 ⟨rfl, hb⟩
    rw [decide_eq_true (rfl : Y = Y)]
    have H14 := Lib.hid (H13.out.1.b.trans (Below.mono hb H13.out.1.b.size))
    clear hb H13
    go_wp2
    go_ret
    exact ⟨rfl, H14.out⟩
  · go_wp2_with fail
    refine (has_e H4.out.m (HF2.out.go H4.out.b) (by omega) SM.out (by omega)).mono ?_
    rintro e w5 ⟨rfl, hb⟩
    rw [HH1.out, show (true && true) = true from rfl]
    have H5 := Lib.hid (H4.out.go hb)
    clear hb H4
    go_wp2_with fail
    refine (has_e (H5.out.s.e HX.out) (HF2.out.go H5.out.b) (by omega) SA.out (by omega)).mono ?_
    rintro e w6 ⟨rfl, hb⟩
    rw [hpX]
    have H6 := Lib.hid (H5.out.go hb)
    clear hb H5
    go_wp2_with fail
    refine (has_e (H6.out.t.e HY.out) (HF2.out.go H6.out.b) (by omega) SB.out (by omega)).mono ?_
    rintro e w7 ⟨rfl, hb⟩
    rw [hpY]
    have H7 := Lib.hid (H6.out.go hb)
    clear hb H6
    go_wp2_with fail
    refine (meet_e (H7.out.t.e HY.out) (H7.out.s.e HX.out) SB.out SA.out (by omega) (by omega)).mono ?_
    rintro e w8 ⟨mb2, rfl, hx, hb⟩
    rw [HMC.out] at hx
    have H8 := Lib.hid (And.intro (H7.out.go hb) hx)
    clear hx hb H7
    go_wp2_with fail
    refine (same_e H8.out.1.m H8.out.2 SM.out SM.out (by omega) (by omega)).mono ?_
    rintro e w9 ⟨rfl, hb⟩
    rw [decide_eq_true (rfl : M = M)]
    have H9 := Lib.hid (H8.out.1.go hb)
    clear hb H8
    go_wp2_with fail
    refine (has_e (H9.out.s.e HX.out) (HF2.out.go H9.out.b) (by omega) SA.out (by omega)).mono ?_
    rintro e w10 ⟨rfl, hb⟩
    rw [hpX]
    have H10 := Lib.hid (H9.out.go hb)
    clear hb H9
    go_wp2_with fail
    refine (HT.out _ H10.out.s H10.out.t).mono ?_
    rintro e w11 ⟨slv', svs', rfl, hs, hk, -⟩
    have H11 : Hid (Two w xb yb xb slv' tlv svs' tvs U Y U w11) := Lib.hid ⟨hs, set_kept H10.out.s H10.out.t hk HD.out.1 HD.out.2.1, hs.e HSU.out, H10.out.b.trans (hk.below H10.out.b.size HD.out.2.2)⟩
    clear hs hk H10
    go_wp2_with fail
    refine (len_e H11.out.m).mono ?_
    rintro e w11' ⟨rfl, rfl⟩
    rw [HC.out]
    go_wp2_with fail
    refine (has_e H11.out.m (HF2.out.go H11.out.b) (by omega) SU.out (by omega)).mono ?_
    rintro e w12 ⟨rfl, hb⟩
    rw [HH2.out, show (true || true) = true from rfl]
    have H12 := Lib.hid (H11.out.go hb)
    clear hb H11
    go_wp2_with fail
    refine (meet_e H12.out.m (H12.out.t.e HY.out) SU.out SB.out (by omega) (by omega)).mono ?_
    rintro e w13 ⟨mb3, rfl, hx, hb⟩
    rw [HMU.out] at hx
    have H13 := Lib.hid (And.intro (H12.out.go hb) hx)
    clear hx hb H12
    go_wp2_with fail
    refine (same_e H13.out.2 (H13.out.1.t.e HY.out) SB.out SB.out (by omega) (by omega)).mono ?_
    rintro e w14 ⟨rfl, hb⟩
    rw [decide_eq_true (rfl : Y = Y)]
    have H14 := Lib.hid (H13.out.1.b.trans (Below.mono hb H13.out.1.b.size))
    clear hb H13
    go_wp2
    go_ret
    exact ⟨rfl, H14.out⟩

set_option maxRecDepth 100000 in
theorem lifted (os : Os) (started : os.Started) (H : Type) (enc : TypeId × Value → H) :
    ReturnsInHanded {} Try.checked os 7 .any (Rows.strsMeetsSpec.pre6 enc Try.prog Try.f7 Rows.strsMeetsRow.domain false) (Rows.strsMeetsSpec.post enc Try.prog Try.f7 false true false false) := by
  refine returnsInHanded_of_change (C := Try.checked) own started (by kernel_rfl) Try.func7
    (ChangeSpec.witness6 (enc := enc) (C := Try.checked) false ⟨#[], #[.slice none 0 0, .slice none 0 0, .slice none 0 0], []⟩ 8 (by kernel_rfl) (by kernel_rfl) (by kernel_rfl) (by kernel_rfl)) ?_
  intro W base args ds gs before hval0 hW hcnd _
  have hval : ∀ (j : Nat) t v, Try.f7.params[j]? = some t → args[j]? = some v → Value.okWide Try.prog W .any base t v := hval0
  have hW' := hW
  obtain ⟨p, q, hA0, hV, rfl, hfz, hnd⟩ := hW
  have hA : DataW.TrodAll enc Try.prog W 0 (fun _ => true) true Try.f7.params.toList args.toList ds p := hA0
  rw [Try.params7] at hA hval
  obtain ⟨v0, vs0, d0, ds0, p0, q0, hargs, rfl, rfl, h0, r0⟩ := trodAll_cons hA
  obtain ⟨v1, vs1, d1, ds1, p1, q1, rfl, rfl, rfl, h1, r1⟩ := trodAll_cons r0
  obtain ⟨v2, vs2, d2, ds2, p2, q2, rfl, rfl, rfl, h2, r2⟩ := trodAll_cons r1
  obtain ⟨rfl, rfl, rfl⟩ := trodAll_nil r2
  obtain rfl : args = #[v0, v1, v2] := by cases args; simp_all
  obtain ⟨rfl, rfl⟩ := trodVars_none hV
  have k0 := h0
  have lt0 : ∀ x ∈ p0, x.block < W.heap.size := by obtain ⟨m, hm⟩ := k0; exact DataW.trod_lt m _ _ _ hm
  obtain ⟨a0, xs0, cap0, rfl, hi0, hl0, hm0, hn0⟩ := lsts_of_val (hval 0 29 v0 rfl rfl) h0
  have k1 := h1
  have lt1 : ∀ x ∈ p1, x.block < W.heap.size := by obtain ⟨m, hm⟩ := k1; exact DataW.trod_lt m _ _ _ hm
  obtain ⟨a1, xs1, cap1, rfl, hi1, hl1, hm1, hn1⟩ := lsts_of_val (hval 1 29 v1 rfl rfl) h1
  have k2 := h2
  have lt2 : ∀ x ∈ p2, x.block < W.heap.size := by obtain ⟨m, hm⟩ := k2; exact DataW.trod_lt m _ _ _ hm
  obtain ⟨a2, xs2, cap2, rfl, hi2, hl2, hm2, hn2⟩ := ints_of_val (hval 2 22 v2 rfl rfl) h2
  clear hA0 hval0
  refine (walk hi0 hl0 hm0 hn0 hi1 hl1 hm1 hn1 hi2 hl2 hm2 hn2).mono fun e W' ⟨he, bel⟩ => ?_
  subst he
  exact ⟨_, rfl, _, _, _, [], _, [], hW', trodAll_mk1 (shut_bool Try.underlying4 _), (trodAll_cons_mk (Below.trod laidOut (by kernel_rfl) (of_decide_eq_true (by kernel_rfl)) k0 bel lt0) (trodAll_cons_mk (Below.trod laidOut (by kernel_rfl) (of_decide_eq_true (by kernel_rfl)) k1 bel lt1) (trodAll_cons_mk (Below.trod laidOut (by kernel_rfl) (of_decide_eq_true (by kernel_rfl)) k2 bel lt2) trodAll_mk0))), rfl, bel.frame _, fun h => by cases h⟩

theorem over : Rows.strsMeetsRow.holds Try.pinned (OpenSpec.ofChange Rows.strsMeetsSpec) :=
  OpenClaim.holds_of_wide 7 Try.f7 rfl rfl rfl rfl rfl rfl rfl ⟨rfl, rfl, rfl, rfl, rfl⟩ rfl rfl rfl rfl rfl (by kernel_rfl) Try.func7 (by kernel_rfl)
    (of_decide_eq_true (by kernel_rfl)) (by unfold Func.isWrapper; first | (rw [if_pos (by decide +kernel)]; kernel_rfl) | (rw [if_neg (by decide +kernel)]; exact ⟨rfl, rfl⟩))
    (fun os started H enc _ => lifted os started H enc)

theorem proved : Rows.StrsMeetsSaid := over
#print axioms proved
end Go.Proofs.Ytoiinikbbkmjoaa.strsMeets
