/-
  StrsTimes answers true, and leaves its arguments as they were, for all sets of words and every k. No conditions.
-/
import Derived.Test.YtoiinikbbkmjoaaLaws0
import Derived.Test.YtoiinikbbkmjoaaRows
import Derived.WalkKit
import Derived.ProofKit
import Derived.OpenShut
import Derived.ShutString
import Derived.ChangeOld
import Derived.Below
namespace Go.Proofs.Ytoiinikbbkmjoaa.strsTimes
open Go.ChangeShapes Go.WideShapes Go.ChangeAt Go.RowKit
set_option linter.unusedVariables false

theorem own : ownKnob Try.prog.godebug = none := by kernel_rfl
theorem laidOut : laidOutB Try.prog = true := by kernel_rfl
theorem and15 (k : Int) : 0 ≤ bits .and .i64 k 15 ∧ bits .and .i64 k 15 ≤ 15 := by
  have h : bits .and .i64 k 15 = IntKind.i64.wrap ((BitVec.ofInt 64 k &&& BitVec.ofInt 64 15).toNat : Int) := rfl
  rw [h, BitVec.toNat_and]
  have hx : (BitVec.ofInt 64 k).toNat &&& (BitVec.ofInt 64 15).toNat ≤ 15 := Nat.and_le_right
  rw [IntKind.wrap_i64]
  omega
theorem lsts_nil (w : World) (a : Option Addr) : Lsts w a [] := fun i hi => by simp at hi
theorem lsts1 {w : World} {b b1 : Nat} (h : w.heap[b]? = some (.cells #[.slice (some ⟨b1, 0, none⟩) 0 0] 22 (0, 0))) : Lsts w (some ⟨b, 0, none⟩) [[]] := fun i hi => by
  have hi2 : i < 1 := hi
  match i, hi2 with
  | 0, _ => exact ⟨b, 0, some ⟨b1, 0, none⟩, 0, rfl, lt_of_block h, cell_of_block h, (fun i hi => by simp at hi), (fun h => by cases h), Nat.le_refl _⟩
theorem few_short {L : List (List Int)} (h : Few L) : ∀ y ∈ ofL L, y.length ≤ 20 := fun y hy => h.2 y (mem_ofL.1 hy)
theorem up5 {L : List (List Int)} (h : ∀ y ∈ L, y.length ≤ 20) : ∀ y ∈ L, y.length ≤ 5000 := fun y hy => by have := h y hy; omega
theorem sht {L : List (List Int)} (h : ∀ y ∈ L, y.length ≤ 20) : Short L := fun y hy => by have := h y hy; omega
theorem t20 {L M : List (List Int)} {K : Int} (hK : K ≤ 15) : ∀ y ∈ timesL L M K, y.length ≤ 20 := fun y hy => by have := timesL_short hK y hy; omega
theorem heap2 (w : World) (o1 o2 : Obj) : ((w.alloc o1).alloc o2).heap[w.heap.size + 1]? = some o2 := by have := heap_alloc_this (w.alloc o1) o2; simpa using this
theorem grow2 (w : World) (o1 o2 : Obj) : Grow w ((w.alloc o1).alloc o2) := ((Below.refl _ _).alloc (Nat.le_refl _) _).alloc (by simp) _
theorem of_nil : ofL [] = [] := rfl
theorem of_one : ofL [[]] = [[]] := rfl
set_option maxRecDepth 100000 in
set_option maxHeartbeats 8000000 in
theorem walk {w : World} {a0 : Option Addr} {cap0 : Nat} {A : List (List Int)} (hi0 : Lsts w a0 A) (hl0 : A.length ≤ cap0) (hm0 : cap0 ≤ maxLen) (hn0 : a0 = none → cap0 = 0)
    {a1 : Option Addr} {cap1 : Nat} {B : List (List Int)} (hi1 : Lsts w a1 B) (hl1 : B.length ≤ cap1) (hm1 : cap1 ≤ maxLen) (hn1 : a1 = none → cap1 = 0)
    {a2 : Option Addr} {cap2 : Nat} {C : List (List Int)} (hi2 : Lsts w a2 C) (hl2 : C.length ≤ cap2) (hm2 : cap2 ≤ maxLen) (hn2 : a2 = none → cap2 = 0) (k : Int) (hk : -9223372036854775808 ≤ k ∧ k ≤ 9223372036854775807) :
    Calls Try.prog 5 #[.slice a0 A.length cap0, .slice a1 B.length cap1, .slice a2 C.length cap2, .int .i64 k] w fun e w' => e = .returned (.bool true) ∧ Below w.heap.size w w' := by
  have HF0 := Lib.hid hi0
  have HF1 := Lib.hid hi1
  have HF2 := Lib.hid hi2
  have hM := hm0
  simp only [maxLen] at hm0 hm1 hm2
  clear hi0 hi1 hi2
  obtain ⟨hK0, hK1⟩ := and15 k
  go_enter Try.func5, Try.ntmps5
  go_wp2_with fail
  refine (alive_any _).mono ?_
  rintro e w1 ⟨rfl, hb⟩
  have H1 := Lib.hid hb
  clear hb
  go_wp2_with fail
  refine (few_any (HF0.out.go H1.out) (by omega)).mono ?_
  rintro e w1' ⟨b, rfl, rfl, hf⟩
  cases b
  · go_wp2
    go_ret
    exact ⟨rfl, H1.out⟩
  have HA := Lib.hid (hf rfl)
  clear hf
  go_wp2_with fail
  refine (few_any (HF1.out.go H1.out) (by omega)).mono ?_
  rintro e w1' ⟨b, rfl, rfl, hf⟩
  cases b
  · go_wp2
    go_ret
    exact ⟨rfl, H1.out⟩
  have HB := Lib.hid (hf rfl)
  clear hf
  go_wp2_with fail
  refine (few_any (HF2.out.go H1.out) (by omega)).mono ?_
  rintro e w1' ⟨b, rfl, rfl, hf⟩
  cases b
  · go_wp2
    go_ret
    exact ⟨rfl, H1.out⟩
  have HC := Lib.hid (hf rfl)
  clear hf
  by_cases h8a : (8 : Int) < A.length
  · go_wp2
    go_ret
    exact ⟨rfl, H1.out⟩
  by_cases h8b : (8 : Int) < B.length
  · go_wp2
    go_ret
    exact ⟨rfl, H1.out⟩
  by_cases h8c : (8 : Int) < C.length
  · go_wp2
    go_ret
    exact ⟨rfl, H1.out⟩
  have sA : ∀ y ∈ ofL A, y.length ≤ 20 := few_short HA.out
  have sB : ∀ y ∈ ofL B, y.length ≤ 20 := few_short HB.out
  have sC : ∀ y ∈ ofL C, y.length ≤ 20 := few_short HC.out
  have tA : Short A := fun y hy => by have := HA.out.2 y hy; omega
  have tB : Short B := fun y hy => by have := HB.out.2 y hy; omega
  have tC : Short C := fun y hy => by have := HC.out.2 y hy; omega
  have lA := ofL_len A
  have lB := ofL_len B
  have lC := ofL_len C
  have SA := Lib.hid sA
  have SB := Lib.hid sB
  have SC := Lib.hid sC
  clear sA sB sC
  go_wp2_with fail
  refine (of_e (HF0.out.go H1.out) (by omega) tA).mono ?_
  rintro e w2 ⟨xb, rfl, hx, hb⟩
  have H2 := Lib.hid (And.intro hx (H1.out.trans hb))
  clear hx hb H1
  go_wp2_with fail
  refine (of_e (HF1.out.go H2.out.2) (by omega) tB).mono ?_
  rintro e w3 ⟨yb, rfl, hx, hb⟩
  have H3 := Lib.hid (And.intro (H2.out.1.go hb) (And.intro hx (H2.out.2.trans hb)))
  clear hx hb H2
  go_wp2_with fail
  refine (of_e (HF2.out.go H3.out.2.2) (by omega) tC).mono ?_
  rintro e w4 ⟨zb, rfl, hx, hb⟩
  have H4 := Lib.hid (And.intro (H3.out.1.go hb) (And.intro (H3.out.2.1.go hb) (And.intro hx (H3.out.2.2.trans hb))))
  clear hx hb H3 tA tB tC
  have hXs := Lib.hid (ofL_sorted A)
  generalize ofL A = X at *
  generalize ofL B = Y at *
  generalize ofL C = Z at *
  generalize bits BinOp.and IntKind.i64 k 15 = K at *
  have hKr : -9223372036854775808 ≤ K ∧ K ≤ 9223372036854775807 := by omega
  have n1 := timesL_len X Y K
  have n2 := timesL_len Y Z K
  have m1 : X.length * Y.length ≤ 8 * 8 := Nat.mul_le_mul (by omega) (by omega)
  have m2 : Y.length * Z.length ≤ 8 * 8 := Nat.mul_le_mul (by omega) (by omega)
  have n1' : (timesL X Y K).length ≤ 64 := by omega
  have n2' : (timesL Y Z K).length ≤ 64 := by omega
  have n3 := timesL_len (timesL X Y K) Z K
  have m3 : (timesL X Y K).length * Z.length ≤ 64 * 8 := Nat.mul_le_mul n1' (by omega)
  have n3' : (timesL (timesL X Y K) Z K).length ≤ 512 := by omega
  have hAs := Lib.hid (timesL_assoc X Y Z K)
  have xl : X.length ≤ 8 := by omega
  have yl : Y.length ≤ 8 := by omega
  have zl : Z.length ≤ 8 := by omega
  clear n1 n2 m1 m2 n3 m3 lA lB lC
  go_wp2_with fail
  refine (times_e H4.out.1 H4.out.2.1 (up5 SA.out) (up5 SB.out) (by omega) (by omega) K hKr).mono ?_
  rintro e w5 ⟨ob1, rfl, hx, hb⟩
  have H5 := Lib.hid (And.intro (H4.out.1.go hb) (And.intro (H4.out.2.1.go hb) (And.intro (H4.out.2.2.1.go hb) (And.intro (H4.out.2.2.2.trans hb) hx))))
  clear hx hb H4
  go_wp2_with fail
  refine (times_e H5.out.2.2.2.2 H5.out.2.2.1 (up5 (t20 hK1)) (up5 SC.out) (by omega) (by omega) K hKr).mono ?_
  rintro e w6 ⟨ob2, rfl, hx, hb⟩
  have H6 := Lib.hid (And.intro (H5.out.1.go hb) (And.intro (H5.out.2.1.go hb) (And.intro (H5.out.2.2.1.go hb) (And.intro (H5.out.2.2.2.1.trans hb) hx))))
  clear hx hb H5
  go_wp2_with fail
  refine (times_e H6.out.2.1 H6.out.2.2.1 (up5 SB.out) (up5 SC.out) (by omega) (by omega) K hKr).mono ?_
  rintro e w7 ⟨ob3, rfl, hx, hb⟩
  have H7 := Lib.hid (And.intro (H6.out.1.go hb) (And.intro (H6.out.2.2.2.2.go hb) (And.intro (H6.out.2.2.2.1.trans hb) hx)))
  clear hx hb H6
  go_wp2_with fail
  refine (times_e H7.out.1 H7.out.2.2.2 (up5 SA.out) (up5 (t20 hK1)) (by omega) (by omega) K hKr).mono ?_
  rintro e w8 ⟨ob4, rfl, hx, hb⟩
  rw [← hAs.out] at hx
  have H8 := Lib.hid (And.intro (H7.out.1.go hb) (And.intro (H7.out.2.1.go hb) (And.intro (H7.out.2.2.1.trans hb) hx)))
  clear hx hb H7 hAs
  go_wp2_with fail
  refine (same_e H8.out.2.1 H8.out.2.2.2 (sht (t20 hK1)) (sht (t20 hK1)) (by omega) (by omega)).mono ?_
  rintro e w9 ⟨rfl, hb⟩
  rw [decide_eq_true (rfl : timesL (timesL X Y K) Z K = timesL (timesL X Y K) Z K)]
  have H9 := Lib.hid (And.intro (H8.out.1.go hb) (H8.out.2.2.1.trans hb))
  clear hb H8 n1' n2' n3'
  go_wp2_with fail
  refine (of_e (A := []) (lsts_nil _ none) (by simp) (fun y hy => by simp at hy)).mono ?_
  rintro e w10 ⟨eb, rfl, hx, hb⟩
  rw [of_nil] at hx
  have H10 := Lib.hid (And.intro (H9.out.1.go hb) (And.intro (H9.out.2.trans hb) hx))
  clear hx hb H9
  go_wp2_with fail
  refine (times_e H10.out.1 H10.out.2.2 (up5 SA.out) (fun y hy => by simp at hy) (by omega) (by simp) K hKr).mono ?_
  rintro e w11 ⟨ob5, rfl, hx, hb⟩
  rw [timesL_nil] at hx
  have H11 := Lib.hid (And.intro (H10.out.1.go hb) (And.intro (H10.out.2.1.trans hb) hx))
  clear hx hb H10
  go_wp2_with fail
  refine (len_e H11.out.2.2).mono ?_
  rintro e w11' ⟨rfl, rfl⟩
  go_wp2_with fail
  refine (of_e (A := []) (lsts_nil _ none) (by simp) (fun y hy => by simp at hy)).mono ?_
  rintro e w12 ⟨eb2, rfl, hx, hb⟩
  rw [of_nil] at hx
  have H12 := Lib.hid (And.intro (H11.out.1.go hb) (And.intro (H11.out.2.1.trans hb) hx))
  clear hx hb H11
  go_wp2_with fail
  refine (times_e H12.out.2.2 H12.out.1 (fun y hy => by simp at hy) (up5 SA.out) (by simp) (by omega) K hKr).mono ?_
  rintro e w13 ⟨ob6, rfl, hx, hb⟩
  rw [nil_timesL] at hx
  have H13 := Lib.hid (And.intro (H12.out.1.go hb) (And.intro (H12.out.2.1.trans hb) hx))
  clear hx hb H12
  go_wp2_with fail
  refine (len_e H13.out.2.2).mono ?_
  rintro e w13' ⟨rfl, rfl⟩
  go_wp2_with fail
  refine (of_e (A := [[]]) (lsts1 (heap2 _ _ _)) (by simp) (fun y hy => by simp at hy; subst hy; simp)).mono ?_
  rintro e w14 ⟨eb3, rfl, hx, hb⟩
  rw [of_one] at hx
  have hg := Grow.trans (grow2 w13 (.cells #[] 3) (.cells #[.slice (some ⟨w13.heap.size, 0, none⟩) 0 0] 22)) hb
  have H14 := Lib.hid (And.intro (H13.out.1.go hg) (And.intro (H13.out.2.1.trans hg) hx))
  clear hx hb hg H13
  go_wp2_with fail
  refine (times_e H14.out.1 H14.out.2.2 (up5 SA.out) (fun y hy => by simp at hy; subst hy; simp) (by omega) (by simp) K hKr).mono ?_
  rintro e w15 ⟨ob7, rfl, hx, hb⟩
  have H15 := Lib.hid (And.intro (H14.out.1.go hb) (And.intro (H14.out.2.1.trans hb) hx))
  clear hx hb H14
  have hOne := Lib.hid (timesL_one X K)
  have hOs : Hid (∀ y ∈ timesL X [[]] K, (y.length : Int) ≤ K) := Lib.hid (timesL_one_short hK0)
  have hOl := timesL_len X [[]] K
  simp only [List.length_singleton, Nat.mul_one] at hOl
  have hSO := Lib.hid (sht (L := timesL X [[]] K) (t20 hK1))
  generalize timesL X [[]] K = O at *
  go_wp2_with fail
  refine (all_e H15.out.2.2 hSO.out (by omega)).mono ?_
  rintro e w16 ⟨va, vc, rfl, hls, hb⟩
  have H16 := Lib.hid (And.intro (H15.out.1.go hb) (And.intro (H15.out.2.1.trans hb) (H15.out.2.2.go hb)))
  have L16 := Lib.hid hls
  clear hls hb H15
  go_wp2
  go_loop [94] (fun i => ∃ q : Nat, q ≤ O.length ∧ i = .int .i64 q) (fun i => O.length - (intOf i).toNat)
  case atStart => exact ⟨0, by omega, rfl⟩
  case round =>
    obtain ⟨q, hq, rfl⟩ := hrel
    by_cases hlt : q < O.length
    · have hki : (q : Int) < O.length := by omega
      obtain ⟨b1, o1, c1, d1, rfl, hb1, hc1, -⟩ := L16.out q hlt
      have hle := hOs.out _ (List.getElem_mem hlt)
      have hng : ¬ K < (O[q].length : Int) := by omega
      generalize O[q] = y at *
      go_wp2
      go_round
      case rel => exact ⟨q + 1, by omega, by go_num⟩
      case measure => simp [intOf]; omega
    · have hki : ¬ (q : Int) < O.length := by omega
      go_wp2_with fail
      refine (of_e (A := [[]]) (lsts1 (heap2 _ _ _)) (by simp) (fun y hy => by simp at hy; subst hy; simp)).mono ?_
      rintro e w17 ⟨eb4, rfl, hx, hb⟩
      rw [of_one] at hx
      have hg := Grow.trans (grow2 w16 (.cells #[] 3) (.cells #[.slice (some ⟨w16.heap.size, 0, none⟩) 0 0] 22)) hb
      have H17 := Lib.hid (And.intro (H16.out.1.go hg) (And.intro (H16.out.2.1.trans hg) (And.intro (H16.out.2.2.go hg) hx)))
      clear hx hb hg H16 L16
      go_wp2_with fail
      refine (times_e H17.out.2.2.2 H17.out.1 (fun y hy => by simp at hy; subst hy; simp) (up5 SA.out) (by simp) (by omega) K hKr).mono ?_
      rintro e w18 ⟨ob8, rfl, hx, hb⟩
      rw [← hOne.out] at hx
      have H18 := Lib.hid (And.intro (H17.out.1.go hb) (And.intro (H17.out.2.1.trans hb) (And.intro (H17.out.2.2.1.go hb) hx)))
      clear hx hb H17
      go_wp2_with fail
      refine (same_e H18.out.2.2.1 H18.out.2.2.2 hSO.out hSO.out (by omega) (by omega)).mono ?_
      rintro e w19 ⟨rfl, hb⟩
      rw [decide_eq_true (rfl : O = O)]
      have H19 := Lib.hid (And.intro (H18.out.1.go hb) (And.intro (H18.out.2.1.trans hb) (H18.out.2.2.1.go hb)))
      clear hb H18
      go_wp2_with fail
      refine (len_e H19.out.2.2).mono ?_
      rintro e w19' ⟨rfl, rfl⟩
      go_wp2_with fail
      refine (len_e H19.out.1).mono ?_
      rintro e w19' ⟨rfl, rfl⟩
      have hli : (O.length : Int) ≤ X.length := by omega
      go_wp2_with fail
      refine (meet_e H19.out.1 H19.out.1 (sht SA.out) (sht SA.out) (by omega) (by omega)).mono ?_
      rintro e w20 ⟨mb, rfl, hx, hb⟩
      rw [meetL_self hXs.out] at hx
      have H20 := Lib.hid (And.intro (H19.out.1.go hb) (And.intro (H19.out.2.1.trans hb) hx))
      clear hx hb H19
      go_wp2_with fail
      refine (same_e H20.out.2.2 H20.out.1 (sht SA.out) (sht SA.out) (by omega) (by omega)).mono ?_
      rintro e w21 ⟨rfl, hb⟩
      rw [decide_eq_true (rfl : X = X)]
      have H21 := Lib.hid (H20.out.2.1.trans hb)
      clear hb H20
      go_wp2
      go_ret
      exact ⟨rfl, H21.out⟩

set_option maxRecDepth 100000 in
theorem lifted (os : Os) (started : os.Started) (H : Type) (enc : TypeId × Value → H) :
    ReturnsInHanded {} Try.checked os 5 .any (Rows.strsTimesSpec.pre6 enc Try.prog Try.f5 Rows.strsTimesRow.domain false) (Rows.strsTimesSpec.post enc Try.prog Try.f5 false true false false) := by
  refine returnsInHanded_of_change (C := Try.checked) own started (by kernel_rfl) Try.func5
    (ChangeSpec.witness6 (enc := enc) (C := Try.checked) false ⟨#[], #[.slice none 0 0, .slice none 0 0, .slice none 0 0, .int .i64 0], []⟩ 8 (by kernel_rfl) (by kernel_rfl) (by kernel_rfl) (by kernel_rfl)) ?_
  intro W base args ds gs before hval0 hW hcnd _
  have hval : ∀ (j : Nat) t v, Try.f5.params[j]? = some t → args[j]? = some v → Value.okWide Try.prog W .any base t v := hval0
  have hW' := hW
  obtain ⟨p, q, hA0, hV, rfl, hfz, hnd⟩ := hW
  have hA : DataW.TrodAll enc Try.prog W 0 (fun _ => true) true Try.f5.params.toList args.toList ds p := hA0
  rw [Try.params5] at hA hval
  obtain ⟨v0, vs0, d0, ds0, p0, q0, hargs, rfl, rfl, h0, r0⟩ := trodAll_cons hA
  obtain ⟨v1, vs1, d1, ds1, p1, q1, rfl, rfl, rfl, h1, r1⟩ := trodAll_cons r0
  obtain ⟨v2, vs2, d2, ds2, p2, q2, rfl, rfl, rfl, h2, r2⟩ := trodAll_cons r1
  obtain ⟨v3, vs3, d3, ds3, p3, q3, rfl, rfl, rfl, h3, r3⟩ := trodAll_cons r2
  obtain ⟨rfl, rfl, rfl⟩ := trodAll_nil r3
  obtain rfl : args = #[v0, v1, v2, v3] := by cases args; simp_all
  obtain ⟨rfl, rfl⟩ := trodVars_none hV
  have k0 := h0
  have lt0 : ∀ x ∈ p0, x.block < W.heap.size := by obtain ⟨m, hm⟩ := k0; exact DataW.trod_lt m _ _ _ hm
  obtain ⟨a0, xs0, cap0, rfl, hi0, hl0, hm0, hn0⟩ := lsts_of_val (hval 0 29 v0 rfl rfl) h0
  have k1 := h1
  have lt1 : ∀ x ∈ p1, x.block < W.heap.size := by obtain ⟨m, hm⟩ := k1; exact DataW.trod_lt m _ _ _ hm
  obtain ⟨a1, xs1, cap1, rfl, hi1, hl1, hm1, hn1⟩ := lsts_of_val (hval 1 29 v1 rfl rfl) h1
  have k2 := h2
  have lt2 : ∀ x ∈ p2, x.block < W.heap.size := by obtain ⟨m, hm⟩ := k2; exact DataW.trod_lt m _ _ _ hm
  obtain ⟨a2, xs2, cap2, rfl, hi2, hl2, hm2, hn2⟩ := lsts_of_val (hval 2 29 v2 rfl rfl) h2
  obtain ⟨a3, rfl, rfl, rfl, w3⟩ := open_int Try.underlying3 (hval 3 3 v3 rfl rfl) h3
  clear hA0 hval0
  refine (walk hi0 hl0 hm0 hn0 hi1 hl1 hm1 hn1 hi2 hl2 hm2 hn2 a3 (range_of w3)).mono fun e W' ⟨he, bel⟩ => ?_
  subst he
  exact ⟨_, rfl, _, _, _, [], _, [], hW', trodAll_mk1 (shut_bool Try.underlying4 _), (trodAll_cons_mk (Below.trod laidOut (by kernel_rfl) (of_decide_eq_true (by kernel_rfl)) k0 bel lt0) (trodAll_cons_mk (Below.trod laidOut (by kernel_rfl) (of_decide_eq_true (by kernel_rfl)) k1 bel lt1) (trodAll_cons_mk (Below.trod laidOut (by kernel_rfl) (of_decide_eq_true (by kernel_rfl)) k2 bel lt2) (trodAll_cons_mk (shut_int Try.underlying3 w3) trodAll_mk0)))), rfl, bel.frame _, fun h => by cases h⟩

theorem over : Rows.strsTimesRow.holds Try.pinned (OpenSpec.ofChange Rows.strsTimesSpec) :=
  OpenClaim.holds_of_wide 5 Try.f5 rfl rfl rfl rfl rfl rfl rfl ⟨rfl, rfl, rfl, rfl, rfl⟩ rfl rfl rfl rfl rfl (by kernel_rfl) Try.func5 (by kernel_rfl)
    (of_decide_eq_true (by kernel_rfl)) (by unfold Func.isWrapper; first | (rw [if_pos (by decide +kernel)]; kernel_rfl) | (rw [if_neg (by decide +kernel)]; exact ⟨rfl, rfl⟩))
    (fun os started H enc _ => lifted os started H enc)

theorem proved : Rows.StrsTimesSaid := over
#print axioms proved
end Go.Proofs.Ytoiinikbbkmjoaa.strsTimes
