/-
  StrsWords answers true, and leaves its arguments as they were, for all words and every k. No conditions.
-/
import Derived.Test.YtoiinikbbkmjoaaOpen
import Derived.Test.YtoiinikbbkmjoaaRows
import Derived.WalkKit
import Derived.ProofKit
import Derived.OpenShut
import Derived.ShutString
import Derived.ChangeOld
import Derived.Below
namespace Go.Proofs.Ytoiinikbbkmjoaa.strsWords
open Go.ChangeShapes Go.WideShapes Go.ChangeAt Go.RowKit
set_option linter.unusedVariables false

theorem own : ownKnob Try.prog.godebug = none := by kernel_rfl
theorem laidOut : laidOutB Try.prog = true := by kernel_rfl
theorem cmpL_want (a b : List Int) : cmpL a b = if lessL b a then 1 else if lessL a b then -1 else 0 := by
  unfold cmpL
  rcases lessL_tri a b with h | h | h
  · have h2 : lessL b a = false := by
      cases h3 : lessL b a
      · rfl
      · have := lessL_trans h h3; rw [lessL_irr] at this; simp at this
    rw [h, h2]; rfl
  · subst h; rw [lessL_irr]; simp
  · have h2 : lessL a b = false := by
      cases h3 : lessL a b
      · rfl
      · have := lessL_trans h h3; rw [lessL_irr] at this; simp at this
    have h4 : a ≠ b := fun e => by subst e; rw [h] at h2; simp at h2
    rw [h, h2, if_neg (by simp), if_neg h4]; rfl
theorem grow_drewN (w : World) (n : Nat) : Grow w (w.drewN n) := ⟨rfl, rfl, rfl, Nat.le_refl _, fun _ _ => rfl⟩
theorem less_g {a b : Option Addr} {ca cb : Nat} {xs ys : List Int} {w : World} (ha : Lst w a xs) (hb : Lst w b ys) (hx : xs.length ≤ 10000) (hy : ys.length ≤ 10000) :
    Calls Try.prog 9 #[.slice a xs.length ca, .slice b ys.length cb] w fun e w' => e = .returned (.bool (lessL xs ys)) ∧ Grow w w' :=
  (less_any ha hb (by omega) (by omega)).mono (fun _ _ h => ⟨h.1, by obtain ⟨n, h2⟩ := h.2; rw [h2]; exact grow_drewN _ _⟩)
theorem same_g {a b : Option Addr} {ca cb : Nat} {xs ys : List Int} {w : World} (ha : Lst w a xs) (hb : Lst w b ys) (hx : xs.length ≤ 10000) (hy : ys.length ≤ 10000) :
    Calls Try.prog 11 #[.slice a xs.length ca, .slice b ys.length cb] w fun e w' => e = .returned (.bool (decide (xs = ys))) ∧ Grow w w' :=
  (same_any ha hb (by omega) (by omega)).mono (fun _ _ h => ⟨h.1, by obtain ⟨n, h2⟩ := h.2; rw [h2]; exact grow_drewN _ _⟩)
def Word (xs : List Int) (w : World) (e : Ending) (w' : World) : Prop := ∃ a c, e = .returned (.slice a xs.length c) ∧ Lst w' a xs ∧ Grow w w'
theorem word_of {xs : List Int} {w w' : World} {e : Ending} (h : WPost xs w e w') : Word xs w e w' := by
  obtain ⟨v, rfl, hown, hb⟩ := h
  obtain ⟨a, c, rfl, _, hi, _, _⟩ := hown.shape
  exact ⟨a, c, rfl, hi, hb⟩
set_option maxRecDepth 100000 in
set_option maxHeartbeats 4000000 in
theorem walk {w : World} {a0 : Option Addr} {cap0 : Nat} {xs : List Int} (hi0 : Lst w a0 xs) (hl0 : xs.length ≤ cap0) (hm0 : cap0 ≤ maxLen) (hn0 : a0 = none → cap0 = 0)
    {a1 : Option Addr} {cap1 : Nat} {ys : List Int} (hi1 : Lst w a1 ys) (hl1 : ys.length ≤ cap1) (hm1 : cap1 ≤ maxLen) (hn1 : a1 = none → cap1 = 0) (k : Int) (hk : -9223372036854775808 ≤ k ∧ k ≤ 9223372036854775807) :
    Calls Try.prog 3 #[.slice a0 xs.length cap0, .slice a1 ys.length cap1, .int .i64 k] w fun e w' => e = .returned (.bool true) ∧ Below w.heap.size w w' := by
  have HF0 := Lib.hid hi0
  have HF1 := Lib.hid hi1
  clear hi0 hi1
  go_enter Try.func3, Try.ntmps3
  go_wp2_with fail
  refine (alive_any _).mono ?_
  rintro e w1 ⟨rfl, hb⟩
  have H1 := Lib.hid hb
  clear hb
  by_cases hlong0 : (20 : Int) < xs.length
  · go_wp2
    go_ret
    exact ⟨rfl, H1.out⟩
  by_cases hlong1 : (20 : Int) < ys.length
  · go_wp2
    go_ret
    exact ⟨rfl, H1.out⟩
  have HW := Lib.hid (cmpL_want xs ys)
  have hcl : (cutL xs k).length ≤ 10000 := by unfold cutL; simp; omega
  have hjl : (joinL xs ys k).length ≤ 10000 := by have := joinL_len xs ys k; omega
  go_wp2_with fail
  refine (less_g (HF0.out.go H1.out) (HF1.out.go H1.out) (by omega) (by omega)).mono ?_
  rintro e w2 ⟨rfl, hb⟩
  have H2 := Lib.hid (H1.out.trans hb)
  clear hb H1
  cases h1 : lessL xs ys
  all_goals
    go_wp2_with fail
    refine (less_g (HF1.out.go H2.out) (HF0.out.go H2.out) (by omega) (by omega)).mono ?_
    rintro e w3 ⟨rfl, hb⟩
    have H3 := Lib.hid (H2.out.trans hb)
    clear hb
    cases h2 : lessL ys xs
    all_goals
      have HW2 := Lib.hid (HW.out)
      rw [h1, h2] at HW2
      simp only [if_true, if_false, Bool.false_eq_true] at HW2
      clear h1 h2
      go_wp2_with fail
      refine (compare_any (HF0.out.go H3.out) (HF1.out.go H3.out) (by omega) (by omega)).mono ?_
      rintro e w4 ⟨rfl, hw⟩
      have H4 : Hid (Grow w w4) := Lib.hid (by rw [← hw]; exact H3.out)
      clear hw
      rw [HW2.out]
      go_wp2_with fail
      refine ((cut_any (k := k) (HF0.out.go H4.out) hn0 (by omega) hl0).mono (fun _ _ h => word_of h)).mono ?_
      rintro e w5 ⟨b5, c5, rfl, hx5, hb⟩
      have H5 := Lib.hid (H4.out.trans hb)
      have X5 := Lib.hid hx5
      clear hb hx5
      go_wp2_with fail
      refine ((rcut_any (k := k) (HF0.out.go H5.out) (Nat.le_refl _) (by omega)).mono (fun _ _ h => word_of h)).mono ?_
      rintro e w6 ⟨b6, c6, rfl, hx6, hb⟩
      have H6 := Lib.hid (H5.out.trans hb)
      have X6 := Lib.hid (And.intro (X5.out.go hb) hx6)
      clear hb hx6
      go_wp2_with fail
      refine (same_g X6.out.1 X6.out.2 hcl hcl).mono ?_
      rintro e w7 ⟨rfl, hb⟩
      have H7 := Lib.hid (H6.out.trans hb)
      clear hb
      rw [decide_eq_true (rfl : cutL xs k = cutL xs k)]
      go_wp2_with fail
      refine ((join_any (HF0.out.go H7.out) hn0 (by omega) hl0 (HF1.out.go H7.out) hn1 (by omega) hl1 (Nat.le_refl _) k hk).mono (fun _ _ h => word_of h)).mono ?_
      rintro e w8 ⟨b8, c8, rfl, hx8, hb⟩
      have H8 := Lib.hid (H7.out.trans hb)
      have X8 := Lib.hid hx8
      clear hb hx8
      go_wp2_with fail
      refine ((rjoin_any (HF0.out.go H8.out) hn0 (by omega) (HF1.out.go H8.out) hn1 (by omega) (Nat.le_refl _) k).mono (fun _ _ h => word_of h)).mono ?_
      rintro e w9 ⟨b9, c9, rfl, hx9, hb⟩
      have H9 := Lib.hid (H8.out.trans hb)
      have X9 := Lib.hid (And.intro (X8.out.go hb) hx9)
      clear hb hx9
      go_wp2_with fail
      refine (same_g X9.out.1 X9.out.2 hjl hjl).mono ?_
      rintro e w10 ⟨rfl, hb⟩
      have H10 := Lib.hid (H9.out.trans hb)
      clear hb
      rw [decide_eq_true (rfl : joinL xs ys k = joinL xs ys k)]
      go_wp2
      go_ret
      exact ⟨rfl, H10.out⟩

set_option maxRecDepth 100000 in
theorem lifted (os : Os) (started : os.Started) (H : Type) (enc : TypeId × Value → H) :
    ReturnsInHanded {} Try.checked os 3 .any (Rows.strsWordsSpec.pre6 enc Try.prog Try.f3 Rows.strsWordsRow.domain false) (Rows.strsWordsSpec.post enc Try.prog Try.f3 false true false false) := by
  refine returnsInHanded_of_change (C := Try.checked) own started (by kernel_rfl) Try.func3
    (ChangeSpec.witness6 (enc := enc) (C := Try.checked) false ⟨#[], #[.slice none 0 0, .slice none 0 0, .int .i64 0], []⟩ 8 (by kernel_rfl) (by kernel_rfl) (by kernel_rfl) (by kernel_rfl)) ?_
  intro W base args ds gs before hval0 hW hcnd _
  have hval : ∀ (j : Nat) t v, Try.f3.params[j]? = some t → args[j]? = some v → Value.okWide Try.prog W .any base t v := hval0
  have hW' := hW
  obtain ⟨p, q, hA0, hV, rfl, hfz, hnd⟩ := hW
  have hA : DataW.TrodAll enc Try.prog W 0 (fun _ => true) true Try.f3.params.toList args.toList ds p := hA0
  rw [Try.params3] at hA hval
  obtain ⟨v0, vs0, d0, ds0, p0, q0, hargs, rfl, rfl, h0, r0⟩ := trodAll_cons hA
  obtain ⟨v1, vs1, d1, ds1, p1, q1, rfl, rfl, rfl, h1, r1⟩ := trodAll_cons r0
  obtain ⟨v2, vs2, d2, ds2, p2, q2, rfl, rfl, rfl, h2, r2⟩ := trodAll_cons r1
  obtain ⟨rfl, rfl, rfl⟩ := trodAll_nil r2
  obtain rfl : args = #[v0, v1, v2] := by cases args; simp_all
  obtain ⟨rfl, rfl⟩ := trodVars_none hV
  have k0 := h0
  have lt0 : ∀ x ∈ p0, x.block < W.heap.size := by obtain ⟨m, hm⟩ := k0; exact DataW.trod_lt m _ _ _ hm
  obtain ⟨a0, xs0, cap0, rfl, hi0, hl0, hm0, hn0⟩ := ints_of_val (hval 0 22 v0 rfl rfl) h0
  have k1 := h1
  have lt1 : ∀ x ∈ p1, x.block < W.heap.size := by obtain ⟨m, hm⟩ := k1; exact DataW.trod_lt m _ _ _ hm
  obtain ⟨a1, xs1, cap1, rfl, hi1, hl1, hm1, hn1⟩ := ints_of_val (hval 1 22 v1 rfl rfl) h1
  obtain ⟨a2, rfl, rfl, rfl, w2⟩ := open_int Try.underlying3 (hval 2 3 v2 rfl rfl) h2
  clear hA0 hval0
  refine (walk hi0 hl0 hm0 hn0 hi1 hl1 hm1 hn1 a2 (range_of w2)).mono fun e W' ⟨he, bel⟩ => ?_
  subst he
  exact ⟨_, rfl, _, _, _, [], _, [], hW', trodAll_mk1 (shut_bool Try.underlying4 _), (trodAll_cons_mk (Below.trod laidOut (by kernel_rfl) (of_decide_eq_true (by kernel_rfl)) k0 bel lt0) (trodAll_cons_mk (Below.trod laidOut (by kernel_rfl) (of_decide_eq_true (by kernel_rfl)) k1 bel lt1) (trodAll_cons_mk (shut_int Try.underlying3 w2) trodAll_mk0))), rfl, bel.frame _, fun h => by cases h⟩

theorem over : Rows.strsWordsRow.holds Try.pinned (OpenSpec.ofChange Rows.strsWordsSpec) :=
  OpenClaim.holds_of_wide 3 Try.f3 rfl rfl rfl rfl rfl rfl rfl ⟨rfl, rfl, rfl, rfl, rfl⟩ rfl rfl rfl rfl rfl (by kernel_rfl) Try.func3 (by kernel_rfl)
    (of_decide_eq_true (by kernel_rfl)) (by unfold Func.isWrapper; first | (rw [if_pos (by decide +kernel)]; kernel_rfl) | (rw [if_neg (by decide +kernel)]; exact ⟨rfl, rfl⟩))
    (fun os started H enc _ => lifted os started H enc)

theorem proved : Rows.StrsWordsSaid := over
#print axioms proved
end Go.Proofs.Ytoiinikbbkmjoaa.strsWords
