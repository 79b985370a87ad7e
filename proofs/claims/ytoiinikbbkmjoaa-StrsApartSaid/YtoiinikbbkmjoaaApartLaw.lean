/-
  StrsApart answers true, and leaves its arguments as they were, for all words and every number. No conditions.
-/
import Derived.Test.YtoiinikbbkmjoaaApart1
import Derived.Test.YtoiinikbbkmjoaaRows
import Derived.WalkKit
import Derived.ProofKit
import Derived.OpenShut
import Derived.ShutString
import Derived.ChangeOld
import Derived.Below
namespace Go.Proofs.Ytoiinikbbkmjoaa.strsApart
open Go.ChangeShapes Go.WideShapes Go.ChangeAt Go.RowKit
set_option linter.unusedVariables false

theorem own : ownKnob Try.prog.godebug = none := by kernel_rfl
theorem laidOut : laidOutB Try.prog = true := by kernel_rfl
theorem few_short {L : List (List Int)} (h : Few L) : ∀ y ∈ ofL L, y.length ≤ 20 := fun y hy => h.2 y (mem_ofL.1 hy)
theorem sht {L : List (List Int)} (h : ∀ y ∈ L, y.length ≤ 20) : Short L := fun y hy => by have := h y hy; omega
theorem Loose.lit {lo hi : Nat} {v : Value} {L : List (List Int)} {w : World} (h : Loose lo hi v L w) : ∃ a c, v = .slice a L.length c := by
  obtain ⟨vs, h1, h2, h3⟩ := h
  exact row_lit h1 h2
/-- What the turning of one number leaves of a set and of what is older. -/
theorem kept_set {w0 w : World} {lo hi g j : Nat} {u : Value} (h : Kept (fun k => lo ≤ k ∧ k < hi) w0 w) (h1 : lo ≤ g) (h2 : g < hi) : Kept (fun k => lo ≤ k ∧ k < hi) w0 (w.setCell ⟨g, j, none⟩ u) :=
  h.setCell (.inl ⟨h1, h2⟩) u
set_option maxRecDepth 100000 in
set_option maxHeartbeats 16000000 in
theorem walk {w : World} {a0 : Option Addr} {cap0 : Nat} {A : List (List Int)} (hi0 : Lsts w a0 A) (hl0 : A.length ≤ cap0) (hm0 : cap0 ≤ maxLen) (hn0 : a0 = none → cap0 = 0) (by0 : Int) (hby : -9223372036854775808 ≤ by0 ∧ by0 ≤ 9223372036854775807) :
    Calls Try.prog 4 #[.slice a0 A.length cap0, .int .i64 by0] w fun e w' => e = .returned (.bool true) ∧ Below w.heap.size w w' := by
  have HF0 := Lib.hid hi0
  simp only [maxLen] at hm0
  clear hi0
  go_enter Try.func4, Try.ntmps4
  go_wp2_with fail
  refine (alive_any _).mono ?_
  rintro e w1 ⟨rfl, hb⟩
  have H1 := Lib.hid hb
  clear hb
  go_wp2_with fail
  refine (few_any (HF0.out.go H1.out) (by omega)).mono ?_
  rintro e w1' ⟨b, rfl, rfl, hf⟩
  cases b
  · go_wp2
    go_ret
    exact ⟨rfl, H1.out⟩
  have HA := Lib.hid (hf rfl)
  clear hf
  have tA : Short A := fun y hy => by have := HA.out.2 y hy; omega
  have TA := Lib.hid tA
  have SA := Lib.hid (sht (few_short HA.out))
  have fA := HA.out.1
  clear tA
  go_wp2
  go_loopw [5, 23] (fun v i wr => ∃ p : Nat, p ≤ A.length ∧ i = .int .i64 p ∧ Hid (Made w1.heap.size v (A.take p) wr ∧ Grow w1 wr)) (fun _ i _ => A.length - (intOf i).toNat)
  case atStart => exact ⟨0, by omega, rfl, Lib.hid ⟨madeR_new w1 w1.heap.size, (Below.refl _ _).alloc (Nat.le_refl _) _⟩⟩
  case round =>
    obtain ⟨p, hp, rfl, hf⟩ := hrel
    by_cases hlt : p < A.length
    · have hki : (p : Int) < A.length := by omega
      obtain ⟨b, o, ai, di, rfl, hb, hc0, hi, hd, -⟩ := HF0.out p hlt
      have hc := (below_cell (Below.trans H1.out (Below.mono hf.out.2 H1.out.size)) hb).trans hc0
      have hll := TA.out _ (List.getElem_mem hlt)
      have HT := Lib.hid (List.take_succ_eq_append_getElem hlt)
      have hll2 : (A.take p).length ≤ 20 := by simp; omega
      have hl3 : (A.take p).length = p := by simp; omega
      have HI := Lib.hid hi
      have HL3 := Lib.hid hl3
      clear hi hc0 hl3
      generalize A[p] = x at *
      go_wp2_with (first
        | (at_builtin; (refine append_ints rfl (.tmp 28) (.tmp 29) 22 rfl Try.underlying22 info3 wr.heap.size (.slice (some ⟨wr.heap.size, 0, none⟩) 0 0) [] rfl (own_empty _ (Nat.le_refl _)) ai di x.length x rfl rfl hd ((HI.out.go (Grow.trans (Grow.trans H1.out hf.out.2) ((Below.refl _ _).alloc (Nat.le_refl _) _))).src) (by simp only [List.length_nil]; omega) (by simp) ?_); intro v3 w3 hown3 hgrow3
           rw [List.nil_append] at hown3
           have hb3 : Grow wr w3 := Below.trans ((Below.refl _ _).alloc (Nat.le_refl _) _) (below_grown (own_empty wr (Nat.le_refl _)) hgrow3 (by simp))
           have H3 := Lib.hid (And.intro (hf.out.1.go hb3) (And.intro (hf.out.2.trans hb3) (own_mono hown3 hf.out.2.size)))
           obtain ⟨va, vc, rfl, -, -⟩ := hown3.shape
           clear hown3 hgrow3 hb3 hf)
        | (at_builtin; (refine append_word rfl (.tmp 27) (.tmp 31) rfl w1.heap.size w1.heap.size _ rfl (A.take p) (H3.out.1.r.go ((Below.refl _ _).alloc (Nat.le_refl _) _)) x (.slice va x.length vc) (H3.out.2.2.alloc _) w3.heap.size rfl (heap_alloc_this _ _) (by omega) (by have := H3.out.2.1.size; simp; omega) ?_); intro g4 cap4 w4 hm4 hb4
           have H4 := Lib.hid (And.intro hm4 ((H3.out.2.1.alloc H3.out.2.1.size _).trans hb4))
           clear hm4 hb4 H3))
      go_roundw
      case rel => exact ⟨p + 1, by omega, by go_num, Lib.hid ⟨by rw [HT.out]; have h := H4.out.1; rw [HL3.out] at h; exact h, H4.out.2⟩⟩
      case measure => simp [intOf]; omega
    · have hki : ¬ (p : Int) < A.length := by omega
      have e : A.take p = A := List.take_of_length_le (by omega)
      rw [e] at hf
      obtain ⟨va, vc, rfl⟩ := hf.out.1.lit
      have HG := Lib.hid (Grow.trans H1.out hf.out.2)
      go_wp2_with fail
      refine (of_own hf.out.1.l (by omega) TA.out).mono ?_
      rintro e w5 ⟨sb, rfl, hs, hb⟩
      have H5 := Lib.hid (And.intro hs (And.intro (hf.out.1.loose.go hb) (And.intro (HG.out.trans hb) hb.size)))
      clear hs hb hf
      have hsz1 := H1.out.size
      go_wp2
      generalize hlo : w1.heap.size = lo at *
      generalize hhi : wr.heap.size = hi at *
      go_loopw [38] (fun i wq => ∃ p : Nat, p ≤ A.length ∧ i = .int .i64 p ∧ Hid (Loose lo hi (.slice va A.length vc) A wq ∧ Kept (fun k => lo ≤ k ∧ k < hi) w5 wq)) (fun i _ => A.length - (intOf i).toNat)
      case atStart => exact ⟨0, by omega, rfl, Lib.hid ⟨H5.out.2.1, Kept.refl _ _⟩⟩
      case round =>
        obtain ⟨p, hp, rfl, hq⟩ := hrel
        by_cases hlt : p < A.length
        · have hki : (p : Int) < A.length := by omega
          obtain ⟨g, ai, di, rfl, hc, hsp⟩ := hq.out.1.at hlt
          have HSP := Lib.hid hsp
          have hll := TA.out _ (List.getElem_mem hlt)
          clear hsp
          generalize A[p] = x at *
          go_wp2
          go_loopw [44] (fun j wz => ∃ q : Nat, q ≤ x.length ∧ j = .int .i64 q ∧ Hid (Loose lo hi (.slice (some ⟨g, 0, none⟩) A.length vc) A wz ∧ Spot lo hi wz (.slice ai x.length di) x.length ∧ Kept (fun k => lo ≤ k ∧ k < hi) w5 wz)) (fun j _ => x.length - (intOf j).toNat)
          case atStart => exact ⟨0, by omega, rfl, Lib.hid ⟨hq.out.1, HSP.out, hq.out.2⟩⟩
          case round =>
            obtain ⟨q, hql, rfl, hz⟩ := hrel
            clear hc
            by_cases hqt : q < x.length
            · have hqi : (q : Int) < x.length := by omega
              have hq0 : (0 : Int) ≤ q := by omega
              obtain ⟨g2, z, cur, rfl, hcz, hfz, h1, h2, hh⟩ := hz.out.2.1.at hqt
              have HH := Lib.hid hh
              clear hh
              go_wp2
              go_roundw
              case rel => exact ⟨q + 1, by omega, by go_num, Lib.hid ⟨hz.out.1.set HH.out, hz.out.2.1.set HH.out, kept_set hz.out.2.2 h1 h2⟩⟩
              case measure => simp [intOf]; omega
            · have hqi : ¬ (q : Int) < x.length := by omega
              go_wp2
              go_roundw
              case rel => exact ⟨p + 1, by omega, by go_num, Lib.hid ⟨hz.out.1, hz.out.2.2⟩⟩
              case measure => simp [intOf]; omega
        · have hki : ¬ (p : Int) < A.length := by omega
          have H6 := Lib.hid (And.intro (H5.out.1.kept hq.out.2 (fun i h => by omega)) (Below.trans H5.out.2.2.1 (hq.out.2.below H5.out.2.2.1.size (fun k hk h => by omega))))
          clear hq H5
          have HX := Lib.hid (ofL_sorted A)
          have hxl := ofL_len A
          generalize hXe : ofL A = X at *
          have hb6 : SetB hi sb X wr := by
            obtain ⟨lv, vs, k1, k2, k3, k4, -⟩ := H6.out.1
            exact ⟨lv, vs, k1, k2, k3, k4⟩
          have HB6 := Lib.hid hb6
          clear hb6
          go_wp2_with fail
          refine (all_any HB6.out SA.out (by omega)).mono ?_
          rintro e w7 ⟨v7, rfl, hm, hb⟩
          obtain ⟨va7, vc7, rfl⟩ := hm.lit
          have H7 := Lib.hid (And.intro hm.loose (And.intro hb (H6.out.1.go hb)))
          clear hm hb
          go_wp2
          generalize hlo7 : wr.heap.size = lo7 at *
          generalize hhi7 : w7.heap.size = hi7 at *
          go_loopw [60] (fun i wq => ∃ p : Nat, p ≤ X.length ∧ i = .int .i64 p ∧ Hid (Loose lo7 hi7 (.slice va7 X.length vc7) X wq ∧ Kept (fun k => lo7 ≤ k ∧ k < hi7) w7 wq)) (fun i _ => X.length - (intOf i).toNat)
          case atStart => exact ⟨0, by omega, rfl, Lib.hid ⟨H7.out.1, Kept.refl _ _⟩⟩
          case round =>
            obtain ⟨p, hp, rfl, hq⟩ := hrel
            by_cases hlt : p < X.length
            · have hki : (p : Int) < X.length := by omega
              obtain ⟨g, ai, di, rfl, hc, hsp⟩ := hq.out.1.at hlt
              have HSP := Lib.hid hsp
              have hll := SA.out _ (List.getElem_mem hlt)
              clear hsp
              generalize X[p] = x at *
              go_wp2
              go_loopw [66] (fun j wz => ∃ q : Nat, q ≤ x.length ∧ j = .int .i64 q ∧ Hid (Loose lo7 hi7 (.slice (some ⟨g, 0, none⟩) X.length vc7) X wz ∧ Spot lo7 hi7 wz (.slice ai x.length di) x.length ∧ Kept (fun k => lo7 ≤ k ∧ k < hi7) w7 wz)) (fun j _ => x.length - (intOf j).toNat)
              case atStart => exact ⟨0, by omega, rfl, Lib.hid ⟨hq.out.1, HSP.out, hq.out.2⟩⟩
              case round =>
                obtain ⟨q, hql, rfl, hz⟩ := hrel
                clear hc
                by_cases hqt : q < x.length
                · have hqi : (q : Int) < x.length := by omega
                  have hq0 : (0 : Int) ≤ q := by omega
                  obtain ⟨g2, z, cur, rfl, hcz, hfz, h1, h2, hh⟩ := hz.out.2.1.at hqt
                  have HH := Lib.hid hh
                  clear hh
                  go_wp2
                  go_roundw
                  case rel => exact ⟨q + 1, by omega, by go_num, Lib.hid ⟨hz.out.1.set HH.out, hz.out.2.1.set HH.out, kept_set hz.out.2.2 h1 h2⟩⟩
                  case measure => simp [intOf]; omega
                · have hqi : ¬ (q : Int) < x.length := by omega
                  go_wp2
                  go_roundw
                  case rel => exact ⟨p + 1, by omega, by go_num, Lib.hid ⟨hz.out.1, hz.out.2.2⟩⟩
                  case measure => simp [intOf]; omega
            · have hki : ¬ (p : Int) < X.length := by omega
              have hG := Below.trans H7.out.2.1 (hq.out.2.below H7.out.2.1.size (fun k hk h => by omega))
              have H8 := Lib.hid (And.intro (H6.out.1.go hG) (Grow.trans H6.out.2 hG))
              clear hG hq H7 H6 HB6
              have hli : (X.length : Int) ≤ A.length := by omega
              go_wp2_with fail
              refine (of_e (HF0.out.go H8.out.2) (by omega) TA.out).mono ?_
              rintro e w9 ⟨ob, rfl, hx, hb⟩
              rw [hXe] at hx
              have H9 := Lib.hid (And.intro (H8.out.1.go hb) (And.intro (H8.out.2.trans hb) hx))
              clear hx hb H8
              go_wp2_with fail
              refine (same_e H9.out.1.e H9.out.2.2 SA.out SA.out (by omega) (by omega)).mono ?_
              rintro e w10 ⟨rfl, hb⟩
              rw [decide_eq_true (rfl : X = X)]
              have H10 := Lib.hid (And.intro (H9.out.1.go hb) (H9.out.2.1.trans hb))
              clear hb H9
              go_wp2_with fail
              refine (len_e H10.out.1.e).mono ?_
              rintro e w10' ⟨rfl, rfl⟩
              go_wp2
              go_ret
              exact ⟨rfl, H10.out.2⟩

set_option maxRecDepth 100000 in
theorem lifted (os : Os) (started : os.Started) (H : Type) (enc : TypeId × Value → H) :
    ReturnsInHanded {} Try.checked os 4 .any (Rows.strsApartSpec.pre6 enc Try.prog Try.f4 Rows.strsApartRow.domain false) (Rows.strsApartSpec.post enc Try.prog Try.f4 false true false false) := by
  refine returnsInHanded_of_change (C := Try.checked) own started (by kernel_rfl) Try.func4
    (ChangeSpec.witness6 (enc := enc) (C := Try.checked) false ⟨#[], #[.slice none 0 0, .int .i64 0], []⟩ 8 (by kernel_rfl) (by kernel_rfl) (by kernel_rfl) (by kernel_rfl)) ?_
  intro W base args ds gs before hval0 hW hcnd _
  have hval : ∀ (j : Nat) t v, Try.f4.params[j]? = some t → args[j]? = some v → Value.okWide Try.prog W .any base t v := hval0
  have hW' := hW
  obtain ⟨p, q, hA0, hV, rfl, hfz, hnd⟩ := hW
  have hA : DataW.TrodAll enc Try.prog W 0 (fun _ => true) true Try.f4.params.toList args.toList ds p := hA0
  rw [Try.params4] at hA hval
  obtain ⟨v0, vs0, d0, ds0, p0, q0, hargs, rfl, rfl, h0, r0⟩ := trodAll_cons hA
  obtain ⟨v1, vs1, d1, ds1, p1, q1, rfl, rfl, rfl, h1, r1⟩ := trodAll_cons r0
  obtain ⟨rfl, rfl, rfl⟩ := trodAll_nil r1
  obtain rfl : args = #[v0, v1] := by cases args; simp_all
  obtain ⟨rfl, rfl⟩ := trodVars_none hV
  have k0 := h0
  have lt0 : ∀ x ∈ p0, x.block < W.heap.size := by obtain ⟨m, hm⟩ := k0; exact DataW.trod_lt m _ _ _ hm
  obtain ⟨a0, xs0, cap0, rfl, hi0, hl0, hm0, hn0⟩ := lsts_of_val (hval 0 29 v0 rfl rfl) h0
  obtain ⟨a1, rfl, rfl, rfl, w1⟩ := open_int Try.underlying3 (hval 1 3 v1 rfl rfl) h1
  clear hA0 hval0
  refine (walk hi0 hl0 hm0 hn0 a1 (range_of w1)).mono fun e W' ⟨he, bel⟩ => ?_
  subst he
  exact ⟨_, rfl, _, _, _, [], _, [], hW', trodAll_mk1 (shut_bool Try.underlying4 _), (trodAll_cons_mk (Below.trod laidOut (by kernel_rfl) (of_decide_eq_true (by kernel_rfl)) k0 bel lt0) (trodAll_cons_mk (shut_int Try.underlying3 w1) trodAll_mk0)), rfl, bel.frame _, fun h => by cases h⟩

theorem over : Rows.strsApartRow.holds Try.pinned (OpenSpec.ofChange Rows.strsApartSpec) :=
  OpenClaim.holds_of_wide 4 Try.f4 rfl rfl rfl rfl rfl rfl rfl ⟨rfl, rfl, rfl, rfl, rfl⟩ rfl rfl rfl rfl rfl (by kernel_rfl) Try.func4 (by kernel_rfl)
    (of_decide_eq_true (by kernel_rfl)) (by unfold Func.isWrapper; first | (rw [if_pos (by decide +kernel)]; kernel_rfl) | (rw [if_neg (by decide +kernel)]; exact ⟨rfl, rfl⟩))
    (fun os started H enc _ => lifted os started H enc)

theorem proved : Rows.StrsApartSaid := over
#print axioms proved
end Go.Proofs.Ytoiinikbbkmjoaa.strsApart
