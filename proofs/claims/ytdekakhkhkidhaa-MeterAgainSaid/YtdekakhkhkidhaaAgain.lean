/-
  MeterAgain answers true, and leaves its arguments as they were, for every number n and all lists a and b. No conditions.
-/
import Derived.Test.YtdekakhkhkidhaaAgain1
import Derived.Deep.QuietTactic
import Derived.BigQuiet
import Derived.WalkKit
import Derived.ProofKit
import Derived.OpenShut
import Derived.ShutString
import Derived.ChangeOld
import Derived.Below
namespace Go.Proofs.Ytdekakhkhkidhaa.meterAgain
open Go.ChangeShapes Go.WideShapes Go.ChangeAt Go.RowKit
open Go.ChangeMaps (open_string shut_string)
set_option linter.unusedVariables false

theorem own : ownKnob Try.prog.godebug = none := by kernel_rfl
theorem laidOut : laidOutB Try.prog = true := by kernel_rfl


/-- The sum of the first amounts. -/
def sumA (ys : List Int) : Int := (ys.map am).sum
theorem sumA_succ (ys : List Int) (k : Nat) (h : k < ys.length) : sumA (ys.take (k + 1)) = sumA (ys.take k) + am ys[k] := by
  unfold sumA
  rw [List.take_succ_eq_append_getElem h, List.map_append, List.sum_append]; simp
theorem sumA_range : ∀ ys : List Int, 0 ≤ sumA ys ∧ sumA ys ≤ 4095 * ys.length
  | [] => by simp [sumA]
  | y :: ys => by
    have h := sumA_range ys
    have := am_range y
    unfold sumA at *
    simp only [List.map_cons, List.sum_cons, List.length_cons]
    omega

/-- What holds at the head of each round: the meter, and what has been asked for. -/
def Rel (w wr : World) (b : Nat) (left sum : Int) (second : Bool) : Prop :=
  Kept (fun k => k = b) w wr ∧ ∃ l s, MeterAt wr b l s ∧ 0 ≤ l ∧ 0 ≤ s ∧ l + s ≤ 1000000 ∧ (second = true → l = left - sum)

set_option maxHeartbeats 1000000 in
theorem walk (a0 : Int) (a1 : Option Addr) (len1 cap1 : Nat) (z1 : List Int) (a2 : Option Addr) (len2 cap2 : Nat) (z2 : List Int) (w : World) (w0 : (Lit.int .i64 a0).wf = true)
    (w1 : IsRow .i64 w a1 len1 cap1 z1) (w2 : IsRow .i64 w a2 len2 cap2 z2) :
    Calls Try.prog 4 #[.int .i64 a0, .slice a1 len1 cap1, .slice a2 len2 cap2] w fun e w' => e = .returned (.bool true) ∧ Below w.heap.size w w' := by
  have hmf : ∀ (fn : Fn) (first cap : Array Value) (w : World), (Instr.makeFunc fn first cap).run Try.prog w = .ok (.func fn first cap) w := fun _ _ _ _ => rfl
  have hlm := isRow_le w1
  have hlm2 := isRow_le w2
  obtain ⟨hlen, hxs⟩ := isRow_ints w1
  obtain ⟨hlen2, hys⟩ := isRow_ints w2
  clear w1 w0 w2
  generalize z1.take len1 = xs at *
  generalize z2.take len2 = ys at *
  subst hlen hlen2
  have HX := Lib.hid hxs
  have HY := Lib.hid hys
  clear hxs hys
  by_cases hlong : (30 : Int) < xs.length
  · go_enter Try.func4, Try.ntmps4
    go_wp2_with fail
    refine (alive_any _).mono ?_
    rintro e w2 ⟨rfl, hb⟩
    have hL := hb.cell (p := ⟨w.heap.size, 0, none⟩) (by simp)
    simp at hL
    have HB := Lib.hid hb
    clear hb
    go_wp2
    go_ret
    exact ⟨rfl, ((Below.refl _ _).alloc (Nat.le_refl _) _).trans (HB.out.mono (by simp))⟩
  by_cases hlong2 : (30 : Int) < ys.length
  · go_enter Try.func4, Try.ntmps4
    go_wp2_with fail
    refine (alive_any _).mono ?_
    rintro e w2 ⟨rfl, hb⟩
    have hL := hb.cell (p := ⟨w.heap.size, 0, none⟩) (by simp)
    simp at hL
    have HB := Lib.hid hb
    clear hb
    go_wp2
    go_ret
    exact ⟨rfl, ((Below.refl _ _).alloc (Nat.le_refl _) _).trans (HB.out.mono (by simp))⟩
  have hr := held_range a0
  have hlen60 : xs.length ≤ 100 := by omega
  go_enter Try.func4, Try.ntmps4
  go_wp2_with fail
  refine (alive_any _).mono ?_
  rintro e w2 ⟨rfl, hb⟩
  have hb0 : w2.heap[w.heap.size]? = some (.cells #[.slice a1 xs.length cap1] 22 (0, 0)) := by
    rw [hb.block _ (by simp)]; exact heap_alloc_this _ _
  have hL := cell_of_block (off := 0) hb0
  simp at hL
  have hk2 : Kept (fun _ => False) w w2 := ((Kept.refl _ _).alloc _).trans (kept_of_below hb _)
  have HB := Lib.hid (And.intro hb0 hk2)
  have hsz2 := hb.size
  simp at hsz2
  clear hb hb0 hk2
  go_wp2_with fail
  refine (new_any a0 _).mono ?_
  rintro e w3 ⟨rfl, rfl⟩
  go_wp2_with fail
  have g0 : ((w2.alloc (.cells #[.int .i64 (held a0), .int .i64 0] 39)).alloc (.cells #[.pointer (some ⟨w2.heap.size, 0, none⟩)] 24)).heap[w2.heap.size]? = some (.cells #[.int .i64 (held a0), .int .i64 0] 39 (0, 0)) := heap_alloc_keep (heap_alloc_this _ _)
  have g1 : ((w2.alloc (.cells #[.int .i64 (held a0), .int .i64 0] 39)).alloc (.cells #[.pointer (some ⟨w2.heap.size, 0, none⟩)] 24)).heap[w2.heap.size + 1]? = some (.cells #[.pointer (some ⟨w2.heap.size, 0, none⟩)] 24 (0, 0)) := by
    have := heap_alloc_this (w2.alloc (.cells #[.int .i64 (held a0), .int .i64 0] 39)) (.cells #[.pointer (some ⟨w2.heap.size, 0, none⟩)] 24)
    simpa using this
  have hK0 : Kept (fun _ => False) w2 ((w2.alloc (.cells #[.int .i64 (held a0), .int .i64 0] 39)).alloc (.cells #[.pointer (some ⟨w2.heap.size, 0, none⟩)] 24)) :=
    ((Kept.refl _ _).alloc _).alloc _
  have hsz : ((w2.alloc (.cells #[.int .i64 (held a0), .int .i64 0] 39)).alloc (.cells #[.pointer (some ⟨w2.heap.size, 0, none⟩)] 24)).heap.size = w2.heap.size + 2 := by simp
  generalize ((w2.alloc (.cells #[.int .i64 (held a0), .int .i64 0] 39)).alloc (.cells #[.pointer (some ⟨w2.heap.size, 0, none⟩)] 24)) = W at *
  have hKW : Kept (fun _ => False) w W := HB.out.2.trans hK0
  have hLW := hK0.get HB.out.1 (by simp)
  refine (run_any (decide (did (held a0) (xs.map am) = (xs.map am).length)) (b := w2.heap.size) (g := 16) (S := fun k => k = w2.heap.size)
    (R := fun w' => MeterAt w' w2.heap.size (finL (held a0) (xs.map am)) (finS (held a0) (xs.map am)))
    (fun _ => by simp [go_sem]) ?_ ?_ ?_).mono ?_
  · exact fun v2 v3 hk hl => hl.kept hk (by omega)
  · rintro k rfl; omega
  · intro w1 hk1
    refine (c16 (hk1.get hLW (by simp)) (hk1.get g1 (by simp)) (hk1.get g0 (by simp)) hr.1 (by decide) (by omega)
      (HX.out.kept (hKW.trans hk1) (Nat.le_refl _) (by simp)) (by have := (hKW.trans hk1).size; omega) (by omega) hlen60).mono ?_
    rintro e v2 ⟨h2, hk⟩
    unfold Spent16 at h2
    unfold Out finL finS
    by_cases hd : did (held a0) (xs.map am) = (xs.map am).length
    · rw [if_pos hd] at h2
      simp only [hd, decide_true, if_true]
      exact ⟨h2.1, hk, h2.2.cast rfl (by omega)⟩
    · rw [if_neg hd] at h2
      simp only [hd, decide_false, if_false]
      exact ⟨⟨[], h2.1, rfl⟩, hk, h2.2.cast rfl (by omega)⟩
  rintro e w3 ⟨rfl, hk3, hm3⟩
  have hK3 : Kept (fun _ => False) w w3 := hKW.then (S'' := fun _ => False) hk3 (fun _ _ h => h) (fun i hi h => by omega)
  have hp3 := hk3.get g1 (by omega)
  have c3 := cell_of_block (off := 0) hp3
  simp at c3
  have hfin : finS (held a0) (xs.map am) + finL (held a0) (xs.map am) = held a0 ∧ 0 ≤ finS (held a0) (xs.map am) ∧ 0 ≤ finL (held a0) (xs.map am) ∧ (did (held a0) (xs.map am) ≠ (xs.map am).length → finL (held a0) (xs.map am) = 0) := by
    have h1 := sumN_nonneg (xs.map am)
    have h2 := did_pre (xs.map am) (held a0) (did (held a0) (xs.map am)) hr.1 (Nat.le_refl _)
    unfold finS finL
    by_cases h : did (held a0) (xs.map am) = (xs.map am).length
    · simp only [h, if_true]
      rw [h, List.take_of_length_le (Nat.le_refl _)] at h2
      refine ⟨by omega, by omega, by omega, fun x => absurd rfl x⟩
    · simp only [h, if_false]
      exact ⟨by omega, by omega, by omega, fun _ => trivial⟩
  generalize hgd : decide (did (held a0) (xs.map am) = (xs.map am).length) = first at *
  generalize hgl : finL (held a0) (xs.map am) = left at *
  generalize hgs : finS (held a0) (xs.map am) = sp at *
  obtain ⟨hs1, hs2, hs3, hs4⟩ := hfin
  have HF : Hid (first = false → left = 0) := Lib.hid (fun h => hs4 (by rw [← hgd] at h; simpa using h))
  have hleft : left ≤ 1000000 := by omega
  have hsp : left + sp ≤ 1000000 := by omega
  have hsz3 := hk3.size
  clear hgd hgl hgs hs1 hs4
  have HM := Lib.hid hm3
  have HP := Lib.hid hp3
  have HK3 := Lib.hid hK3
  clear g0 g1 hK0 hKW hLW hk3 hm3 hK3 hp3 HB hL HX hr
  go_wp2_with fail
  refine (left_any HM.out).mono ?_
  rintro e w4 ⟨rfl, rfl⟩
  go_wp2
  obtain ⟨w3', rfl⟩ : ∃ w3', w3' = w3 := ⟨_, rfl⟩
  go_loopw [10, 11, 35] (fun x y i wr => ∃ k : Nat, ∃ sec : Bool, k ≤ ys.length ∧ i = .int .i64 k ∧ x = .int .i64 (sumA (ys.take k)) ∧ y = .bool sec ∧ Rel w3' wr w2.heap.size left (sumA (ys.take k)) sec) (fun _ _ i _ => ys.length - (intOf i).toNat)
  case atStart => exact ⟨0, true, Nat.zero_le _, rfl, by simp [sumA], rfl, Kept.refl _ _, left, sp, HM.out, hs3, hs2, hsp, fun _ => by simp [sumA]⟩
  case round =>
    obtain ⟨k, sec, hk, rfl, rfl, rfl, hK, l, s, hMr, hl0, hs0, hls, hsec⟩ := hrel
    have hsr := sumA_range (ys.take k)
    have hsl : (ys.take k).length ≤ 30 := by simp; omega
    have HK := Lib.hid hK
    have HMr := Lib.hid hMr
    have HSec := Lib.hid hsec
    have HPr := Lib.hid (hK.get HP.out (by omega))
    have c4 := cell_of_block (off := 0) HPr.out
    simp at c4
    have hszr := hK.size
    have hsub : sumA (ys.take k) ≤ 130000 := by omega
    obtain ⟨hsr0, -⟩ := hsr
    clear hK hMr hsec hsl
    by_cases hlt : k < ys.length
    · obtain ⟨ab, off, rfl, hab, hcx⟩ := (HY.out.kept (HK3.out.then (S'' := fun k => w.heap.size ≤ k) HK.out (fun _ _ h => h.elim) (fun i hi h => by omega)) (Nat.le_refl _) (fun _ h => h)) k hlt
      have hlt' : (k : Int) < ys.length := by omega
      have ham := am_range ys[k]
      obtain ⟨ham0, ham1⟩ := ham
      unfold am at ham0 ham1
      have HA := Lib.hid (sumA_succ ys k hlt)
      have c5 := fun o => cell_alloc_keep (o := o) (show (⟨w2.heap.size + 1, 0, none⟩ : Addr).block < wr.heap.size by simp; omega) c4
      clear c4
      go_wp2_with fail
      have g0 := heap_alloc_this wr (.cells #[.int .i64 ys[k]] 3)
      have hK0 : Kept (fun _ => False) wr (wr.alloc (.cells #[.int .i64 ys[k]] 3)) := (Kept.refl _ _).alloc _
      have hszW : (wr.alloc (.cells #[.int .i64 ys[k]] 3)).heap.size = wr.heap.size + 1 := by simp
      clear c5
      generalize (wr.alloc (.cells #[.int .i64 ys[k]] 3)) = W5 at *
      have hPW := hK0.get HPr.out (by simp)
      have hMW : MeterAt W5 w2.heap.size l s := HMr.out.kept hK0 (by simp)
      refine (run_any (decide (am ys[k] ≤ l)) (b := w2.heap.size) (g := 17) (S := fun k => k = w2.heap.size)
        (R := fun w' => MeterAt w' w2.heap.size (if am ys[k] ≤ l then l - am ys[k] else 0) (if am ys[k] ≤ l then s + am ys[k] else s + l))
        (fun _ => by simp [go_sem]) ?_ ?_ ?_).mono ?_
      · exact fun v2 v3 hk hl => hl.kept hk (by omega)
      · rintro k rfl; omega
      · intro w1 hk1
        exact c17 (hk1.get hPW (by simp)) (hk1.get g0 (by simp)) (hMW.kept hk1 (by simp)) hl0 hs0 hls
      rintro e w6 ⟨rfl, hk6, hm6⟩
      have hKend : Kept (fun k => k = w2.heap.size) w3' w6 := (HK.out.then (S'' := fun k => k = w2.heap.size) hK0 (fun _ _ h => h) (fun _ _ h => h.elim)).trans hk6
      have HE := Lib.hid (And.intro hKend hm6)
      have hs6 := hk6.size
      clear g0 hK0 hszW hPW hMW hk6 hm6 hKend
      have hrel : Hid (Rel w3' w6 w2.heap.size left (sumA (ys.take (k + 1))) (sec && decide (am ys[k] ≤ l))) := by
        refine ⟨HE.out.1, _, _, HE.out.2, ?_, ?_, ?_, ?_⟩
        · unfold am; split <;> omega
        · unfold am; split <;> omega
        · unfold am; split <;> omega
        · intro h
          simp only [Bool.and_eq_true, decide_eq_true_eq] at h
          have h1 := HSec.out h.1
          rw [if_pos h.2, HA.out]; omega
      have hnxt : sumA (ys.take (k + 1)) = sumA (ys.take k) + bits .and .i64 ys[k] 4095 := HA.out
      have hdec : sec = true → decide (am ys[k] ≤ l) = decide (sumA (ys.take k) + bits .and .i64 ys[k] 4095 ≤ left) := by
        intro h
        have h1 := HSec.out h
        have h2 : (am ys[k] ≤ l) = (sumA (ys.take k) + bits .and .i64 ys[k] 4095 ≤ left) := by
          unfold am; apply propext; omega
        simp only [h2]
      generalize hok : decide (am ys[k] ≤ l) = ok at *
      have HN := Lib.hid hnxt
      have HD := Lib.hid hdec
      clear hok hnxt hdec HE HMr HSec HPr HA
      by_cases hq : sumA (ys.take k) + bits .and .i64 ys[k] 4095 ≤ left
      all_goals
        cases sec
        · cases ok
          all_goals
            go_wp2
            go_roundw
            case rel => exact ⟨k + 1, _, by omega, by go_num, by rw [HN.out], rfl, hrel.out⟩
            case measure => simp [intOf]; omega
        · have hx := HD.out rfl
          simp only [hq, decide_true, decide_false] at hx
          subst hx
          go_wp2
          go_roundw
          case rel => exact ⟨k + 1, _, by omega, by go_num, by rw [HN.out], rfl, hrel.out⟩
          case measure => simp [intOf]; omega
    · have hkl : k = ys.length := by omega
      have hlt' : ¬ (k : Int) < ys.length := by omega
      clear hkl
      go_wp2_with fail
      refine (run_any true (b := w2.heap.size) (g := 18) (S := fun k => k = w2.heap.size) (R := fun w' => MeterAt w' w2.heap.size l s)
        (fun _ => by simp [go_sem]) ?_ ?_ ?_).mono ?_
      · exact fun v2 v3 hk hl => hl.kept hk (by omega)
      · rintro k rfl; omega
      · intro w1 hk1
        refine (c18 (hk1.get HPr.out (by simp)) (HMr.out.kept hk1 (by simp)) hl0 hs0 hls).mono ?_
        rintro e v2 ⟨rfl, h⟩
        exact ⟨rfl, h⟩
      rintro e w6 ⟨rfl, hk6, hm6⟩
      have HM6 := Lib.hid hm6
      have c6 := cell_of_block (off := 0) (hk6.get HPr.out (by omega))
      simp at c6
      have HB6 := Lib.hid ((HK3.out.then (S'' := fun _ => False) (HK.out.trans hk6) (fun _ _ h => h) (fun i hi h => by omega)).below (B := w.heap.size) (Nat.le_refl _) (fun _ _ h => h))
      have HS6 : Hid (sec = true → (l == left - sumA (ys.take k)) = true) := Lib.hid (fun h => by rw [HSec.out h]; simp)
      clear hk6 hm6 HMr HK HPr HSec
      have hl1 : l ≤ 1000000 := by omega
      have h0l : decide (0 ≤ l) = true := by simp; omega
      cases first
      · have hz : (left == 0) = true := by rw [HF.out rfl]; rfl
        cases sec
        · go_wp2_with (first | (go_at_call 9; refine (left_any HM6.out).mono ?_; rintro e w4 ⟨rfl, rfl⟩))
          all_goals go_ret
          all_goals exact ⟨rfl, HB6.out⟩
        · have hss := HS6.out rfl
          go_wp2_with (first | (go_at_call 9; refine (left_any HM6.out).mono ?_; rintro e w4 ⟨rfl, rfl⟩))
          all_goals go_ret
          all_goals exact ⟨rfl, HB6.out⟩
      · cases sec
        · go_wp2_with (first | (go_at_call 9; refine (left_any HM6.out).mono ?_; rintro e w4 ⟨rfl, rfl⟩))
          all_goals go_ret
          all_goals exact ⟨rfl, HB6.out⟩
        · have hss := HS6.out rfl
          go_wp2_with (first | (go_at_call 9; refine (left_any HM6.out).mono ?_; rintro e w4 ⟨rfl, rfl⟩))
          all_goals go_ret
          all_goals exact ⟨rfl, HB6.out⟩

set_option maxRecDepth 100000 in
theorem lifted (os : Os) (started : os.Started) (H : Type) (enc : TypeId × Value → H) :
    ReturnsInHanded {} Try.checked os 4 .any (Rows.meterAgainSpec.pre6 enc Try.prog Try.f4 Rows.meterAgainRow.domain false) (Rows.meterAgainSpec.post enc Try.prog Try.f4 false true false false) := by
  refine returnsInHanded_of_change (C := Try.checked) own started (by kernel_rfl) Try.func4
    (ChangeSpec.witness6 (enc := enc) (C := Try.checked) false ⟨#[], #[.int .i64 0, .slice none 0 0, .slice none 0 0], []⟩ 8 (by kernel_rfl) (by kernel_rfl) (by kernel_rfl) (by kernel_rfl)) ?_
  intro W base args ds gs before hval0 hW hcnd _
  have hval : ∀ (j : Nat) t v, Try.f4.params[j]? = some t → args[j]? = some v → Value.okWide Try.prog W .any base t v := hval0
  have hW' := hW
  obtain ⟨p, q, hA0, hV, rfl, hfz, hnd⟩ := hW
  have hA : DataW.TrodAll enc Try.prog W 0 (fun _ => true) true Try.f4.params.toList args.toList ds p := hA0
  rw [Try.params4] at hA hval
  obtain ⟨v0, vs0, d0, ds0, p0, q0, hargs, rfl, rfl, h0, r0⟩ := trodAll_cons hA
  obtain ⟨v1, vs1, d1, ds1, p1, q1, rfl, rfl, rfl, h1, r1⟩ := trodAll_cons r0
  obtain ⟨v2, vs2, d2, ds2, p2, q2, rfl, rfl, rfl, h2, r2⟩ := trodAll_cons r1
  obtain ⟨rfl, rfl, rfl⟩ := trodAll_nil r2
  obtain rfl : args = #[v0, v1, v2] := by cases args; simp_all
  obtain ⟨rfl, rfl⟩ := trodVars_none hV
  obtain ⟨a0, rfl, rfl, rfl, w0⟩ := open_int Try.underlying3 (hval 0 3 v0 rfl rfl) h0
  obtain ⟨a1, len1, cap1, rfl⟩ := okWide_slice Try.underlying22 (hval 1 22 v1 rfl rfl)
  have k1 := h1
  have lt1 : ∀ x ∈ p1, x.block < W.heap.size := by obtain ⟨m, hm⟩ := k1; exact DataW.trod_lt m _ _ _ hm
  obtain ⟨z1, w1⟩ : ∃ zs, IsRow .i64 W a1 len1 cap1 zs := by
    obtain ⟨fuel, hf⟩ := h1
    rcases open_ints Try.underlying22 Try.underlying3 (by kernel_rfl) hf with ⟨hcs, _⟩ | ⟨x, l, c, zs, hcs, _, hl, hm, hz, _, hcell, hwz⟩
    · simp [Value.cells] at hcs
      obtain ⟨rfl, rfl, rfl⟩ := hcs
      exact ⟨[], .inl ⟨rfl, rfl, rfl, rfl⟩⟩
    · simp [Value.cells] at hcs
      obtain ⟨rfl, rfl, rfl⟩ := hcs
      exact ⟨zs, .inr ⟨_, rfl, hl, hm, by simpa using hz, hcell, hwz⟩⟩
  obtain ⟨a2, len2, cap2, rfl⟩ := okWide_slice Try.underlying22 (hval 2 22 v2 rfl rfl)
  have k2 := h2
  have lt2 : ∀ x ∈ p2, x.block < W.heap.size := by obtain ⟨m, hm⟩ := k2; exact DataW.trod_lt m _ _ _ hm
  obtain ⟨z2, w2⟩ : ∃ zs, IsRow .i64 W a2 len2 cap2 zs := by
    obtain ⟨fuel, hf⟩ := h2
    rcases open_ints Try.underlying22 Try.underlying3 (by kernel_rfl) hf with ⟨hcs, _⟩ | ⟨x, l, c, zs, hcs, _, hl, hm, hz, _, hcell, hwz⟩
    · simp [Value.cells] at hcs
      obtain ⟨rfl, rfl, rfl⟩ := hcs
      exact ⟨[], .inl ⟨rfl, rfl, rfl, rfl⟩⟩
    · simp [Value.cells] at hcs
      obtain ⟨rfl, rfl, rfl⟩ := hcs
      exact ⟨zs, .inr ⟨_, rfl, hl, hm, by simpa using hz, hcell, hwz⟩⟩
  clear hA0 hval0
  refine (walk a0 a1 len1 cap1 z1 a2 len2 cap2 z2 W w0 w1 w2).mono fun e W' ⟨he, bel⟩ => ?_
  subst he
  exact ⟨_, rfl, _, _, _, [], _, [], hW', trodAll_mk1 (shut_bool Try.underlying4 _), (trodAll_cons_mk (shut_int Try.underlying3 w0) (trodAll_cons_mk (Below.trod laidOut (by kernel_rfl) (of_decide_eq_true (by kernel_rfl)) k1 bel lt1) (trodAll_cons_mk (Below.trod laidOut (by kernel_rfl) (of_decide_eq_true (by kernel_rfl)) k2 bel lt2) trodAll_mk0))), rfl, bel.frame _, fun h => by cases h⟩

theorem over : Rows.meterAgainRow.holds Try.pinned (OpenSpec.ofChange Rows.meterAgainSpec) :=
  OpenClaim.holds_of_wide 4 Try.f4 rfl rfl rfl rfl rfl rfl rfl ⟨rfl, rfl, rfl, rfl, rfl⟩ rfl rfl rfl rfl rfl (by kernel_rfl) Try.func4 (by kernel_rfl)
    (of_decide_eq_true (by kernel_rfl)) (by unfold Func.isWrapper; first | (rw [if_pos (by decide +kernel)]; kernel_rfl) | (rw [if_neg (by decide +kernel)]; exact ⟨rfl, rfl⟩))
    (fun os started H enc _ => lifted os started H enc)

theorem proved : Rows.MeterAgainSaid := over
#print axioms proved
end Go.Proofs.Ytdekakhkhkidhaa.meterAgain
