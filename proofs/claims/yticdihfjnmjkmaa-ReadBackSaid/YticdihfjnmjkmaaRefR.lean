/- The weight of a text: the reference's Parts. -/
import Derived.Test.YticdihfjnmjkmaaEdgeT
import Derived.Deep.DeepCutAuto
namespace Go.Proofs.Yticdihfjnmjkmaa
open Go.RowKit
theorem results_tmp4 {fn : Func} {t u v x : Tmp} (h : fn.results = #[.tmp t, .tmp u, .tmp v, .tmp x]) (tmps : Array Value) (P : Program) (w : World) :
    (results fn tmps).run P w = .ok (.tuple #[tmps.getD t undef, tmps.getD u undef, tmps.getD v undef, tmps.getD x undef]) w := by simp [results, h]
/-- The reference's way to the parts of a number without its sign. -/
def refP (l : List UInt8) : Option (List UInt8 × List UInt8) :=
  if runL digitB l < 1 then none else
  if 9 < runL digitB l then none else
  if 1 < runL digitB l ∧ l.head? = some 48 then none else
  if runL digitB l = l.length then some (l, []) else
  if l[runL digitB l]? ≠ some 46 then none else
  if l.length - runL digitB l < 2 then none else
  if 7 < l.length - runL digitB l then none else
  if (l.drop (runL digitB l + 1)).all digC = true then some (l.take (runL digitB l), l.drop (runL digitB l + 1)) else none
def pVal (p : Bool) : Option (List UInt8 × List UInt8) → Value
  | none => .tuple #[.bool false, .string ⟨#[]⟩, .string ⟨#[]⟩, .bool false]
  | some (h, t) => .tuple #[.bool p, .string (bOf h), .string (bOf t), .bool true]
theorem byte_at (s : ByteArray) (k : Nat) (h : k < s.size) : s.data.toList[k]? = some s[k] := by
  rw [List.getElem?_eq_getElem (by rw [size_len]; exact h)]
  rfl
theorem runA_byte {f : Int → Bool} {s : ByteArray} {k : Nat} (h : k < s.size) : runA f s k = if f (s[k].toNat : Int) = true then runA f s (k + 1) + 1 else 0 := by
  unfold runA
  rw [tailL_cons h, runL]
theorem digitB_yes {c : Int} (h1 : 48 ≤ c) (h2 : c ≤ 57) : digitB c = true := by simp [digitB, h1, h2]
theorem digitB_no {c : Int} (h : c < 48 ∨ 57 < c) : digitB c = false := by simp [digitB]; omega
theorem strs4 {p b : Bool} {x y x' y' : ByteArray} (h : x = x') (h' : y = y') : Ending.returned (.tuple #[.bool p, .string x, .string y, .bool b]) = .returned (.tuple #[.bool p, .string x', .string y', .bool b]) := by rw [h, h']
theorem first_at (s : ByteArray) : s.data.toList.head? = s[0]? := by
  by_cases h : 0 < s.size
  · rw [getElem?_pos s 0 h, List.head?_eq_getElem?, byte_at s 0 h]
  · rw [getElem?_neg s 0 h, List.head?_eq_getElem?, List.getElem?_eq_none (by rw [size_len]; omega)]
theorem refP_eq (R : ByteArray) : refP R.data.toList =
    if runA digitB R 0 < 1 then none else
    if 9 < runA digitB R 0 then none else
    if 1 < runA digitB R 0 ∧ (R[0]?.map fun c => (c.toNat : Int)) = some 48 then none else
    if runA digitB R 0 = R.size then some (R.data.toList, []) else
    if (R[runA digitB R 0]?.map fun c => (c.toNat : Int)) ≠ some 46 then none else
    if R.size - runA digitB R 0 < 2 then none else
    if 7 < R.size - runA digitB R 0 then none else
    if (tailL R (runA digitB R 0 + 1)).all digC = true then some (R.data.toList.take (runA digitB R 0), tailL R (runA digitB R 0 + 1)) else none := by
  have e : runL digitB R.data.toList = runA digitB R 0 := rfl
  have e1 : (R.data.toList.head? = some 48) = ((R[0]?.map fun c => (c.toNat : Int)) = some 48) := by
    rw [first_at]
    cases R[0]? with
    | none => simp
    | some c =>
      simp [← UInt8.toNat_inj]
      omega
  have e2 : (R.data.toList[runA digitB R 0]? ≠ some 46) = ((R[runA digitB R 0]?.map fun c => (c.toNat : Int)) ≠ some 46) := by
    by_cases h : runA digitB R 0 < R.size
    · rw [getElem?_pos R _ h, byte_at R _ h]
      simp [← UInt8.toNat_inj]
      constructor
      · intro h1 h2; exact h1 (by omega)
      · intro h1 h2; exact h1 (by omega)
    · rw [getElem?_neg R _ h, List.getElem?_eq_none (by rw [size_len]; omega)]
      simp
  unfold refP
  rw [e, size_len]
  simp only [e1, e2]
  rfl
set_option maxHeartbeats 1000000 in
set_option maxRecDepth 100000 in
theorem parts_any (s R : ByteArray) (hs : s.size ≤ 9223372036854775807) (p : Bool) (hp1 : p = true → 0 < s.size ∧ ((s[0]?.map fun c => (c.toNat : Int)) = some 45) ∧ R = s.extract 1 s.size) (hp2 : p = false → (0 < s.size → ((s[0]?.map fun c => (c.toNat : Int)) ≠ some 45)) ∧ R = s) (w : World) :
    Calls Try.prog 61 #[.string s] w fun e w' => e = .returned (pVal p (refP R.data.toList)) ∧ Below w.heap.size w w' := by
  go_enter Try.func61, Try.ntmps61
  go_upto_region 1 with fail
  go_cut [6] (fun b wx => b = .bool p ∧ wx = w)
  case first =>
    cases p
    · obtain ⟨h1, _⟩ := hp2 rfl
      by_cases h0 : 0 < s.size
      · have h2 := h1 h0
        rw [getElem?_pos s 0 h0] at h2
        have h3 : ((s[0].toNat : Int) == 45) = false := by simpa using h2
        clear h1 h2 hp1 hp2
        go_wp2
        go_meet
        exact ⟨rfl, rfl⟩
      · clear h1 hp1 hp2
        go_wp2
        go_meet
        exact ⟨rfl, rfl⟩
    · obtain ⟨h0, h2, _⟩ := hp1 rfl
      rw [getElem?_pos s 0 h0] at h2
      have h3 : ((s[0].toNat : Int) == 45) = true := by simpa using h2
      clear h2 hp1 hp2
      go_wp2
      go_meet
      exact ⟨rfl, rfl⟩
  case rest =>
  obtain ⟨rfl, rfl⟩ := hcut
  go_upto_if 17 with fail
  go_cut [0] (fun s0 wx => s0 = .string R ∧ wx = wc)
  case first =>
    cases p
    · obtain ⟨_, rfl⟩ := hp2 rfl
      clear hp1 hp2
      go_wp2
      go_meet
      exact ⟨rfl, rfl⟩
    · obtain ⟨h0, _, rfl⟩ := hp1 rfl
      clear hp1 hp2
      go_wp2
      go_meet
      exact ⟨rfl, rfl⟩
  case rest =>
  obtain ⟨rfl, rfl⟩ := hcut
  have hRs : R.size ≤ s.size := by
    cases p
    · obtain ⟨_, rfl⟩ := hp2 rfl; exact Nat.le_refl _
    · obtain ⟨_, _, rfl⟩ := hp1 rfl; simp [ByteArray.size_extract]
  have hR : R.size ≤ 9223372036854775807 := by omega
  clear hp1 hp2 hRs
  have HP := Lib.hid (show refP R.data.toList = refP R.data.toList from rfl)
  go_upto_block 0 with fail
  go_cut [7] (fun x wy => x = .int .i64 (runA digitB R 0 : Nat) ∧ wy = wc)
  case first =>
    go_wp2
    go_loop [7] (fun i => ∃ k : Nat, k ≤ R.size ∧ i = .int .i64 k ∧ Hid (k + runA digitB R k = runA digitB R 0)) (fun i => R.size - (intOf i).toNat)
    case atStart => exact ⟨0, Nat.zero_le _, rfl, by unfold Hid; omega⟩
    case round =>
      obtain ⟨k, hk, rfl, ha⟩ := hrel
      by_cases hlt : k < R.size
      · have HA := Lib.hid (runA_byte (f := digitB) hlt)
        by_cases d1 : 48 ≤ (R[k].toNat : Int)
        · by_cases d2 : (R[k].toNat : Int) ≤ 57
          · have HY := Lib.hid (digitB_yes d1 d2)
            go_wp2
            go_round
            case rel => exact ⟨k + 1, by omega, by go_num, by have h1 := HA.out; have h2 := ha.out; rw [HY.out, if_pos rfl] at h1; unfold Hid; omega⟩
            case measure => simp [intOf]; omega
          · have HY := Lib.hid (digitB_no (c := (R[k].toNat : Int)) (.inr (by omega)))
            go_wp2
            go_meet
            exact ⟨congrArg (Value.int .i64) (by have h1 := HA.out; have h2 := ha.out; rw [HY.out, if_neg (by decide)] at h1; omega), rfl⟩
        · have HY := Lib.hid (digitB_no (c := (R[k].toNat : Int)) (.inl (by omega)))
          go_wp2
          go_meet
          exact ⟨congrArg (Value.int .i64) (by have h1 := HA.out; have h2 := ha.out; rw [HY.out, if_neg (by decide)] at h1; omega), rfl⟩
      · have HE := Lib.hid (runA_end (f := digitB) (s := R) (p := k) (by omega))
        go_wp2
        go_meet
        exact ⟨congrArg (Value.int .i64) (by have h1 := HE.out; have h2 := ha.out; omega), rfl⟩
  case rest =>
  obtain ⟨rfl, rfl⟩ := hcut
  have hn : runA digitB R 0 ≤ R.size := by have := runA_le digitB R 0; omega
  have HE := refP_eq R
  obtain ⟨o, ho⟩ : ∃ o, refP R.data.toList = o := ⟨_, rfl⟩
  rw [ho] at HE
  have HOO := Lib.hid ho
  clear ho
  generalize runA digitB R 0 = n at *
  have HO := Lib.hid HE
  clear HE HP
  by_cases a1 : (n : Int) < 1
  · have HF := Lib.hid (show o = none by rw [HO.out, if_pos (by omega)])
    go_wp2
    refine bodyPost_ret (results_tmp4 rfl _ _ _) rfl ?_
    exact ⟨by rw [HOO.out, HF.out]; rfl, Below.refl _ _⟩
  have hn1 : 1 ≤ R.size := by omega
  by_cases a2 : 9 < (n : Int)
  · have HF := Lib.hid (show o = none by rw [HO.out, if_neg (by omega), if_pos (by omega)])
    go_wp2
    refine bodyPost_ret (results_tmp4 rfl _ _ _) rfl ?_
    exact ⟨by rw [HOO.out, HF.out]; rfl, Below.refl _ _⟩
  by_cases a3 : 1 < (n : Int) ∧ (R[0].toNat : Int) = 48
  · have HF := Lib.hid (show o = none by rw [HO.out, if_neg (by omega), if_neg (by omega), if_pos ⟨by omega, by rw [getElem?_pos R 0 (by omega)]; exact congrArg some a3.2⟩])
    obtain ⟨b1, b2⟩ := a3
    have b3 : ((R[0].toNat : Int) == 48) = true := by simpa using b2
    clear b2
    go_wp2
    refine bodyPost_ret (results_tmp4 rfl _ _ _) rfl ?_
    exact ⟨by rw [HOO.out, HF.out]; rfl, Below.refl _ _⟩
  have HQ := Lib.hid (show ¬ (1 < n ∧ (R[0]?.map fun c => (c.toNat : Int)) = some 48) by
    rintro ⟨c1, c2⟩
    rw [getElem?_pos R 0 (by omega)] at c2
    exact a3 ⟨by omega, by simpa using c2⟩)
  go_upto_region 7 with fail
  go_cut [52] (fun b wy => b = .bool false ∧ wy = wc)
  case first =>
    by_cases b1 : 1 < (n : Int)
    · have b3 : ((R[0].toNat : Int) == 48) = false := by
        simp only [beq_eq_false_iff_ne, ne_eq]
        exact fun h => a3 ⟨b1, h⟩
      clear a3
      go_wp2
      go_meet
      exact ⟨rfl, rfl⟩
    · clear a3
      go_wp2
      go_meet
      exact ⟨rfl, rfl⟩
  case rest =>
  obtain ⟨rfl, rfl⟩ := hcut
  clear a3
  by_cases a4 : n = R.size
  · have HF := Lib.hid (show o = some (R.data.toList, []) by rw [HO.out, if_neg (by omega), if_neg (by omega), if_neg HQ.out, if_pos a4])
    subst a4
    go_wp2
    refine bodyPost_ret (results_tmp4 rfl _ _ _) rfl ?_
    exact ⟨by rw [HOO.out, HF.out]; show _ = Ending.returned (.tuple #[.bool p, .string (bOf R.data.toList), .string (bOf []), .bool true]); rw [bOf_self]; rfl, Below.refl _ _⟩
  have hlt : n < R.size := by omega
  have b4 : ((n : Int) == (R.size : Int)) = false := by simp; omega
  clear a4
  by_cases a5 : (R[n].toNat : Int) = 46
  · have b5 : ((R[n].toNat : Int) != 46) = false := by simpa using a5
    by_cases a6 : R.size - n < 2
    · have HF := Lib.hid (show o = none by rw [HO.out, if_neg (by omega), if_neg (by omega), if_neg HQ.out, if_neg (by omega), if_neg (by rw [getElem?_pos R n hlt]; simpa using a5), if_pos a6])
      clear a5
      go_wp2
      refine bodyPost_ret (results_tmp4 rfl _ _ _) rfl ?_
      exact ⟨by rw [HOO.out, HF.out]; rfl, Below.refl _ _⟩
    by_cases a7 : 7 < R.size - n
    · have HF := Lib.hid (show o = none by rw [HO.out, if_neg (by omega), if_neg (by omega), if_neg HQ.out, if_neg (by omega), if_neg (by rw [getElem?_pos R n hlt]; simpa using a5), if_neg a6, if_pos a7])
      clear a5
      go_wp2
      refine bodyPost_ret (results_tmp4 rfl _ _ _) rfl ?_
      exact ⟨by rw [HOO.out, HF.out]; rfl, Below.refl _ _⟩
    have HF := Lib.hid (show o = if (tailL R (n + 1)).all digC = true then some (R.data.toList.take n, tailL R (n + 1)) else none by
      rw [HO.out, if_neg (by omega), if_neg (by omega), if_neg HQ.out, if_neg (by omega), if_neg (by rw [getElem?_pos R n hlt]; simpa using a5), if_neg a6, if_neg a7])
    clear a5
    go_wp2
    go_loop [8] (fun i => ∃ j : Nat, n < j ∧ j ≤ R.size ∧ i = .int .i64 j ∧ Hid ((tailL R j).all digC = (tailL R (n + 1)).all digC)) (fun i => R.size - (intOf i).toNat)
    case atStart => exact ⟨n + 1, by omega, by omega, by go_num, rfl⟩
    case round =>
      obtain ⟨j, hj1, hj2, rfl, ha⟩ := hrel
      by_cases hj : j < R.size
      · have HA := Lib.hid (all_tail hj digC)
        by_cases hd : digC R[j] = true
        · obtain ⟨d1, d2⟩ := digC_iff.1 hd
          have HDD := Lib.hid hd
          have d3 : (48 : Int) ≤ (R[j].toNat : Int) := by omega
          have d4 : (R[j].toNat : Int) ≤ 57 := by omega
          clear hd d1 d2
          go_wp2
          go_round
          case rel => exact ⟨j + 1, by omega, by omega, by go_num, by have h1 := HA.out; rw [HDD.out, Bool.true_and] at h1; unfold Hid; rw [← h1]; exact ha.out⟩
          case measure => simp [intOf]; omega
        · have hno : ¬ (48 ≤ R[j].toNat ∧ R[j].toNat ≤ 57) := fun h => hd (digC_iff.2 h)
          have HN := Lib.hid (show o = none by
            have h1 := HA.out
            have h2 := ha.out
            rw [Bool.not_eq_true] at hd
            rw [hd, Bool.false_and] at h1
            rw [HF.out, ← h2, h1]; rfl)
          clear hd
          by_cases h48 : (R[j].toNat : Int) < 48
          · go_wp2
            refine bodyPost_ret (results_tmp4 rfl _ _ _) rfl ?_
            exact ⟨by rw [HOO.out, HN.out]; rfl, Below.refl _ _⟩
          · have h57 : (57 : Int) < (R[j].toNat : Int) := by omega
            go_wp2
            refine bodyPost_ret (results_tmp4 rfl _ _ _) rfl ?_
            exact ⟨by rw [HOO.out, HN.out]; rfl, Below.refl _ _⟩
      · have HT := Lib.hid (all_tail_end (s := R) (k := j) (by omega) digC)
        have HY := Lib.hid (show o = some (R.data.toList.take n, tailL R (n + 1)) by rw [HF.out, ← ha.out, HT.out, if_pos rfl])
        clear ha
        go_wp2
        go_quiet (fail)
        go_wp2
        refine bodyPost_ret (results_tmp4 rfl _ _ _) rfl ?_
        exact ⟨by rw [HOO.out, HY.out]; exact strs4 (ext_take R n) (ext_drop R (n + 1)), below_drewN (Below.refl _ _) _⟩
  · have b5 : ((R[n].toNat : Int) != 46) = true := by simpa using a5
    have HF := Lib.hid (show o = none by rw [HO.out, if_neg (by omega), if_neg (by omega), if_neg HQ.out, if_neg (by omega), if_pos (by rw [getElem?_pos R n hlt]; simpa using a5)])
    clear a5
    go_wp2
    refine bodyPost_ret (results_tmp4 rfl _ _ _) rfl ?_
    exact ⟨by rw [HOO.out, HF.out]; rfl, Below.refl _ _⟩
end Go.Proofs.Yticdihfjnmjkmaa
