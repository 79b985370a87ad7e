/- The word at a place: the reference's. -/
import Derived.Test.YticdihfjnmjkmaaPWord2
namespace Go.Proofs.Yticdihfjnmjkmaa
open Go.RowKit
attribute [local go_sem] run_store_float
theorem below_one (w : World) (o1 : Obj) : Below w.heap.size w (w.alloc o1) := (Below.refl _ _).alloc (Nat.le_refl _) _
theorem bcell1 {w w1 : World} {a0 a1 a2 a3 : Value} {t : TypeId} (hb : Below (w.alloc (.cells #[a0, a1, a2, a3] t)).heap.size (w.alloc (.cells #[a0, a1, a2, a3] t)) w1) :
    w1.cell? ⟨w.heap.size, 0, none⟩ = some a0 ∧ w1.cell? ⟨w.heap.size, 1, none⟩ = some a1 ∧ w1.cell? ⟨w.heap.size, 2, none⟩ = some a2 ∧ w1.cell? ⟨w.heap.size, 3, none⟩ = some a3 := by
  have h : ∀ o, w1.cell? ⟨w.heap.size, o, none⟩ = (w.alloc (.cells #[a0, a1, a2, a3] t)).cell? ⟨w.heap.size, o, none⟩ := fun o => hb.cell (p := ⟨w.heap.size, o, none⟩) (by simp)
  refine ⟨(h 0).trans ?_, (h 1).trans ?_, (h 2).trans ?_, (h 3).trans ?_⟩ <;> simp [go_sem]

set_option maxRecDepth 100000 in
theorem rword_name (s : ByteArray) (hs : s.size ≤ 9223372036854775806) (p : Nat) (hp : p < s.size) (hl : letterB (s[p].toNat : Int) = true) (w : World) : Calls Try.prog 29 #[.string s, .int .i64 p] w (WordPost s p w) := by
  have HW := Lib.hid (wordA_name hp hl)
  have H32 := fun W => Lib.hid (letter_any (s[p].toNat : Int) W)
  rw [hl] at H32
  have HS := Lib.hid (runA_yes (f := innerB) hp (by unfold innerB; rw [hl]; rfl))
  clear hl
  go_enter Try.func29, Try.ntmps29
  go_wp2_with (first | (go_at_call 32; refine (H32 _).out.mono ?_; rintro e w' ⟨rfl, rfl⟩))
  go_loop [8] (fun i => ∃ k : Nat, p + 1 ≤ k ∧ k ≤ s.size ∧ i = .int .i64 k ∧ Hid (k + runA innerB s k = p + runA innerB s p)) (fun i => s.size - (intOf i).toNat)
  case atStart => exact ⟨p + 1, by omega, by omega, by go_num, by have := HS.out; unfold Hid; omega⟩
  case round =>
    obtain ⟨k, hk1, hk, rfl, ha⟩ := hrel
    by_cases hlt : k < s.size
    · have HI := fun W => Lib.hid (inner_any (s[k].toNat : Int) W)
      have HY := Lib.hid (fun h => runA_yes (f := innerB) (s := s) (p := k) hlt h)
      have HZ := Lib.hid (fun h => runA_no (f := innerB) (s := s) (p := k) hlt h)
      generalize innerB (s[k].toNat : Int) = x at *
      cases x
      · have HN := Lib.hid (show k = p + runA innerB s p by have := HZ.out (by trivial); have := ha.out; omega)
        clear ha HS
        by_cases h1 : 24 < (k : Int) - p
        · have HE := Lib.hid (show wordA s p = badW 1 by rw [HW.out, if_pos (by have := HN.out; omega)])
          go_wp2_with (first | (go_at_call 33; refine (HI _).out.mono ?_; rintro e w' ⟨rfl, rfl⟩))
          refine bodyPost_ret (v := .tuple #[.agg #[.int .i64 0, .int .i64 0, .string ⟨#[]⟩, .float .f64 0], .int .i64 p, .int .i64 1]) (by simp [results, Try.results29, go_sem]) rfl (word_bad HE.out (by decide) ?_)
          repeat refine Below.setCell ?_ (by simp) _
          exact below_one w _
        · have HE := Lib.hid (show wordA s p = ⟨0, 1, (tailL s p).take (k - p), 0, k - p⟩ by rw [HW.out, if_neg (by have := HN.out; omega), show runA innerB s p = k - p by have := HN.out; omega])
          have hsl : ∀ W, (Instr.slice 9 (.string s) (some (.int .i64 (p : Int))) (some (.int .i64 (k : Int))) none).run Try.prog W = .ok (.string (bOf ((tailL s p).take (k - p)))) W := fun W => by
            rw [slice_str W s _ _ (by omega) (by omega) (by omega), ← ext_bOf]
            exact congrArg (fun x => Result.ok (Value.string x) W) (by congr 1 <;> omega)
          obtain ⟨T, hT⟩ : ∃ T, T = bOf ((tailL s p).take (k - p)) := ⟨_, rfl⟩
          rw [← hT] at hsl
          have HT := Lib.hid hT
          clear hT
          go_wp2_with (first | (go_at_call 33; refine (HI _).out.mono ?_; rintro e w' ⟨rfl, rfl⟩))
          refine bodyPost_ret (v := .tuple #[.agg #[.int .i64 1, .int .i64 p, .string T, .float .f64 0], .int .i64 k, .int .i64 0]) (by simp [results, Try.results29, go_sem]) rfl (word_good HE.out HT.out (by omega) ?_)
          repeat refine Below.setCell ?_ (by simp) _
          exact below_one w _
      · go_wp2_with (first | (go_at_call 33; refine (HI _).out.mono ?_; rintro e w' ⟨rfl, rfl⟩))
        go_round
        case rel => exact ⟨k + 1, by omega, by omega, by go_num, by have := HY.out trivial; have := ha.out; unfold Hid; omega⟩
        case measure => simp [intOf]; omega
    · have HN := Lib.hid (show k = p + runA innerB s p by have := runA_end (f := innerB) (s := s) (p := k) (by omega); have := ha.out; omega)
      clear ha HS
      by_cases h1 : 24 < (k : Int) - p
      · have HE := Lib.hid (show wordA s p = badW 1 by rw [HW.out, if_pos (by have := HN.out; omega)])
        go_wp2
        refine bodyPost_ret (v := .tuple #[.agg #[.int .i64 0, .int .i64 0, .string ⟨#[]⟩, .float .f64 0], .int .i64 p, .int .i64 1]) (by simp [results, Try.results29, go_sem]) rfl (word_bad HE.out (by decide) ?_)
        repeat refine Below.setCell ?_ (by simp) _
        exact below_one w _
      · have HE := Lib.hid (show wordA s p = ⟨0, 1, (tailL s p).take (k - p), 0, k - p⟩ by rw [HW.out, if_neg (by have := HN.out; omega), show runA innerB s p = k - p by have := HN.out; omega])
        have hsl : ∀ W, (Instr.slice 9 (.string s) (some (.int .i64 (p : Int))) (some (.int .i64 (k : Int))) none).run Try.prog W = .ok (.string (bOf ((tailL s p).take (k - p)))) W := fun W => by
          rw [slice_str W s _ _ (by omega) (by omega) (by omega), ← ext_bOf]
          exact congrArg (fun x => Result.ok (Value.string x) W) (by congr 1 <;> omega)
        obtain ⟨T, hT⟩ : ∃ T, T = bOf ((tailL s p).take (k - p)) := ⟨_, rfl⟩
        rw [← hT] at hsl
        have HT := Lib.hid hT
        clear hT
        go_wp2
        refine bodyPost_ret (v := .tuple #[.agg #[.int .i64 1, .int .i64 p, .string T, .float .f64 0], .int .i64 k, .int .i64 0]) (by simp [results, Try.results29, go_sem]) rfl (word_good HE.out HT.out (by omega) ?_)
        repeat refine Below.setCell ?_ (by simp) _
        exact below_one w _
set_option maxRecDepth 100000 in
theorem rword_quot (s : ByteArray) (hs : s.size ≤ 9223372036854775806) (p : Nat) (hp : p < s.size) (hl : letterB (s[p].toNat : Int) = false) (hq : (s[p].toNat : Int) = 39) (w : World) : Calls Try.prog 29 #[.string s, .int .i64 p] w (WordPost s p w) := by
  have HW := Lib.hid (wordA_quot hp hl hq)
  have H32 := fun W => Lib.hid (letter_any (s[p].toNat : Int) W)
  rw [hl] at H32
  have hq1 : ((s[p].toNat : Int) == 39) = true := by simpa using hq
  clear hl hq
  go_enter Try.func29, Try.ntmps29
  go_wp2_with (first | (go_at_call 32; refine (H32 _).out.mono ?_; rintro e w' ⟨rfl, rfl⟩))
  go_loop [8] (fun i => ∃ k : Nat, p + 1 ≤ k ∧ k ≤ s.size ∧ i = .int .i64 k ∧ Hid (k + runA quotableB s k = p + 1 + runA quotableB s (p + 1))) (fun i => s.size - (intOf i).toNat)
  case atStart => exact ⟨p + 1, by omega, by omega, by go_num, rfl⟩
  case round =>
    obtain ⟨k, hk1, hk, rfl, ha⟩ := hrel
    by_cases hlt : k < s.size
    · have HI := fun W => Lib.hid (quotable_any (s[k].toNat : Int) W)
      have HY := Lib.hid (fun h => runA_yes (f := quotableB) (s := s) (p := k) hlt h)
      have HZ := Lib.hid (fun h => runA_no (f := quotableB) (s := s) (p := k) hlt h)
      generalize quotableB (s[k].toNat : Int) = x at *
      cases x
      · have HN := Lib.hid (show k = p + 1 + runA quotableB s (p + 1) by have := HZ.out (by trivial); have := ha.out; omega)
        clear ha
        have HW2 := Lib.hid (show wordA s p = if k = s.size ∨ (s[k]?.map fun c => (c.toNat : Int)) ≠ some 39 ∨ k - (p + 1) = 0 then badW 3 else if 16 < k - (p + 1) then badW 1 else ⟨0, 2, (tailL s (p + 1)).take (k - (p + 1)), 0, k - (p + 1) + 2⟩ by
          have h1 : runA quotableB s (p + 1) = k - (p + 1) := by have := HN.out; omega
          rw [HW.out, h1, show p + 1 + (k - (p + 1)) = k by omega])
        clear HW
        have h1b : ((k : Int) == (s.size : Int)) = false := by simp; omega
        by_cases h2 : (s[k].toNat : Int) = 39
        · have h2b : ((s[k].toNat : Int) != 39) = false := by simpa using h2
          by_cases h3 : k - (p + 1) = 0
          · have HE := Lib.hid (show wordA s p = badW 3 by rw [HW2.out, if_pos (.inr (.inr h3))])
            have h3b : ((k : Int) == (p : Int) + 1) = true := by simp; omega
            clear h2 h3
            go_wp2_with (first | (go_at_call 34; refine (HI _).out.mono ?_; rintro e w' ⟨rfl, rfl⟩))
            refine bodyPost_ret (v := .tuple #[.agg #[.int .i64 0, .int .i64 0, .string ⟨#[]⟩, .float .f64 0], .int .i64 p, .int .i64 3]) (by simp [results, Try.results29, go_sem]) rfl (word_bad HE.out (by decide) ?_)
            repeat refine Below.setCell ?_ (by simp) _
            exact below_one w _
          have h3b : ((k : Int) == (p : Int) + 1) = false := by simp; omega
          have hor : ¬ (k = s.size ∨ (s[k]?.map fun c => (c.toNat : Int)) ≠ some 39 ∨ k - (p + 1) = 0) := by
            rw [getElem?_pos s k hlt]
            rintro (h | h | h)
            · omega
            · exact h (congrArg some h2)
            · exact h3 h
          by_cases h4 : 17 < (k : Int) - p
          · have HE := Lib.hid (show wordA s p = badW 1 by rw [HW2.out, if_neg hor, if_pos (by omega)])
            clear h2 h3 hor
            go_wp2_with (first | (go_at_call 34; refine (HI _).out.mono ?_; rintro e w' ⟨rfl, rfl⟩))
            refine bodyPost_ret (v := .tuple #[.agg #[.int .i64 0, .int .i64 0, .string ⟨#[]⟩, .float .f64 0], .int .i64 p, .int .i64 1]) (by simp [results, Try.results29, go_sem]) rfl (word_bad HE.out (by decide) ?_)
            repeat refine Below.setCell ?_ (by simp) _
            exact below_one w _
          · have HE := Lib.hid (show wordA s p = ⟨0, 2, (tailL s (p + 1)).take (k - (p + 1)), 0, k - (p + 1) + 2⟩ by rw [HW2.out, if_neg hor, if_neg (by omega)])
            clear h2 h3 hor
            have hsl : ∀ W, (Instr.slice 9 (.string s) (some (.int .i64 ((p : Int) + 1))) (some (.int .i64 (k : Int))) none).run Try.prog W = .ok (.string (bOf ((tailL s (p + 1)).take (k - (p + 1))))) W := fun W => by
              rw [slice_str W s _ _ (by omega) (by omega) (by omega), ← ext_bOf]
              exact congrArg (fun x => Result.ok (Value.string x) W) (by congr 1 <;> omega)
            obtain ⟨T, hT⟩ : ∃ T, T = bOf ((tailL s (p + 1)).take (k - (p + 1))) := ⟨_, rfl⟩
            rw [← hT] at hsl
            have HT := Lib.hid hT
            clear hT
            go_wp2_with (first | (go_at_call 34; refine (HI _).out.mono ?_; rintro e w' ⟨rfl, rfl⟩))
            refine bodyPost_ret (v := .tuple #[.agg #[.int .i64 2, .int .i64 p, .string T, .float .f64 0], .int .i64 ((k : Int) + 1), .int .i64 0]) (by simp [results, Try.results29, go_sem]) rfl (word_good HE.out HT.out (by omega) ?_)
            repeat refine Below.setCell ?_ (by simp) _
            exact below_one w _
        · have h2b : ((s[k].toNat : Int) != 39) = true := by simpa using h2
          have HE := Lib.hid (show wordA s p = badW 3 by rw [HW2.out, if_pos (.inr (.inl (by rw [getElem?_pos s k hlt]; simpa using h2)))])
          clear h2
          go_wp2_with (first | (go_at_call 34; refine (HI _).out.mono ?_; rintro e w' ⟨rfl, rfl⟩))
          refine bodyPost_ret (v := .tuple #[.agg #[.int .i64 0, .int .i64 0, .string ⟨#[]⟩, .float .f64 0], .int .i64 p, .int .i64 3]) (by simp [results, Try.results29, go_sem]) rfl (word_bad HE.out (by decide) ?_)
          repeat refine Below.setCell ?_ (by simp) _
          exact below_one w _
      · go_wp2_with (first | (go_at_call 34; refine (HI _).out.mono ?_; rintro e w' ⟨rfl, rfl⟩))
        go_round
        case rel => exact ⟨k + 1, by omega, by omega, by go_num, by have := HY.out trivial; have := ha.out; unfold Hid; omega⟩
        case measure => simp [intOf]; omega
    · have HN := Lib.hid (show k = p + 1 + runA quotableB s (p + 1) by have := runA_end (f := quotableB) (s := s) (p := k) (by omega); have := ha.out; omega)
      have HE := Lib.hid (show wordA s p = badW 3 by rw [HW.out, if_pos (.inl (by have := HN.out; omega))])
      have h1b : ((k : Int) == (s.size : Int)) = true := by simp; omega
      clear ha
      go_wp2
      refine bodyPost_ret (v := .tuple #[.agg #[.int .i64 0, .int .i64 0, .string ⟨#[]⟩, .float .f64 0], .int .i64 p, .int .i64 3]) (by simp [results, Try.results29, go_sem]) rfl (word_bad HE.out (by decide) ?_)
      repeat refine Below.setCell ?_ (by simp) _
      exact below_one w _
set_option maxRecDepth 100000 in
theorem rword_sign (s : ByteArray) (hs : s.size ≤ 9223372036854775806) (p : Nat) (hp : p < s.size) (hl : letterB (s[p].toNat : Int) = false) (h39 : (s[p].toNat : Int) ≠ 39) (h37 : (s[p].toNat : Int) ≠ 37) (w : World) : Calls Try.prog 29 #[.string s, .int .i64 p] w (WordPost s p w) := by
  have HW := Lib.hid (wordA_sign hp hl h39 h37)
  have H32 := fun W => Lib.hid (letter_any (s[p].toNat : Int) W)
  rw [hl] at H32
  have H51 := fun W => Lib.hid (rsign_any (s[p].toNat : Int) W)
  have hq1 : ((s[p].toNat : Int) == 39) = false := by simpa using h39
  have hq2 : ((s[p].toNat : Int) == 37) = false := by simpa using h37
  clear hl h39 h37
  generalize signB (s[p].toNat : Int) = x at *
  cases x
  · have HE := Lib.hid (show wordA s p = badW 2 by rw [HW.out, if_neg (by decide)])
    go_enter Try.func29, Try.ntmps29
    go_wp2_with (first | (go_at_call 32; refine (H32 _).out.mono ?_; rintro e w' ⟨rfl, rfl⟩) | (go_at_call 51; refine (H51 _).out.mono ?_; rintro e w' ⟨rfl, rfl⟩))
    refine bodyPost_ret (v := .tuple #[.agg #[.int .i64 0, .int .i64 0, .string ⟨#[]⟩, .float .f64 0], .int .i64 p, .int .i64 2]) (by simp [results, Try.results29, go_sem]) rfl (word_bad HE.out (by decide) ?_)
    repeat refine Below.setCell ?_ (by simp) _
    exact below_one w _
  · have HE := Lib.hid (show wordA s p = ⟨0, 4, (tailL s p).take 1, 0, 1⟩ by rw [HW.out, if_pos rfl])
    have hsl : ∀ W, (Instr.slice 9 (.string s) (some (.int .i64 (p : Int))) (some (.int .i64 ((p : Int) + 1))) none).run Try.prog W = .ok (.string (bOf ((tailL s p).take (1)))) W := fun W => by
      rw [slice_str W s _ _ (by omega) (by omega) (by omega), ← ext_bOf]
      exact congrArg (fun x => Result.ok (Value.string x) W) (by congr 1 <;> omega)
    obtain ⟨T, hT⟩ : ∃ T, T = bOf ((tailL s p).take (1)) := ⟨_, rfl⟩
    rw [← hT] at hsl
    have HT := Lib.hid hT
    clear hT
    go_enter Try.func29, Try.ntmps29
    go_wp2_with (first | (go_at_call 32; refine (H32 _).out.mono ?_; rintro e w' ⟨rfl, rfl⟩) | (go_at_call 51; refine (H51 _).out.mono ?_; rintro e w' ⟨rfl, rfl⟩))
    refine bodyPost_ret (v := .tuple #[.agg #[.int .i64 4, .int .i64 p, .string T, .float .f64 0], .int .i64 ((p : Int) + 1), .int .i64 0]) (by simp [results, Try.results29, go_sem]) rfl (word_good HE.out HT.out (by omega) ?_)
    repeat refine Below.setCell ?_ (by simp) _
    exact below_one w _
theorem weight_of (c : Int) : weightB c = (digitB c || letterB c || decide (c = 46) || decide (c = 45)) := rfl
set_option maxRecDepth 100000 in
theorem rword_wght (s : ByteArray) (hs : s.size ≤ 9223372036854775806) (p : Nat) (hp : p < s.size) (hl : letterB (s[p].toNat : Int) = false) (hq : (s[p].toNat : Int) = 37) (w : World) : Calls Try.prog 29 #[.string s, .int .i64 p] w (WordPost s p w) := by
  have HW := Lib.hid (wordA_wght hp hl hq)
  have H32 := fun W => Lib.hid (letter_any (s[p].toNat : Int) W)
  rw [hl] at H32
  have hq1 : ((s[p].toNat : Int) == 39) = false := by simp [hq]
  have hq2 : ((s[p].toNat : Int) == 37) = true := by simpa using hq
  clear hl hq
  go_enter Try.func29, Try.ntmps29
  go_wp2_with (first | (go_at_call 32; refine (H32 _).out.mono ?_; rintro e w' ⟨rfl, rfl⟩))
  go_loop [8] (fun i => ∃ k : Nat, p + 1 ≤ k ∧ k ≤ s.size ∧ i = .int .i64 k ∧ Hid (k + runA weightB s k = p + 1 + runA weightB s (p + 1))) (fun i => s.size - (intOf i).toNat)
  case atStart => exact ⟨p + 1, by omega, by omega, by go_num, rfl⟩
  case round =>
    obtain ⟨k, hk1, hk, rfl, ha⟩ := hrel
    by_cases hlt : k < s.size
    · have HD := fun W => Lib.hid (digit_any (s[k].toNat : Int) W)
      have HL := fun W => Lib.hid (letter_any (s[k].toNat : Int) W)
      have HY := Lib.hid (fun h => runA_yes (f := weightB) (s := s) (p := k) hlt h)
      have HZ := Lib.hid (fun h => runA_no (f := weightB) (s := s) (p := k) hlt h)
      have HX := Lib.hid (weight_of (s[k].toNat : Int))
      generalize weightB (s[k].toNat : Int) = x at *
      generalize digitB (s[k].toNat : Int) = d at *
      generalize letterB (s[k].toNat : Int) = l at *
      by_cases h46 : (s[k].toNat : Int) = 46
      · have b1 : ((s[k].toNat : Int) == 46) = true := by simpa using h46
        have HT := Lib.hid (show x = true by rw [HX.out]; simp [h46])
        clear h46
        cases d <;> cases l
        all_goals
          go_wp2_with (first | (go_at_call 50; refine (HD _).out.mono ?_; rintro e w' ⟨rfl, rfl⟩) | (go_at_call 32; refine (HL _).out.mono ?_; rintro e w' ⟨rfl, rfl⟩))
          go_round
          case rel => exact ⟨k + 1, by omega, by omega, by go_num, by have := HY.out HT.out; have := ha.out; unfold Hid; omega⟩
          case measure => simp [intOf]; omega
      have b1 : ((s[k].toNat : Int) == 46) = false := by simpa using h46
      by_cases h45 : (s[k].toNat : Int) = 45
      · have b2 : ((s[k].toNat : Int) == 45) = true := by simpa using h45
        have HT := Lib.hid (show x = true by rw [HX.out]; simp [h45])
        clear h46 h45
        cases d <;> cases l
        all_goals
          go_wp2_with (first | (go_at_call 50; refine (HD _).out.mono ?_; rintro e w' ⟨rfl, rfl⟩) | (go_at_call 32; refine (HL _).out.mono ?_; rintro e w' ⟨rfl, rfl⟩))
          go_round
          case rel => exact ⟨k + 1, by omega, by omega, by go_num, by have := HY.out HT.out; have := ha.out; unfold Hid; omega⟩
          case measure => simp [intOf]; omega
      have b2 : ((s[k].toNat : Int) == 45) = false := by simpa using h45
      have HX2 := Lib.hid (show x = (d || l) by rw [HX.out]; simp [h46, h45])
      clear h46 h45
      cases d
      · cases l
        · have HN := Lib.hid (show k = p + 1 + runA weightB s (p + 1) by have := HZ.out HX2.out; have := ha.out; omega)
          clear ha
          have HW2 := Lib.hid (show wordA s p = if (readL ((tailL s (p + 1)).take (k - (p + 1)))).isSome = true then ⟨0, 3, (tailL s (p + 1)).take (k - (p + 1)), (readL ((tailL s (p + 1)).take (k - (p + 1)))).getD 0, k - (p + 1) + 1⟩ else badW 4 by
            have h1 : runA weightB s (p + 1) = k - (p + 1) := by have := HN.out; omega
            rw [HW.out, h1])
          clear HW
          have hsz : (bOf ((tailL s (p + 1)).take (k - (p + 1)))).size ≤ 9223372036854775807 := by
            rw [bOf_size, List.length_take, tailL_len]; omega
          have H42 := fun W => Lib.hid (rread_any (bOf ((tailL s (p + 1)).take (k - (p + 1)))) hsz W)
          unfold ReadPost at H42
          rw [bOf_list] at H42
          clear hsz
          have hsl : ∀ W, (Instr.slice 9 (.string s) (some (.int .i64 ((p : Int) + 1))) (some (.int .i64 (k : Int))) none).run Try.prog W = .ok (.string (bOf ((tailL s (p + 1)).take (k - (p + 1))))) W := fun W => by
            rw [slice_str W s _ _ (by omega) (by omega) (by omega), ← ext_bOf]
            exact congrArg (fun x => Result.ok (Value.string x) W) (by congr 1 <;> omega)
          obtain ⟨T, hT⟩ : ∃ T, T = bOf ((tailL s (p + 1)).take (k - (p + 1))) := ⟨_, rfl⟩
          rw [← hT] at hsl H42
          have HT := Lib.hid hT
          clear hT
          generalize readL ((tailL s (p + 1)).take (k - (p + 1))) = r at *
          cases r with
          | none =>
            have HE := Lib.hid (show wordA s p = badW 4 by rw [HW2.out, if_neg (by decide)])
            have H42' : ∀ W, Hid (Calls Try.prog 42 #[.string T] W fun e w' => e = .returned (.tuple #[.float .f64 0, .bool false]) ∧ Below W.heap.size W w') := fun W => H42 W
            clear H42
            go_wp2_with (first | (go_at_call 50; refine (HD _).out.mono ?_; rintro e w' ⟨rfl, rfl⟩) | (go_at_call 32; refine (HL _).out.mono ?_; rintro e w' ⟨rfl, rfl⟩) | (go_at_call 42; refine (H42' _).out.mono ?_; rintro e w1 ⟨rfl, hb⟩; have hc := (bcell hb).1; have hf := (bcell hb).2))
            refine bodyPost_ret (v := .tuple #[.agg #[.int .i64 0, .int .i64 0, .string ⟨#[]⟩, .float .f64 0], .int .i64 p, .int .i64 4]) (by simp [results, Try.results29, go_sem, bcell1 hb]) rfl (word_bad HE.out (by decide) ?_)
            repeat refine Below.setCell ?_ (by simp) _
            exact (below_one w _).trans (hb.mono (by simp))
          | some f =>
            have HE := Lib.hid (show wordA s p = ⟨0, 3, (tailL s (p + 1)).take (k - (p + 1)), f, k - (p + 1) + 1⟩ by rw [HW2.out]; exact if_pos rfl)
            have H42' : ∀ W, Hid (Calls Try.prog 42 #[.string T] W fun e w' => e = .returned (.tuple #[.float .f64 f, .bool true]) ∧ Below W.heap.size W w') := fun W => H42 W
            clear H42
            go_wp2_with (first | (go_at_call 50; refine (HD _).out.mono ?_; rintro e w' ⟨rfl, rfl⟩) | (go_at_call 32; refine (HL _).out.mono ?_; rintro e w' ⟨rfl, rfl⟩) | (go_at_call 42; refine (H42' _).out.mono ?_; rintro e w1 ⟨rfl, hb⟩; have hc := (bcell hb).1; have hf := (bcell hb).2))
            refine bodyPost_ret (v := .tuple #[.agg #[.int .i64 3, .int .i64 p, .string T, .float .f64 f], .int .i64 k, .int .i64 0]) (by simp [results, Try.results29, go_sem, bcell1 hb]) rfl (word_good HE.out HT.out (by omega) ?_)
            repeat refine Below.setCell ?_ (by simp) _
            exact (below_one w _).trans (hb.mono (by simp))
        · have HT := Lib.hid (show x = true from HX2.out)
          go_wp2_with (first | (go_at_call 50; refine (HD _).out.mono ?_; rintro e w' ⟨rfl, rfl⟩) | (go_at_call 32; refine (HL _).out.mono ?_; rintro e w' ⟨rfl, rfl⟩))
          go_round
          case rel => exact ⟨k + 1, by omega, by omega, by go_num, by have := HY.out HT.out; have := ha.out; unfold Hid; omega⟩
          case measure => simp [intOf]; omega
      · have HT := Lib.hid (show x = true by rw [HX2.out]; rfl)
        go_wp2_with (first | (go_at_call 50; refine (HD _).out.mono ?_; rintro e w' ⟨rfl, rfl⟩) | (go_at_call 32; refine (HL _).out.mono ?_; rintro e w' ⟨rfl, rfl⟩))
        go_round
        case rel => exact ⟨k + 1, by omega, by omega, by go_num, by have := HY.out HT.out; have := ha.out; unfold Hid; omega⟩
        case measure => simp [intOf]; omega
    · have HN := Lib.hid (show k = p + 1 + runA weightB s (p + 1) by have := runA_end (f := weightB) (s := s) (p := k) (by omega); have := ha.out; omega)
      clear ha
      have HW2 := Lib.hid (show wordA s p = if (readL ((tailL s (p + 1)).take (k - (p + 1)))).isSome = true then ⟨0, 3, (tailL s (p + 1)).take (k - (p + 1)), (readL ((tailL s (p + 1)).take (k - (p + 1)))).getD 0, k - (p + 1) + 1⟩ else badW 4 by
        have h1 : runA weightB s (p + 1) = k - (p + 1) := by have := HN.out; omega
        rw [HW.out, h1])
      clear HW
      have hsz : (bOf ((tailL s (p + 1)).take (k - (p + 1)))).size ≤ 9223372036854775807 := by
        rw [bOf_size, List.length_take, tailL_len]; omega
      have H42 := fun W => Lib.hid (rread_any (bOf ((tailL s (p + 1)).take (k - (p + 1)))) hsz W)
      unfold ReadPost at H42
      rw [bOf_list] at H42
      clear hsz
      have hsl : ∀ W, (Instr.slice 9 (.string s) (some (.int .i64 ((p : Int) + 1))) (some (.int .i64 (k : Int))) none).run Try.prog W = .ok (.string (bOf ((tailL s (p + 1)).take (k - (p + 1))))) W := fun W => by
        rw [slice_str W s _ _ (by omega) (by omega) (by omega), ← ext_bOf]
        exact congrArg (fun x => Result.ok (Value.string x) W) (by congr 1 <;> omega)
      obtain ⟨T, hT⟩ : ∃ T, T = bOf ((tailL s (p + 1)).take (k - (p + 1))) := ⟨_, rfl⟩
      rw [← hT] at hsl H42
      have HT := Lib.hid hT
      clear hT
      generalize readL ((tailL s (p + 1)).take (k - (p + 1))) = r at *
      cases r with
      | none =>
        have HE := Lib.hid (show wordA s p = badW 4 by rw [HW2.out, if_neg (by decide)])
        have H42' : ∀ W, Hid (Calls Try.prog 42 #[.string T] W fun e w' => e = .returned (.tuple #[.float .f64 0, .bool false]) ∧ Below W.heap.size W w') := fun W => H42 W
        clear H42
        go_wp2_with (first | (fail) | (go_at_call 42; refine (H42' _).out.mono ?_; rintro e w1 ⟨rfl, hb⟩; have hc := (bcell hb).1; have hf := (bcell hb).2))
        refine bodyPost_ret (v := .tuple #[.agg #[.int .i64 0, .int .i64 0, .string ⟨#[]⟩, .float .f64 0], .int .i64 p, .int .i64 4]) (by simp [results, Try.results29, go_sem, bcell1 hb]) rfl (word_bad HE.out (by decide) ?_)
        repeat refine Below.setCell ?_ (by simp) _
        exact (below_one w _).trans (hb.mono (by simp))
      | some f =>
        have HE := Lib.hid (show wordA s p = ⟨0, 3, (tailL s (p + 1)).take (k - (p + 1)), f, k - (p + 1) + 1⟩ by rw [HW2.out]; exact if_pos rfl)
        have H42' : ∀ W, Hid (Calls Try.prog 42 #[.string T] W fun e w' => e = .returned (.tuple #[.float .f64 f, .bool true]) ∧ Below W.heap.size W w') := fun W => H42 W
        clear H42
        go_wp2_with (first | (fail) | (go_at_call 42; refine (H42' _).out.mono ?_; rintro e w1 ⟨rfl, hb⟩; have hc := (bcell hb).1; have hf := (bcell hb).2))
        refine bodyPost_ret (v := .tuple #[.agg #[.int .i64 3, .int .i64 p, .string T, .float .f64 f], .int .i64 k, .int .i64 0]) (by simp [results, Try.results29, go_sem, bcell1 hb]) rfl (word_good HE.out HT.out (by omega) ?_)
        repeat refine Below.setCell ?_ (by simp) _
        exact (below_one w _).trans (hb.mono (by simp))
theorem rword_any (s : ByteArray) (hs : s.size ≤ 9223372036854775806) (p : Nat) (hp : p < s.size) (w : World) : Calls Try.prog 29 #[.string s, .int .i64 p] w (WordPost s p w) := by
  by_cases hl : letterB (s[p].toNat : Int) = true
  · exact rword_name s hs p hp hl w
  rw [Bool.not_eq_true] at hl
  by_cases h1 : (s[p].toNat : Int) = 39
  · exact rword_quot s hs p hp hl h1 w
  by_cases h2 : (s[p].toNat : Int) = 37
  · exact rword_wght s hs p hp hl h2 w
  exact rword_sign s hs p hp hl h1 h2 w
end Go.Proofs.Yticdihfjnmjkmaa
