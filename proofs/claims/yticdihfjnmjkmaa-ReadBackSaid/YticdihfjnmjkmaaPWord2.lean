/- The word at a place: the program's. -/
import Derived.Test.YticdihfjnmjkmaaPWord
namespace Go.Proofs.Yticdihfjnmjkmaa
open Go.RowKit
theorem bcell {W w1 : World} (hb : Below W.heap.size W w1) : (∀ b o, b < W.heap.size → w1.cell? ⟨b, o, none⟩ = W.cell? ⟨b, o, none⟩) ∧ (∀ b o, b < W.heap.size → w1.frozen? ⟨b, o, none⟩ = W.frozen? ⟨b, o, none⟩) :=
  ⟨fun b o h => hb.cell (p := ⟨b, o, none⟩) h, fun b o h => hb.frozen (p := ⟨b, o, none⟩) h⟩
theorem below_drew {B : Nat} {a w : World} (h : Below B a w) : Below B a w.drew := ⟨h.os, h.tape, h.output, h.size, h.block⟩
theorem bcell4 {w w1 : World} {a0 a1 a2 a3 : Value} {t : TypeId} {o2 : Obj} (hb : Below ((w.alloc (.cells #[a0, a1, a2, a3] t)).alloc o2).heap.size ((w.alloc (.cells #[a0, a1, a2, a3] t)).alloc o2) w1) :
    w1.cell? ⟨w.heap.size, 0, none⟩ = some a0 ∧ w1.cell? ⟨w.heap.size, 1, none⟩ = some a1 ∧ w1.cell? ⟨w.heap.size, 2, none⟩ = some a2 ∧ w1.cell? ⟨w.heap.size, 3, none⟩ = some a3 := by
  have h : ∀ o, w1.cell? ⟨w.heap.size, o, none⟩ = ((w.alloc (.cells #[a0, a1, a2, a3] t)).alloc o2).cell? ⟨w.heap.size, o, none⟩ := fun o => hb.cell (p := ⟨w.heap.size, o, none⟩) (by simp; omega)
  refine ⟨(h 0).trans ?_, (h 1).trans ?_, (h 2).trans ?_, (h 3).trans ?_⟩ <;> simp [go_sem]
theorem below_four {w w1 : World} {o1 o2 : Obj} (hb : Below ((w.alloc o1).alloc o2).heap.size ((w.alloc o1).alloc o2) w1) (v0 v1 v2 v3 : Value) :
    Below w.heap.size w ((((w1.setCell ⟨w.heap.size, 0, none⟩ v0).setCell ⟨w.heap.size, 1, none⟩ v1).setCell ⟨w.heap.size, 2, none⟩ v2).setCell ⟨w.heap.size, 3, none⟩ v3) :=
  (((((below_two w o1 o2).trans (hb.mono (by simp; omega))).setCell (Nat.le_refl _) _).setCell (Nat.le_refl _) _).setCell (Nat.le_refl _) _).setCell (Nat.le_refl _) _
attribute [local go_sem] run_store_float
set_option maxRecDepth 100000 in
theorem pword_name (s : ByteArray) (hs : s.size ≤ 9223372036854775806) (p : Nat) (hp : p < s.size) (hl : letterB (s[p].toNat : Int) = true) (w : World) : Calls Try.prog 27 #[.string s, .int .i64 p] w (WordPost s p w) := by
  have HW := Lib.hid (wordA_name hp hl)
  have H30 := fun W => Lib.hid (pletter_any (s[p].toNat : Int) W)
  rw [hl] at H30
  have HL := fun W => Lib.hid (run1_any s (by omega) p (by omega) W)
  have HRL := runA_le innerB s p
  generalize runA innerB s p = n at *
  clear hl
  by_cases h1 : 24 < (n : Int)
  · have HE := Lib.hid (show wordA s p = badW 1 by rw [HW.out, if_pos (by omega)])
    go_enter Try.func27, Try.ntmps27
    go_wp2_with (first | (go_at_call 30; refine (H30 _).out.mono ?_; rintro e w' ⟨rfl, rfl⟩) | (go_at_call 43; refine (HL _).out.mono ?_; rintro e w' ⟨rfl, rfl⟩))
    exact bodyPost_ret (v := .tuple #[.agg #[.int .i64 0, .int .i64 p, .string ⟨#[]⟩, .float .f64 0], .int .i64 p, .int .i64 1]) (by simp [results, Try.results27, go_sem]) rfl (word_bad HE.out (by decide) (below_two _ _ _))
  · have HE := Lib.hid (show wordA s p = ⟨0, 1, (tailL s p).take n, 0, n⟩ by rw [HW.out, if_neg (by omega)])
    have hsl : ∀ W, (Instr.slice 9 (.string s) (some (.int .i64 (p : Int))) (some (.int .i64 ((p : Int) + n))) none).run Try.prog W = .ok (.string (bOf ((tailL s p).take n))) W := fun W => by
      rw [slice_str W s _ _ (by omega) (by omega) (by omega), ← ext_bOf]
      rfl
    obtain ⟨T, hT⟩ : ∃ T, T = bOf ((tailL s p).take n) := ⟨_, rfl⟩
    rw [← hT] at hsl
    have HT := Lib.hid hT
    clear hT
    go_enter Try.func27, Try.ntmps27
    go_wp2_with (first | (go_at_call 30; refine (H30 _).out.mono ?_; rintro e w' ⟨rfl, rfl⟩) | (go_at_call 43; refine (HL _).out.mono ?_; rintro e w' ⟨rfl, rfl⟩))
    go_region
    go_wp2
    exact bodyPost_ret (v := .tuple #[.agg #[.int .i64 1, .int .i64 p, .string T, .float .f64 0], .int .i64 ((p : Int) + n), .int .i64 0]) (by simp [results, Try.results27, go_sem]) rfl (word_good HE.out HT.out (by omega) (below_drew (below_two _ _ _)))
set_option maxRecDepth 100000 in
theorem pword_quot (s : ByteArray) (hs : s.size ≤ 9223372036854775806) (p : Nat) (hp : p < s.size) (hl : letterB (s[p].toNat : Int) = false) (hq : (s[p].toNat : Int) = 39) (w : World) : Calls Try.prog 27 #[.string s, .int .i64 p] w (WordPost s p w) := by
  have HQ := fun W => Lib.hid (pquot_any s hs p hp hl hq W)
  have H30 := fun W => Lib.hid (pletter_any (s[p].toNat : Int) W)
  rw [hl] at H30
  have hq1 : ((s[p].toNat : Int) == 39) = true := by simpa using hq
  clear hl hq
  go_enter Try.func27, Try.ntmps27
  go_wp2_with (first | (go_at_call 30; refine (H30 _).out.mono ?_; rintro e w' ⟨rfl, rfl⟩) | (go_at_call 46; refine (HQ _).out.mono ?_; rintro e w1 ⟨v, n, rfl, hok, ⟨k, a, t, f, rfl⟩, hb⟩; have hc := (bcell hb).1; have hf := (bcell hb).2))
  exact bodyPost_ret (v := .tuple #[.agg #[.int .i64 k, .int .i64 a, .string t, .float .f64 f], .int .i64 n, .int .i64 (wordA s p).err]) (by simp [results, Try.results27, go_sem, bcell4 hb]) rfl ⟨_, n, rfl, hok, ⟨k, a, t, f, rfl⟩, below_four hb _ _ _ _⟩
theorem pword_sign (s : ByteArray) (hs : s.size ≤ 9223372036854775806) (p : Nat) (hp : p < s.size) (hl : letterB (s[p].toNat : Int) = false) (h39 : (s[p].toNat : Int) ≠ 39) (h37 : (s[p].toNat : Int) ≠ 37) (w : World) : Calls Try.prog 27 #[.string s, .int .i64 p] w (WordPost s p w) := by
  have HW := Lib.hid (wordA_sign hp hl h39 h37)
  have H30 := fun W => Lib.hid (pletter_any (s[p].toNat : Int) W)
  rw [hl] at H30
  have H49 := fun W => Lib.hid (psign_any (s[p].toNat : Int) W)
  have hq1 : ((s[p].toNat : Int) == 39) = false := by simpa using h39
  have hq2 : ((s[p].toNat : Int) == 37) = false := by simpa using h37
  clear hl h39 h37
  generalize signB (s[p].toNat : Int) = x at *
  cases x
  · have HE := Lib.hid (show wordA s p = badW 2 by rw [HW.out, if_neg (by decide)])
    go_enter Try.func27, Try.ntmps27
    go_wp2_with (first | (go_at_call 30; refine (H30 _).out.mono ?_; rintro e w' ⟨rfl, rfl⟩) | (go_at_call 49; refine (H49 _).out.mono ?_; rintro e w' ⟨rfl, rfl⟩))
    exact bodyPost_ret (v := .tuple #[.agg #[.int .i64 0, .int .i64 p, .string ⟨#[]⟩, .float .f64 0], .int .i64 p, .int .i64 2]) (by simp [results, Try.results27, go_sem]) rfl (word_bad HE.out (by decide) (below_two _ _ _))
  · have HE := Lib.hid (show wordA s p = ⟨0, 4, (tailL s p).take 1, 0, 1⟩ by rw [HW.out, if_pos rfl])
    have hsl : ∀ W, (Instr.slice 9 (.string s) (some (.int .i64 (p : Int))) (some (.int .i64 ((p : Int) + 1))) none).run Try.prog W = .ok (.string (bOf ((tailL s p).take 1))) W := fun W => by
      rw [slice_str W s _ _ (by omega) (by omega) (by omega), ← ext_bOf]
      rfl
    obtain ⟨T, hT⟩ : ∃ T, T = bOf ((tailL s p).take 1) := ⟨_, rfl⟩
    rw [← hT] at hsl
    have HT := Lib.hid hT
    clear hT
    go_enter Try.func27, Try.ntmps27
    go_wp2_with (first | (go_at_call 30; refine (H30 _).out.mono ?_; rintro e w' ⟨rfl, rfl⟩) | (go_at_call 49; refine (H49 _).out.mono ?_; rintro e w' ⟨rfl, rfl⟩))
    go_region
    go_wp2
    exact bodyPost_ret (v := .tuple #[.agg #[.int .i64 4, .int .i64 p, .string T, .float .f64 0], .int .i64 ((p : Int) + 1), .int .i64 0]) (by simp [results, Try.results27, go_sem]) rfl (word_good HE.out HT.out (by omega) (below_drew (below_two _ _ _)))
set_option maxRecDepth 100000 in
theorem pword_wght (s : ByteArray) (hs : s.size ≤ 9223372036854775806) (p : Nat) (hp : p < s.size) (hl : letterB (s[p].toNat : Int) = false) (hq : (s[p].toNat : Int) = 37) (w : World) : Calls Try.prog 27 #[.string s, .int .i64 p] w (WordPost s p w) := by
  have HW := Lib.hid (wordA_wght hp hl hq)
  have H30 := fun W => Lib.hid (pletter_any (s[p].toNat : Int) W)
  rw [hl] at H30
  have hq1 : ((s[p].toNat : Int) == 39) = false := by simp [hq]
  have hq2 : ((s[p].toNat : Int) == 37) = true := by simpa using hq
  have HL := fun W => Lib.hid (run2_any s (by omega) (p + 1) (by omega) W)
  have HRL := runA_le weightB s (p + 1)
  generalize runA weightB s (p + 1) = n at *
  clear hl hq
  have hsl : ∀ W, (Instr.slice 9 (.string s) (some (.int .i64 ((p : Int) + 1))) (some (.int .i64 ((p : Int) + 1 + n))) none).run Try.prog W = .ok (.string (bOf ((tailL s (p + 1)).take n))) W := fun W => by
    rw [slice_str W s _ _ (by omega) (by omega) (by omega), ← ext_bOf]
    rfl
  have hsz : (bOf ((tailL s (p + 1)).take n)).size ≤ 9223372036854775807 := by
    rw [bOf_size, List.length_take, tailL_len]; omega
  have H48 := fun W => Lib.hid (edge_any (bOf ((tailL s (p + 1)).take n)) hsz W)
  unfold ReadPost at H48
  rw [bOf_list] at H48
  clear hsz
  obtain ⟨T, hT⟩ : ∃ T, T = bOf ((tailL s (p + 1)).take n) := ⟨_, rfl⟩
  rw [← hT] at hsl H48
  have HT := Lib.hid hT
  clear hT
  generalize readL ((tailL s (p + 1)).take n) = r at *
  cases r with
  | none =>
    have HE := Lib.hid (show wordA s p = badW 4 by rw [HW.out, if_neg (by decide)])
    have H48' : ∀ W, Hid (Calls Try.prog 48 #[.string T] W fun e w' => e = .returned (.tuple #[.float .f64 0, .bool false]) ∧ Below W.heap.size W w') := fun W => H48 W
    clear H48
    go_enter Try.func27, Try.ntmps27
    go_wp2_with (first | (go_at_call 30; refine (H30 _).out.mono ?_; rintro e w' ⟨rfl, rfl⟩) | (go_at_call 43; refine (HL _).out.mono ?_; rintro e w' ⟨rfl, rfl⟩) | (go_at_call 48; refine (H48' _).out.mono ?_; rintro e w1 ⟨rfl, hb⟩; have hc := (bcell hb).1; have hf := (bcell hb).2))
    exact bodyPost_ret (v := .tuple #[.agg #[.int .i64 0, .int .i64 p, .string ⟨#[]⟩, .float .f64 0], .int .i64 p, .int .i64 4]) (by simp [results, Try.results27, go_sem, bcell4 hb]) rfl (word_bad HE.out (by decide) (below_four hb _ _ _ _))
  | some f =>
    have HE := Lib.hid (show wordA s p = ⟨0, 3, (tailL s (p + 1)).take n, f, n + 1⟩ by rw [HW.out]; exact if_pos rfl)
    have H48' : ∀ W, Hid (Calls Try.prog 48 #[.string T] W fun e w' => e = .returned (.tuple #[.float .f64 f, .bool true]) ∧ Below W.heap.size W w') := fun W => H48 W
    clear H48
    go_enter Try.func27, Try.ntmps27
    go_wp2_with (first | (go_at_call 30; refine (H30 _).out.mono ?_; rintro e w' ⟨rfl, rfl⟩) | (go_at_call 43; refine (HL _).out.mono ?_; rintro e w' ⟨rfl, rfl⟩) | (go_at_call 48; refine (H48' _).out.mono ?_; rintro e w1 ⟨rfl, hb⟩; have hc := (bcell hb).1; have hf := (bcell hb).2))
    go_region
    go_wp2
    refine bodyPost_ret (v := .tuple #[.agg #[.int .i64 3, .int .i64 p, .string T, .float .f64 f], .int .i64 ((p : Int) + 1 + n), .int .i64 0]) (by simp [results, Try.results27, go_sem, bcell4 hb]) rfl (word_good HE.out HT.out (by omega) (below_drew ?_))
    repeat refine Below.setCell ?_ (by simp) _
    exact (below_two w _ _).trans (hb.mono (by simp; omega))
theorem pword_any (s : ByteArray) (hs : s.size ≤ 9223372036854775806) (p : Nat) (hp : p < s.size) (w : World) : Calls Try.prog 27 #[.string s, .int .i64 p] w (WordPost s p w) := by
  by_cases hl : letterB (s[p].toNat : Int) = true
  · exact pword_name s hs p hp hl w
  rw [Bool.not_eq_true] at hl
  by_cases h1 : (s[p].toNat : Int) = 39
  · exact pword_quot s hs p hp hl h1 w
  by_cases h2 : (s[p].toNat : Int) = 37
  · exact pword_wght s hs p hp hl h2 w
  exact pword_sign s hs p hp hl h1 h2 w
end Go.Proofs.Yticdihfjnmjkmaa
