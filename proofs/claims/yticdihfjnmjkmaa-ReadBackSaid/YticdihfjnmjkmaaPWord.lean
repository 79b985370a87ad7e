/- The word at a place: the program's. -/
import Derived.Test.YticdihfjnmjkmaaWordS
namespace Go.Proofs.Yticdihfjnmjkmaa
open Go.RowKit
attribute [local go_sem] run_store_float
theorem below_two (w : World) (o1 o2 : Obj) : Below w.heap.size w ((w.alloc o1).alloc o2) := ((Below.refl _ _).alloc (Nat.le_refl _) _).alloc (by simp) _
set_option maxRecDepth 100000 in
theorem pquot_any (s : ByteArray) (hs : s.size ≤ 9223372036854775806) (p : Nat) (hp : p < s.size) (hl : letterB (s[p].toNat : Int) = false) (hq : (s[p].toNat : Int) = 39) (w : World) : Calls Try.prog 46 #[.string s, .int .i64 p] w (WordPost s p w) := by
  have HW := Lib.hid (wordA_quot hp hl hq)
  have HL := fun W => Lib.hid (run3_any s (by omega) (p + 1) (by omega) W)
  have HRL := runA_le quotableB s (p + 1)
  generalize runA quotableB s (p + 1) = n at *
  clear hl hq
  by_cases h1 : p + 1 + n = s.size
  · have HE := Lib.hid (show wordA s p = badW 3 by rw [HW.out, if_pos (.inl h1)])
    have h1' : ((p : Int) + 1 + n == s.size) = true := by simp; omega
    clear h1
    go_enter Try.func46, Try.ntmps46
    go_wp2_with (first | (go_at_call 43; refine (HL _).out.mono ?_; rintro e w' ⟨rfl, rfl⟩))
    exact bodyPost_ret (v := .tuple #[.agg #[.int .i64 2, .int .i64 p, .string ⟨#[]⟩, .float .f64 0], .int .i64 p, .int .i64 3]) (by simp [results, Try.results46, go_sem]) rfl (word_bad HE.out (by decide) (below_two _ _ _))
  have h1' : ((p : Int) + 1 + n == s.size) = false := by simp; omega
  have hlt : p + 1 + n < s.size := by omega
  by_cases h2 : (s[p + 1 + n].toNat : Int) = 39
  · have h2' : ((s[p + 1 + n].toNat : Int) != 39) = false := by simpa using h2
    by_cases h3 : n = 0
    · have HE := Lib.hid (show wordA s p = badW 3 by rw [HW.out, if_pos (.inr (.inr h3))])
      have h3' : ((p : Int) + 1 + n == (p : Int) + 1) = true := by simp; omega
      clear h1 h2 h3
      go_enter Try.func46, Try.ntmps46
      go_wp2_with (first | (go_at_call 43; refine (HL _).out.mono ?_; rintro e w' ⟨rfl, rfl⟩))
      exact bodyPost_ret (v := .tuple #[.agg #[.int .i64 2, .int .i64 p, .string ⟨#[]⟩, .float .f64 0], .int .i64 p, .int .i64 3]) (by simp [results, Try.results46, go_sem]) rfl (word_bad HE.out (by decide) (below_two _ _ _))
    have h3' : ((p : Int) + 1 + n == (p : Int) + 1) = false := by simp; omega
    have hor : ¬ (p + 1 + n = s.size ∨ (s[p + 1 + n]?.map fun c => (c.toNat : Int)) ≠ some 39 ∨ n = 0) := by
      rw [getElem?_pos s _ hlt]
      rintro (h | h | h)
      · exact h1 h
      · exact h (by simpa using h2)
      · exact h3 h
    by_cases h4 : 16 < (n : Int)
    · have HE := Lib.hid (show wordA s p = badW 1 by rw [HW.out, if_neg hor, if_pos (by omega)])
      clear h1 h2 h3 hor
      go_enter Try.func46, Try.ntmps46
      go_wp2_with (first | (go_at_call 43; refine (HL _).out.mono ?_; rintro e w' ⟨rfl, rfl⟩))
      exact bodyPost_ret (v := .tuple #[.agg #[.int .i64 2, .int .i64 p, .string ⟨#[]⟩, .float .f64 0], .int .i64 p, .int .i64 1]) (by simp [results, Try.results46, go_sem]) rfl (word_bad HE.out (by decide) (below_two _ _ _))
    · have HE := Lib.hid (show wordA s p = ⟨0, 2, (tailL s (p + 1)).take n, 0, n + 2⟩ by rw [HW.out, if_neg hor, if_neg (by omega)])
      clear h1 h2 h3 hor
      have hsl : ∀ W, (Instr.slice 9 (.string s) (some (.int .i64 ((p : Int) + 1))) (some (.int .i64 ((p : Int) + 1 + n))) none).run Try.prog W = .ok (.string (bOf ((tailL s (p + 1)).take n))) W := fun W => by
        rw [slice_str W s _ _ (by omega) (by omega) (by omega), ← ext_bOf]
        rfl
      obtain ⟨T, hT⟩ : ∃ T, T = bOf ((tailL s (p + 1)).take n) := ⟨_, rfl⟩
      rw [← hT] at hsl
      have HT := Lib.hid hT
      clear hT
      go_enter Try.func46, Try.ntmps46
      go_wp2_with (first | (go_at_call 43; refine (HL _).out.mono ?_; rintro e w' ⟨rfl, rfl⟩))
      exact bodyPost_ret (v := .tuple #[.agg #[.int .i64 2, .int .i64 p, .string T, .float .f64 0], .int .i64 ((p : Int) + 1 + n + 1), .int .i64 0]) (by simp [results, Try.results46, go_sem]) rfl (word_good HE.out HT.out (by omega) (below_two _ _ _))
  · have HE := Lib.hid (show wordA s p = badW 3 by rw [HW.out, if_pos (.inr (.inl (by rw [getElem?_pos s _ hlt]; simpa using h2)))])
    have h2' : ((s[p + 1 + n].toNat : Int) != 39) = true := by simpa using h2
    clear h1 h2
    go_enter Try.func46, Try.ntmps46
    go_wp2_with (first | (go_at_call 43; refine (HL _).out.mono ?_; rintro e w' ⟨rfl, rfl⟩))
    exact bodyPost_ret (v := .tuple #[.agg #[.int .i64 2, .int .i64 p, .string ⟨#[]⟩, .float .f64 0], .int .i64 p, .int .i64 3]) (by simp [results, Try.results46, go_sem]) rfl (word_bad HE.out (by decide) (below_two _ _ _))
end Go.Proofs.Yticdihfjnmjkmaa
