/- The plain words of a text: blanks and remarks, runs of bytes, words. No program in sight. -/
import Derived.Test.YticdihfjnmjkmaaGuard
namespace Go.Proofs.Yticdihfjnmjkmaa
open Go.RowKit
/-- How many bytes are wanted, from the first one on. -/
def runL (p : Int → Bool) : List UInt8 → Nat
  | [] => 0
  | c :: r => if p (c.toNat : Int) = true then runL p r + 1 else 0
def blankB (c : Int) : Bool := decide (c = 32) || decide (c = 9) || decide (c = 13) || decide (c = 10)
def lineB (c : Int) : Bool := decide (c ≠ 10)
def weightB (c : Int) : Bool := digitB c || letterB c || decide (c = 46) || decide (c = 45)
def signB (c : Int) : Bool := decide (c = 61) || decide (c = 59) || decide (c = 124) || decide (c = 40) || decide (c = 41) || decide (c = 63) || decide (c = 42) || decide (c = 43)
/-- How many bytes are blanks and remarks (true: within a remark). -/
def skipL : Bool → List UInt8 → Nat
  | _, [] => 0
  | true, c :: r => skipL (lineB (c.toNat : Int)) r + 1
  | false, c :: r => if blankB (c.toNat : Int) = true then skipL false r + 1 else if (c.toNat : Int) = 35 then skipL true r + 1 else 0
theorem runL_le (p : Int → Bool) : ∀ l : List UInt8, runL p l ≤ l.length
  | [] => Nat.le_refl _
  | c :: r => by
    unfold runL
    have := runL_le p r
    split
    · simp only [List.length_cons]; omega
    · omega
theorem skipL_le : ∀ (b : Bool) (l : List UInt8), skipL b l ≤ l.length
  | b, [] => by unfold skipL; exact Nat.le_refl _
  | true, c :: r => by
    unfold skipL
    have := skipL_le (lineB (c.toNat : Int)) r
    simp only [List.length_cons]; omega
  | false, c :: r => by
    unfold skipL
    have h1 := skipL_le false r
    have h2 := skipL_le true r
    split
    · simp only [List.length_cons]; omega
    · split
      · simp only [List.length_cons]; omega
      · omega
/-- A remark goes to the line's end. -/
theorem skipL_line : ∀ l : List UInt8, skipL true l = runL lineB l + skipL false (l.drop (runL lineB l))
  | [] => rfl
  | c :: r => by
    unfold runL
    cases h : lineB (c.toNat : Int)
    · have e : (c.toNat : Int) = 10 := by simpa [lineB] using h
      simp only [Bool.false_eq_true, if_false, List.drop_zero, Nat.zero_add]
      conv => lhs; unfold skipL
      conv => rhs; unfold skipL
      rw [h, if_pos (by rw [e]; rfl)]
    · simp only [if_true, List.drop_succ_cons]
      conv => lhs; unfold skipL
      rw [h, skipL_line r]
      omega
/-- The bytes of a text from a place on. -/
def tailL (s : ByteArray) (p : Nat) : List UInt8 := s.data.toList.drop p
theorem tailL_cons {s : ByteArray} {p : Nat} (h : p < s.size) : tailL s p = s[p] :: tailL s (p + 1) := by
  unfold tailL
  rw [List.drop_eq_getElem_cons (by simpa using h)]
  rfl
theorem tailL_end {s : ByteArray} {p : Nat} (h : s.size ≤ p) : tailL s p = [] := by
  unfold tailL
  exact List.drop_eq_nil_of_le (by simpa using h)
theorem tailL_len (s : ByteArray) (p : Nat) : (tailL s p).length = s.size - p := by
  unfold tailL
  simp
theorem tailL_drop (s : ByteArray) (p n : Nat) : (tailL s p).drop n = tailL s (p + n) := by
  unfold tailL
  rw [List.drop_drop]
def runA (f : Int → Bool) (s : ByteArray) (p : Nat) : Nat := runL f (tailL s p)
def skipA (b : Bool) (s : ByteArray) (p : Nat) : Nat := skipL b (tailL s p)
theorem runA_yes {f : Int → Bool} {s : ByteArray} {p : Nat} (h : p < s.size) (hf : f (s[p].toNat : Int) = true) : runA f s p = runA f s (p + 1) + 1 := by
  unfold runA
  rw [tailL_cons h, runL, if_pos hf]
theorem runA_no {f : Int → Bool} {s : ByteArray} {p : Nat} (h : p < s.size) (hf : f (s[p].toNat : Int) = false) : runA f s p = 0 := by
  unfold runA
  rw [tailL_cons h, runL, if_neg (by rw [hf]; decide)]
theorem runA_end {f : Int → Bool} {s : ByteArray} {p : Nat} (h : s.size ≤ p) : runA f s p = 0 := by
  unfold runA
  rw [tailL_end h]
  rfl
theorem runA_le (f : Int → Bool) (s : ByteArray) (p : Nat) : runA f s p ≤ s.size - p := by
  unfold runA
  rw [← tailL_len]
  exact runL_le _ _
theorem skipA_le (b : Bool) (s : ByteArray) (p : Nat) : skipA b s p ≤ s.size - p := by
  unfold skipA
  rw [← tailL_len]
  exact skipL_le _ _
theorem skipA_end {b : Bool} {s : ByteArray} {p : Nat} (h : s.size ≤ p) : skipA b s p = 0 := by
  unfold skipA
  rw [tailL_end h]
  cases b <;> rfl
theorem skipA_blank {s : ByteArray} {p : Nat} (h : p < s.size) (hf : blankB (s[p].toNat : Int) = true) : skipA false s p = skipA false s (p + 1) + 1 := by
  unfold skipA
  rw [tailL_cons h, skipL, if_pos hf]
theorem skipA_hash {s : ByteArray} {p : Nat} (h : p < s.size) (hf : (s[p].toNat : Int) = 35) : skipA false s p = skipA true s (p + 1) + 1 := by
  unfold skipA
  rw [tailL_cons h, skipL, if_neg (by rw [hf]; decide), if_pos hf]
theorem skipA_word {s : ByteArray} {p : Nat} (h : p < s.size) (hf : blankB (s[p].toNat : Int) = false) (hh : (s[p].toNat : Int) ≠ 35) : skipA false s p = 0 := by
  unfold skipA
  rw [tailL_cons h, skipL, if_neg (by rw [hf]; decide), if_neg hh]
theorem skipA_in {s : ByteArray} {p : Nat} (h : p < s.size) : skipA true s p = skipA (lineB (s[p].toNat : Int)) s (p + 1) + 1 := by
  unfold skipA
  rw [tailL_cons h, skipL]
theorem skipA_line (s : ByteArray) (p : Nat) : skipA true s p = runA lineB s p + skipA false s (p + runA lineB s p) := by
  unfold skipA runA
  rw [skipL_line, tailL_drop]
/-- At a remark: the run to the line's end, and on. -/
theorem skipA_remark {s : ByteArray} {p : Nat} (h : p < s.size) (hf : (s[p].toNat : Int) = 35) : skipA false s p = runA lineB s p + skipA false s (p + runA lineB s p) := by
  rw [skipA_hash h hf, skipA_line s (p + 1), runA_yes h (by rw [hf]; rfl)]
  rw [show p + (runA lineB s (p + 1) + 1) = p + 1 + runA lineB s (p + 1) by omega]
  omega
/-- A piece of a text. -/
def cutS (s : ByteArray) (a n : Nat) : ByteArray := ⟨((tailL s a).take n).toArray⟩
theorem extract_cutS (s : ByteArray) (a b : Nat) : s.extract a b = cutS s a (b - a) := by
  apply ByteArray.ext
  unfold cutS tailL
  rw [ByteArray.data_extract]
  apply Array.ext'
  simp [Array.toList_extract]
end Go.Proofs.Yticdihfjnmjkmaa
