/- The weight of a text: the program's Read. -/
import Derived.Test.YticdihfjnmjkmaaNum
import Derived.Test.YticdihfjnmjkmaaShelf
import Derived.Laws.Externs
namespace Go.Proofs.Yticdihfjnmjkmaa
open Go.RowKit
/-- A text, cut at its first point. -/
def cutL : List UInt8 → List UInt8 × List UInt8 × Bool
  | [] => ([], [], false)
  | c :: r => if c = 46 then ([], r, true) else (c :: (cutL r).1, (cutL r).2.1, (cutL r).2.2)
theorem cutL_index : ∀ l : List UInt8, (Lib.indexByte l 46 = -1 ∧ cutL l = (l, [], false)) ∨ (∃ i : Nat, i < l.length ∧ Lib.indexByte l 46 = i ∧ cutL l = (l.take i, l.drop (i + 1), true))
  | [] => .inl ⟨rfl, rfl⟩
  | c :: r => by
    by_cases h : c = 46
    · subst h
      exact .inr ⟨0, by simp, rfl, rfl⟩
    · rcases cutL_index r with ⟨h1, h2⟩ | ⟨i, hi, h1, h2⟩
      · exact .inl ⟨by simp [Lib.indexByte, h, h1], by simp [cutL, h, h2]⟩
      · refine .inr ⟨i + 1, Nat.succ_lt_succ hi, ?_, by simp [cutL, h, h2]⟩
        have : ((i : Int) == -1) = false := by simp
        simp [Lib.indexByte, h, h1]
        try omega
theorem below_drewN {B : Nat} {a w : World} (h : Below B a w) (n : Nat) : Below B a (w.drewN n) := ⟨h.os, h.tape, h.output, h.size, h.block⟩
theorem strs2 {x y x' y' : ByteArray} {b : Bool} (h : x = x') (h' : y = y') : Ending.returned (.tuple #[.string x, .string y, .bool b]) = .returned (.tuple #[.string x', .string y', .bool b]) := by rw [h, h']
theorem ext_take (s : ByteArray) (i : Nat) : s.extract 0 i = ⟨(s.data.toList.take i).toArray⟩ := by
  apply ByteArray.ext
  rw [ByteArray.data_extract]
  apply Array.ext'
  simp [Array.toList_extract]
theorem ext_drop (s : ByteArray) (i : Nat) : s.extract i s.size = ⟨(s.data.toList.drop i).toArray⟩ := by
  apply ByteArray.ext
  rw [ByteArray.data_extract]
  apply Array.ext'
  rw [Array.toList_extract, ← size_len s]
  exact List.take_of_length_le (by rw [List.length_drop]; exact Nat.le_refl _)
theorem scut_any (s : ByteArray) (hs : s.size ≤ 9223372036854775807) (w : World) : Calls Try.prog 76 #[.string s, .string ⟨#[46]⟩] w fun e w' => e = .returned (.tuple #[.string ⟨(cutL s.data.toList).1.toArray⟩, .string ⟨(cutL s.data.toList).2.1.toArray⟩, .bool (cutL s.data.toList).2.2]) ∧ Below w.heap.size w w' := by
  have HI := fun W => Lib.hid (stringslite_Index_one s 46 W)
  rcases cutL_index s.data.toList with ⟨h1, h2⟩ | ⟨i, hi, h1, h2⟩
  · rw [h1] at HI
    rw [h2]
    go_enter Try.func76, Try.ntmps76
    go_wp2_with (first | (go_at_call 85; refine (HI _).out.mono ?_; rintro e w' ⟨rfl, rfl⟩))
    go_ret3
    exact ⟨rfl, Below.refl _ _⟩
  · rw [h1] at HI
    rw [h2]
    have hi2 : i < s.size := by rw [size_len] at hi; exact hi
    have H1 := Lib.hid h1
    have H2 := Lib.hid h2
    clear h1 h2 hi
    go_enter Try.func76, Try.ntmps76
    go_wp2_with (first | (go_at_call 85; refine (HI _).out.mono ?_; rintro e w' ⟨rfl, rfl⟩))
    go_quiet (fail)
    all_goals go_wp2
    go_ret3
    refine ⟨strs2 (b := true) ?_ ?_, below_drewN (Below.refl _ _) _⟩
    · exact ext_take s i
    · exact ext_drop s (i + 1)
theorem cut_any (s : ByteArray) (hs : s.size ≤ 9223372036854775807) (w : World) : Calls Try.prog 66 #[.string s, .string ⟨#[46]⟩] w fun e w' => e = .returned (.tuple #[.string ⟨(cutL s.data.toList).1.toArray⟩, .string ⟨(cutL s.data.toList).2.1.toArray⟩, .bool (cutL s.data.toList).2.2]) ∧ Below w.heap.size w w' := by
  have HI := Lib.hid (scut_any s hs w)
  go_enter Try.func66, Try.ntmps66
  go_wp2_with (first | (go_at_call 76; refine HI.out.mono ?_; rintro e w' ⟨rfl, hb⟩))
  go_ret3
  exact ⟨rfl, hb⟩
/-- The bits of a quotient. -/
def quoF (a b : Nat) : Nat := (floatBits .quo .f64 (floatOfInt .f64 (a : Int)) (floatOfInt .f64 (b : Int))).getD 0
theorem nearest_num (f : Ieee.Format) (m : Nat) (p : Int) : (f.read (f.nearest false m p)).isNaN = false := by
  have hr : ∃ r, f.nearest false m p = r ∧ r ≤ f.infRung := by
    unfold Ieee.Format.nearest
    split
    · exact ⟨0, rfl, Nat.zero_le _⟩
    · exact ⟨_, rfl, Nat.min_le_right _ _⟩
  obtain ⟨r, h1, h2⟩ := hr
  have h3 := f.infRung_lt
  rw [h1]
  unfold Ieee.Format.read
  rw [Nat.mod_eq_of_lt (show r < f.signWeight by omega)]
  show Ieee.Datum.isNaN (if r < f.binade then _ else if r < f.infRung then _ else if r = f.infRung then _ else _) = false
  split
  · rfl
  · split
    · rfl
    · split
      · rfl
      · omega
theorem quo_num {x y : Ieee.Datum} (d : Nat) (hx : x.isNaN = false) (hy : ∃ s m p, y = .number s m p ∧ m ≠ 0) : (x.quotient d y).isSome = true := by
  obtain ⟨s, m, p, rfl, hm⟩ := hy
  cases x with
  | number t k e => simp [Ieee.Datum.quotient, hm]
  | infinity t => rfl
  | nan t k => cases hx
def isNumD : Ieee.Datum → Bool
  | .number _ m _ => !(m == 0)
  | _ => false
theorem isNumD_of {x : Ieee.Datum} (h : isNumD x = true) : ∃ s m p, x = .number s m p ∧ m ≠ 0 := by
  cases x with
  | number s m p => exact ⟨s, m, p, rfl, by simpa [isNumD] using h⟩
  | infinity s => cases h
  | nan s k => cases h
theorem pow_num : ∀ k : Nat, k ≤ 6 → isNumD (Ieee.double.read (floatOfInt .f64 ((10 ^ k : Nat) : Int))) = true
  | 0, _ => by kernel_rfl
  | 1, _ => by kernel_rfl
  | 2, _ => by kernel_rfl
  | 3, _ => by kernel_rfl
  | 4, _ => by kernel_rfl
  | 5, _ => by kernel_rfl
  | 6, _ => by kernel_rfl
theorem quoF_run (a k : Nat) (hk : k ≤ 6) : floatBits .quo .f64 (floatOfInt .f64 (a : Int)) (floatOfInt .f64 ((10 ^ k : Nat) : Int)) = some (quoF a (10 ^ k)) := by
  have h : (floatBits .quo .f64 (floatOfInt .f64 (a : Int)) (floatOfInt .f64 ((10 ^ k : Nat) : Int))).isSome = true := by
    show (((Ieee.double.read _).quotient 54 (Ieee.double.read _)).map _).isSome = true
    rw [Option.isSome_map]
    refine quo_num 54 ?_ (isNumD_of (pow_num k hk))
    have e : floatOfInt .f64 (a : Int) = Ieee.double.nearest false a 0 := by
      show Ieee.double.nearest (decide ((a : Int) < 0)) (a : Int).natAbs 0 = _
      rw [show decide ((a : Int) < 0) = false by simp, Int.natAbs_natCast]
    rw [e]
    exact nearest_num _ _ _
  unfold quoF
  obtain ⟨r, hr⟩ := Option.isSome_iff_exists.1 h
  rw [hr]
  rfl
end Go.Proofs.Yticdihfjnmjkmaa
