/- The weight of a text: the program's Read, at every text. -/
import Derived.Test.YticdihfjnmjkmaaEdgeW
namespace Go.Proofs.Yticdihfjnmjkmaa
open Go.RowKit
def bOf (l : List UInt8) : ByteArray := ⟨l.toArray⟩
theorem bOf_list (l : List UInt8) : (bOf l).data.toList = l := by simp [bOf]
theorem bOf_size (l : List UInt8) : (bOf l).size = l.length := by rw [← size_len, bOf_list]
theorem bOf_self (s : ByteArray) : bOf s.data.toList = s := by simp [bOf]
theorem bOf_append (x y : List UInt8) : bOf x ++ bOf y = bOf (x ++ y) := by
  apply ByteArray.ext
  rw [ByteArray.data_append]
  simp [bOf]
theorem bOf_first (l : List UInt8) : ((bOf l)[0]?.map fun c => c.toNat) = l.head?.map fun c => c.toNat := by
  cases l with
  | nil => rfl
  | cons a r =>
    rw [getElem?_pos (bOf (a :: r)) 0 (by rw [bOf_size]; simp)]
    simp [bOf, ByteArray.getElem_eq_getElem_data]
theorem beq_str {s : ByteArray} {l : List UInt8} (h : ¬ s.data.toList = l) : (s.toList == l) = false := by
  rw [ByteArray.toList_eq, beq_eq_false_iff_ne]
  exact h
theorem trim_len (l : List UInt8) : (Lib.trimPrefix l [45]).length ≤ l.length := by
  unfold Lib.trimPrefix
  split
  · rw [List.length_drop]; omega
  · exact Nat.le_refl _
theorem cut_len : ∀ l : List UInt8, (cutL l).1.length + (cutL l).2.1.length ≤ l.length
  | [] => Nat.le_refl _
  | c :: r => by
    have := cut_len r
    unfold cutL
    split
    · simp
    · simp only [List.length_cons]; omega
theorem digsB_iff {l : List UInt8} {lo hi : Nat} : digsB l lo hi = true ↔ l.all digC = true ∧ lo ≤ l.length ∧ l.length ≤ hi := by
  unfold digsB
  simp only [Bool.and_eq_true, decide_eq_true_eq]
  constructor
  · rintro ⟨h1, h2, h3⟩; exact ⟨h1, by omega, by omega⟩
  · rintro ⟨h1, h2, h3⟩; exact ⟨h1, by omega, by omega⟩
theorem zeros_all : ∀ n : Nat, (Lib.repeatL [48] n).all digC = true
  | 0 => rfl
  | n + 1 => by show ([48] ++ Lib.repeatL [48] n).all digC = true; rw [List.all_append, zeros_all n]; rfl
theorem numA_cons (a : Nat) (c : UInt8) (r : List UInt8) : numA a (c :: r) = numA (10 * a + (c.toNat - 48)) r := by
  conv => lhs; unfold numA
theorem sub48 : (48 : UInt8).toNat - 48 = 0 := by decide
theorem sub49 : (49 : UInt8).toNat - 48 = 1 := by decide
theorem numA_nought (a : Nat) (r : List UInt8) : numA a (48 :: r) = numA (10 * a) r := by
  rw [numA_cons, sub48, Nat.add_zero]
theorem zeros_num : ∀ n a : Nat, numA a (Lib.repeatL [48] n) = a * 10 ^ n
  | 0, a => by rw [Nat.pow_zero, Nat.mul_one]; rfl
  | n + 1, a => by
    have e : Lib.repeatL [48] (n + 1) = 48 :: Lib.repeatL [48] n := rfl
    rw [e, numA_nought, zeros_num n, Nat.pow_succ, Nat.mul_comm 10 a, Nat.mul_assoc, Nat.mul_comm 10]
theorem one_num (n : Nat) : numA 0 (49 :: Lib.repeatL [48] n) = 10 ^ n := by
  rw [numA_cons, sub49, Nat.mul_zero, Nat.zero_add, zeros_num, Nat.one_mul]
theorem cut_none : ∀ l : List UInt8, (cutL l).2.2 = false → (cutL l).2.1 = []
  | [], _ => rfl
  | c :: r, h => by
    unfold cutL at h ⊢
    split at h
    · cases h
    · rename_i hc
      rw [if_neg hc]
      exact cut_none r h
theorem zeros_len (n : Nat) : (Lib.repeatL [48] n).length = n := by rw [Lib.repeatL_length]; simp
theorem edge_any (s : ByteArray) (hs : s.size ≤ 9223372036854775807) (w : World) : Calls Try.prog 48 #[.string s] w (ReadPost s.data.toList w) := by
  by_cases h1 : s.data.toList = [110, 97, 110]
  · have := edge_nan w
    rw [h1]
    rwa [show (⟨#[110, 97, 110]⟩ : ByteArray) = s by rw [← bOf_self s, h1]; rfl] at this
  by_cases h2 : s.data.toList = [105, 110, 102]
  · have := edge_inf w
    rw [h2]
    rwa [show (⟨#[105, 110, 102]⟩ : ByteArray) = s by rw [← bOf_self s, h2]; rfl] at this
  by_cases h3 : s.data.toList = [45, 105, 110, 102]
  · have := edge_minf w
    rw [h3]
    rwa [show (⟨#[45, 105, 110, 102]⟩ : ByteArray) = s by rw [← bOf_self s, h3]; rfl] at this
  have hr : readL s.data.toList = if okP (cutL (Lib.trimPrefix s.data.toList [45])).1 (cutL (Lib.trimPrefix s.data.toList [45])).2.1 (cutL (Lib.trimPrefix s.data.toList [45])).2.2 = true then some (quoS (Lib.hasPrefix s.data.toList [45]) (cutL (Lib.trimPrefix s.data.toList [45])).1 (cutL (Lib.trimPrefix s.data.toList [45])).2.1) else none := by
    unfold readL
    rw [if_neg h1, if_neg h2, if_neg h3]
  have e1 := beq_str h1
  have e2 := beq_str h2
  have e3 := beq_str h3
  have HP : ∀ W, Hid (Calls Try.prog 65 #[.string s, .string ⟨#[45]⟩] W fun e w' => e = .returned (.tuple #[.string (bOf (Lib.trimPrefix s.data.toList [45])), .bool (Lib.hasPrefix s.data.toList [45])]) ∧ w' = W) := fun W => strings_CutPrefix s ⟨#[45]⟩ W
  have hl1 := trim_len s.data.toList
  rw [size_len] at hl1
  generalize Lib.hasPrefix s.data.toList [45] = p at *
  generalize Lib.trimPrefix s.data.toList [45] = r at *
  have HC : ∀ W, Hid (Calls Try.prog 66 #[.string (bOf r), .string ⟨#[46]⟩] W fun e w' => e = .returned (.tuple #[.string (bOf (cutL r).1), .string (bOf (cutL r).2.1), .bool (cutL r).2.2]) ∧ Below W.heap.size W w') := fun W => by
    have := cut_any (bOf r) (by rw [bOf_size]; omega) W
    rw [bOf_list] at this
    exact this
  have hl2 := cut_len r
  have hnone := cut_none r
  generalize (cutL r).1 = H at *
  generalize (cutL r).2.1 = T at *
  generalize (cutL r).2.2 = pt at *
  have HX : ∀ W, Hid (Calls Try.prog 67 #[.string (bOf H), .int .i64 1, .int .i64 9] W fun e w' => e = .returned (.bool (digsB H 1 9)) ∧ W = w') := fun W => by
    have := digits_any (bOf H) (by rw [bOf_size]; omega) 1 9 W
    rw [bOf_list] at this
    exact this
  have HY : ∀ W, Hid (Calls Try.prog 67 #[.string (bOf T), .int .i64 1, .int .i64 6] W fun e w' => e = .returned (.bool (digsB T 1 6)) ∧ W = w') := fun W => by
    have := digits_any (bOf T) (by rw [bOf_size]; omega) 1 6 W
    rw [bOf_list] at this
    exact this
  unfold ReadPost
  rw [hr]
  cases hx : digsB H 1 9
  · rw [if_neg (by unfold okP; rw [hx]; simp)]
    rw [hx] at HX
    exact edge_no1 s e1 e2 e3 w _ _ _ _ _ HP HC HX
  obtain ⟨a1, a2, a3⟩ := digsB_iff (lo := 1) (hi := 9) |>.1 hx
  rw [hx] at HX
  by_cases h0 : 1 < H.length ∧ H.head? = some 48
  · rw [if_neg (by unfold okP; simp [h0.1, h0.2])]
    have hz : 1 < (bOf H).size := by rw [bOf_size]; exact h0.1
    refine edge_no2 s e1 e2 e3 w _ _ _ _ _ HP HC (by rw [bOf_size]; exact a3) hz ?_ HX
    have hf := bOf_first H
    rw [h0.2, getElem?_pos (bOf H) 0 (by omega)] at hf
    simp at hf
    rw [hf]; rfl
  have h0' : ¬ (1 < (bOf H).size ∧ ((bOf H)[0]?.map fun c => c.toNat) = some 48) := by
    rintro ⟨b1, b2⟩
    rw [bOf_size] at b1
    rw [bOf_first] at b2
    refine h0 ⟨b1, ?_⟩
    cases hh : H.head? with
    | none => rw [hh] at b2; cases b2
    | some c =>
      rw [hh] at b2
      simp at b2
      rw [show c = 48 from UInt8.toNat_inj.1 b2]
  have hok : okP H T pt = (!pt || digsB T 1 6) := by
    unfold okP
    rw [hx]
    rw [show (decide (1 < H.length) && H.head? == some 48) = false by
      rw [Bool.eq_false_iff]
      intro h
      rw [Bool.and_eq_true, decide_eq_true_eq, beq_iff_eq] at h
      exact h0 h]
    simp
  rw [hok]
  cases hy : digsB T 1 6
  · rw [hy] at HY
    cases pt
    · have hT := hnone rfl
      subst hT
      rw [if_pos (by rfl)]
      have hq := quoF_run (numA 0 (H ++ [])) 0 (by omega)
      refine edge_yes s e1 e2 e3 w _ _ _ _ _ HP HC (by rw [bOf_size]; exact a3) (by rw [bOf_size]; simp) h0' HX (fun h => by cases h) (floatOfInt .f64 (numA 0 (H ++ []) : Nat)) (floatOfInt .f64 ((10 ^ 0 : Nat) : Int)) (quoF (numA 0 (H ++ [])) (10 ^ 0)) (setS (quoF (numA 0 (H ++ [])) (10 ^ 0))) (bOf []) (by rw [bOf_size]; simp) ?_ ?_ ?_ (fun W => run_float_arith W .quo 34 .f64 _ _ _ hq) (fun W => copysign_any _ W)
      · intro W
        have := whole_any (bOf (H ++ [])) (by rw [bOf_size]; simp; omega) (by rw [bOf_list]; simpa using a1) W
        rw [bOf_list] at this
        rw [bOf_append]
        exact this
      · intro W
        exact (strings_Repeat ⟨#[48]⟩ 0 W (by omega) (by simp)).mono fun _ _ h => h
      · intro W
        have := whole_any (bOf [49]) (by rw [bOf_size]; simp) (by rw [bOf_list]; rfl) W
        rw [bOf_list] at this
        exact this
    · rw [if_neg (by decide)]
      exact edge_no3 s e1 e2 e3 w _ _ _ _ _ HP HC (by rw [bOf_size]; exact a3) h0' HX rfl HY
  · obtain ⟨b1, b2, b3⟩ := digsB_iff (lo := 1) (hi := 6) |>.1 hy
    rw [hy] at HY
    rw [if_pos (by simp)]
    have hq := quoF_run (numA 0 (H ++ T)) T.length b3
    refine edge_yes s e1 e2 e3 w _ _ _ _ _ HP HC (by rw [bOf_size]; exact a3) (by rw [bOf_size]; exact b3) h0' HX (fun _ => HY) (floatOfInt .f64 (numA 0 (H ++ T) : Nat)) (floatOfInt .f64 ((10 ^ T.length : Nat) : Int)) (quoF (numA 0 (H ++ T)) (10 ^ T.length)) (setS (quoF (numA 0 (H ++ T)) (10 ^ T.length))) (bOf (Lib.repeatL [48] T.length)) (by rw [bOf_size, zeros_len]; exact b3) ?_ ?_ ?_ (fun W => run_float_arith W .quo 34 .f64 _ _ _ hq) (fun W => copysign_any _ W)
    · intro W
      have := whole_any (bOf (H ++ T)) (by rw [bOf_size]; simp; omega) (by rw [bOf_list, List.all_append, a1, b1]; rfl) W
      rw [bOf_list] at this
      rw [bOf_append]
      exact this
    · intro W
      rw [bOf_size]
      exact (strings_Repeat ⟨#[48]⟩ T.length W (by omega) (by show 1 * T.length ≤ _; omega)).mono fun _ _ h => h
    · intro W
      have := whole_any (bOf (49 :: Lib.repeatL [48] T.length)) (by rw [bOf_size, List.length_cons, zeros_len]; omega) (by rw [bOf_list, List.all_cons, zeros_all]; rfl) W
      rw [bOf_list, one_num] at this
      rw [show (⟨#[49]⟩ : ByteArray) = bOf [49] from rfl, bOf_append]
      exact this
end Go.Proofs.Yticdihfjnmjkmaa
