/- The weight of a text: the program's Read, at a text that is no word of its own. -/
import Derived.Test.YticdihfjnmjkmaaEdgeR
namespace Go.Proofs.Yticdihfjnmjkmaa
open Go.RowKit
section
variable (s : ByteArray) (h1 : (s.toList == [110, 97, 110]) = false) (h2 : (s.toList == [105, 110, 102]) = false) (h3 : (s.toList == [45, 105, 110, 102]) = false) (w : World) (R H T : ByteArray) (pt p : Bool)
    (HP : ∀ W, Hid (Calls Try.prog 65 #[.string s, .string ⟨#[45]⟩] W fun e w' => e = .returned (.tuple #[.string R, .bool p]) ∧ w' = W))
    (HC : ∀ W, Hid (Calls Try.prog 66 #[.string R, .string ⟨#[46]⟩] W fun e w' => e = .returned (.tuple #[.string H, .string T, .bool pt]) ∧ Below W.heap.size W w'))
include h1 h2 h3 HP HC
/-- The head is no number. -/
theorem edge_no1 (HX : ∀ W, Hid (Calls Try.prog 67 #[.string H, .int .i64 1, .int .i64 9] W fun e w' => e = .returned (.bool false) ∧ W = w')) :
    Calls Try.prog 48 #[.string s] w fun e w' => e = .returned (.tuple #[.float .f64 0, .bool false]) ∧ Below w.heap.size w w' := by
  go_enter Try.func48, Try.ntmps48
  go_wp2_with (first | (go_at_call 65; refine (HP _).out.mono ?_; rintro e w' ⟨rfl, rfl⟩) | (go_at_call 66; refine (HC _).out.mono ?_; rintro e w1 ⟨rfl, hb⟩) | (go_at_call 67; refine (HX _).out.mono ?_; rintro e w' ⟨rfl, rfl⟩))
  go_ret2
  exact ⟨rfl, hb⟩
/-- The head begins with nought. -/
theorem edge_no2 (hz : H.size ≤ 9) (hl : 1 < H.size) (h0 : ((H[0].toNat : Int) == 48) = true) (HX : ∀ W, Hid (Calls Try.prog 67 #[.string H, .int .i64 1, .int .i64 9] W fun e w' => e = .returned (.bool true) ∧ W = w')) :
    Calls Try.prog 48 #[.string s] w fun e w' => e = .returned (.tuple #[.float .f64 0, .bool false]) ∧ Below w.heap.size w w' := by
  go_enter Try.func48, Try.ntmps48
  go_wp2_with (first | (go_at_call 65; refine (HP _).out.mono ?_; rintro e w' ⟨rfl, rfl⟩) | (go_at_call 66; refine (HC _).out.mono ?_; rintro e w1 ⟨rfl, hb⟩) | (go_at_call 67; refine (HX _).out.mono ?_; rintro e w' ⟨rfl, rfl⟩))
  go_ret2
  exact ⟨rfl, hb⟩
/-- The tail is no number. -/
theorem edge_no3 (hz : H.size ≤ 9) (hl : ¬ (1 < H.size ∧ (H[0]?.map fun c => c.toNat) = some 48)) (HX : ∀ W, Hid (Calls Try.prog 67 #[.string H, .int .i64 1, .int .i64 9] W fun e w' => e = .returned (.bool true) ∧ W = w'))
    (hp : pt = true) (HY : ∀ W, Hid (Calls Try.prog 67 #[.string T, .int .i64 1, .int .i64 6] W fun e w' => e = .returned (.bool false) ∧ W = w')) :
    Calls Try.prog 48 #[.string s] w fun e w' => e = .returned (.tuple #[.float .f64 0, .bool false]) ∧ Below w.heap.size w w' := by
  subst hp
  by_cases h : 1 < H.size
  · have h0 : ((H[0].toNat : Int) == 48) = false := by
      rw [getElem?_pos H 0 (by omega)] at hl
      simp at hl
      simp
      have := hl h
      omega
    clear hl
    go_enter Try.func48, Try.ntmps48
    go_wp2_with (first | (go_at_call 65; refine (HP _).out.mono ?_; rintro e w' ⟨rfl, rfl⟩) | (go_at_call 66; refine (HC _).out.mono ?_; rintro e w1 ⟨rfl, hb⟩) | (go_at_call 67; with_reducible refine Calls.mono (HX _).out ?_; rintro e w' ⟨rfl, rfl⟩) | (go_at_call 67; with_reducible refine Calls.mono (HY _).out ?_; rintro e w' ⟨rfl, rfl⟩))
    go_ret2
    exact ⟨rfl, hb⟩
  · clear hl
    go_enter Try.func48, Try.ntmps48
    go_wp2_with (first | (go_at_call 65; refine (HP _).out.mono ?_; rintro e w' ⟨rfl, rfl⟩) | (go_at_call 66; refine (HC _).out.mono ?_; rintro e w1 ⟨rfl, hb⟩) | (go_at_call 67; with_reducible refine Calls.mono (HX _).out ?_; rintro e w' ⟨rfl, rfl⟩) | (go_at_call 67; with_reducible refine Calls.mono (HY _).out ?_; rintro e w' ⟨rfl, rfl⟩))
    go_ret2
    exact ⟨rfl, hb⟩
/-- A number. -/
theorem edge_yes (hz : H.size ≤ 9) (ht : T.size ≤ 6) (hl : ¬ (1 < H.size ∧ (H[0]?.map fun c => c.toNat) = some 48)) (HX : ∀ W, Hid (Calls Try.prog 67 #[.string H, .int .i64 1, .int .i64 9] W fun e w' => e = .returned (.bool true) ∧ W = w'))
    (HY : pt = true → ∀ W, Hid (Calls Try.prog 67 #[.string T, .int .i64 1, .int .i64 6] W fun e w' => e = .returned (.bool true) ∧ W = w'))
    (F G q q2 : Nat) (Z : ByteArray) (hzs : Z.size ≤ 6) (HF : ∀ W, Hid (Calls Try.prog 68 #[.string (H ++ T)] W fun e w' => e = .returned (.float .f64 F) ∧ W = w'))
    (HZ : ∀ W, Hid (Calls Try.prog 69 #[.string ⟨#[48]⟩, .int .i64 T.size] W fun e w' => e = .returned (.string Z) ∧ Below W.heap.size W w'))
    (HG : ∀ W, Hid (Calls Try.prog 68 #[.string (⟨#[49]⟩ ++ Z)] W fun e w' => e = .returned (.float .f64 G) ∧ W = w'))
    (hq : ∀ W, (binOp .quo 34 (.float .f64 F) (.float .f64 G)).run Try.prog W = .ok (.float .f64 q) W)
    (HK : ∀ W, Hid (Calls Try.prog 70 #[.float .f64 q, .float .f64 13830554455654793216] W fun e w' => e = .returned (.float .f64 q2) ∧ W = w')) :
    Calls Try.prog 48 #[.string s] w fun e w' => e = .returned (.tuple #[.float .f64 (if p = true then q2 else q), .bool true]) ∧ Below w.heap.size w w' := by
  by_cases h : 1 < H.size
  · have h0 : ((H[0].toNat : Int) == 48) = false := by
      rw [getElem?_pos H 0 (by omega)] at hl
      simp at hl
      simp
      have := hl h
      omega
    clear hl
    cases pt
    · clear HY
      cases p
      all_goals
        go_enter Try.func48, Try.ntmps48
        go_wp2_with (first | (go_at_call 65; refine (HP _).out.mono ?_; rintro e w' ⟨rfl, rfl⟩) | (go_at_call 66; refine (HC _).out.mono ?_; rintro e w1 ⟨rfl, hb⟩) | (go_at_call 67; with_reducible refine Calls.mono (HX _).out ?_; rintro e w' ⟨rfl, rfl⟩) | (go_at_call 68; with_reducible refine Calls.mono (HF _).out ?_; rintro e w' ⟨rfl, rfl⟩) | (go_at_call 69; refine (HZ _).out.mono ?_; rintro e w2 ⟨rfl, hb2⟩) | (go_at_call 68; with_reducible refine Calls.mono (HG _).out ?_; rintro e w' ⟨rfl, rfl⟩) | (go_at_call 70; refine (HK _).out.mono ?_; rintro e w' ⟨rfl, rfl⟩))
        go_ret2
        exact ⟨rfl, hb.trans (hb2.mono hb.size)⟩
    · have HY' := HY rfl
      clear HY
      cases p
      all_goals
        go_enter Try.func48, Try.ntmps48
        go_wp2_with (first | (go_at_call 65; refine (HP _).out.mono ?_; rintro e w' ⟨rfl, rfl⟩) | (go_at_call 66; refine (HC _).out.mono ?_; rintro e w1 ⟨rfl, hb⟩) | (go_at_call 67; with_reducible refine Calls.mono (HX _).out ?_; rintro e w' ⟨rfl, rfl⟩) | (go_at_call 67; with_reducible refine Calls.mono (HY' _).out ?_; rintro e w' ⟨rfl, rfl⟩) | (go_at_call 68; with_reducible refine Calls.mono (HF _).out ?_; rintro e w' ⟨rfl, rfl⟩) | (go_at_call 69; refine (HZ _).out.mono ?_; rintro e w2 ⟨rfl, hb2⟩) | (go_at_call 68; with_reducible refine Calls.mono (HG _).out ?_; rintro e w' ⟨rfl, rfl⟩) | (go_at_call 70; refine (HK _).out.mono ?_; rintro e w' ⟨rfl, rfl⟩))
        go_ret2
        exact ⟨rfl, hb.trans (hb2.mono hb.size)⟩
  · clear hl
    cases pt
    · clear HY
      cases p
      all_goals
        go_enter Try.func48, Try.ntmps48
        go_wp2_with (first | (go_at_call 65; refine (HP _).out.mono ?_; rintro e w' ⟨rfl, rfl⟩) | (go_at_call 66; refine (HC _).out.mono ?_; rintro e w1 ⟨rfl, hb⟩) | (go_at_call 67; with_reducible refine Calls.mono (HX _).out ?_; rintro e w' ⟨rfl, rfl⟩) | (go_at_call 68; with_reducible refine Calls.mono (HF _).out ?_; rintro e w' ⟨rfl, rfl⟩) | (go_at_call 69; refine (HZ _).out.mono ?_; rintro e w2 ⟨rfl, hb2⟩) | (go_at_call 68; with_reducible refine Calls.mono (HG _).out ?_; rintro e w' ⟨rfl, rfl⟩) | (go_at_call 70; refine (HK _).out.mono ?_; rintro e w' ⟨rfl, rfl⟩))
        go_ret2
        exact ⟨rfl, hb.trans (hb2.mono hb.size)⟩
    · have HY' := HY rfl
      clear HY
      cases p
      all_goals
        go_enter Try.func48, Try.ntmps48
        go_wp2_with (first | (go_at_call 65; refine (HP _).out.mono ?_; rintro e w' ⟨rfl, rfl⟩) | (go_at_call 66; refine (HC _).out.mono ?_; rintro e w1 ⟨rfl, hb⟩) | (go_at_call 67; with_reducible refine Calls.mono (HX _).out ?_; rintro e w' ⟨rfl, rfl⟩) | (go_at_call 67; with_reducible refine Calls.mono (HY' _).out ?_; rintro e w' ⟨rfl, rfl⟩) | (go_at_call 68; with_reducible refine Calls.mono (HF _).out ?_; rintro e w' ⟨rfl, rfl⟩) | (go_at_call 69; refine (HZ _).out.mono ?_; rintro e w2 ⟨rfl, hb2⟩) | (go_at_call 68; with_reducible refine Calls.mono (HG _).out ?_; rintro e w' ⟨rfl, rfl⟩) | (go_at_call 70; refine (HK _).out.mono ?_; rintro e w' ⟨rfl, rfl⟩))
        go_ret2
        exact ⟨rfl, hb.trans (hb2.mono hb.size)⟩
end
end Go.Proofs.Yticdihfjnmjkmaa
