/- The reference's looks at weights answer. -/
import Derived.Test.YtmiiolgbjicocaaProg
import Derived.Test.YtmiiolgbjicocaaLib
import Derived.Laws.Externs
import Derived.Laws.FloatArith
namespace Go.Proofs.Ytmiiolgbjicocaa
open Go.RowKit
theorem bits_run (f : Nat) (w : World) : (callFunc 99 #[.float .f64 f]).run Try.prog w = .ok (.value (.int .u64 f)) w := by
  rw [run_callFunc_extern (e := Extern.MathFloatBits.float64bits) Try.func99 (by kernel_rfl) (by kernel_rfl) (by kernel_rfl) (by kernel_rfl)]
  rfl
theorem from_run (n : Int) (w : World) : (callFunc 97 #[.int .u64 n]).run Try.prog w = .ok (.value (.float .f64 n.toNat)) w := by
  rw [run_callFunc_extern (e := Extern.MathFloatBits.float64frombits) Try.func97 (by kernel_rfl) (by kernel_rfl) (by kernel_rfl) (by kernel_rfl)]
  rfl
theorem nan_any (f : Nat) (w : World) : Calls Try.prog 88 #[.float .f64 f] w (SomeBool w) := by
  have hb := bits_run
  go_enter Try.func88, Try.ntmps88
  go_wp2
  all_goals go_ret
  all_goals exact ⟨_, rfl, rfl⟩
theorem below_any (f : Nat) (w : World) : Calls Try.prog 103 #[.float .f64 f] w (SomeBool w) := by
  have hb := bits_run
  go_enter Try.func103, Try.ntmps103
  go_wp2
  all_goals go_ret
  all_goals exact ⟨_, rfl, rfl⟩
theorem fless_any (f g : Nat) (w : World) : Calls Try.prog 100 #[.float .f64 f, .float .f64 g] w (SomeBool w) := by
  have hb := bits_run
  go_enter Try.func100, Try.ntmps100
  go_wp2_with (first | (go_at_call 88; refine (nan_any _ _).mono ?_; rintro e w' ⟨x, rfl, rfl⟩; cases x) | (go_at_call 103; refine (below_any _ _).mono ?_; rintro e w' ⟨x, rfl, rfl⟩; cases x))
  all_goals go_ret
  all_goals exact ⟨_, rfl, rfl⟩
theorem fsame_any (f g : Nat) (w : World) : Calls Try.prog 89 #[.float .f64 f, .float .f64 g] w (SomeBool w) := by
  go_enter Try.func89, Try.ntmps89
  go_wp2_with (first | (go_at_call 100; refine (fless_any _ _ _).mono ?_; rintro e w' ⟨x, rfl, rfl⟩; cases x))
  all_goals go_ret
  all_goals exact ⟨_, rfl, rfl⟩
theorem read_inf (w : World) : Calls Try.prog 87 #[.string ⟨#[105, 110, 102]⟩] w fun e w' => (∃ f : Nat, e = .returned (.tuple #[.float .f64 f, .bool true])) ∧ w = w' := by
  have hb := from_run
  go_enter Try.func87, Try.ntmps87
  go_wp2
  go_ret2
  exact ⟨⟨_, rfl⟩, rfl⟩
theorem read_minf (w : World) : Calls Try.prog 87 #[.string ⟨#[45, 105, 110, 102]⟩] w fun e w' => (∃ f : Nat, e = .returned (.tuple #[.float .f64 f, .bool true])) ∧ w = w' := by
  have hb := from_run
  go_enter Try.func87, Try.ntmps87
  go_wp2
  go_ret2
  exact ⟨⟨_, rfl⟩, rfl⟩
theorem arith_any {P : Program} (op : BinOp) (hop : op = .add ∨ op = .mul ∨ op = .quo) (t : TypeId) (x y : Nat) (w : World) :
    ∃ r n, (binOp op t (.float .f64 x) (.float .f64 y)).run P w = .ok (.float .f64 r) (w.drewN n) := by
  cases h : floatBits op .f64 x y with
  | some r => exact ⟨r, 0, run_float_arith w op t .f64 x y r h⟩
  | none =>
    rcases hop with rfl | rfl | rfl
    all_goals
      simp only [floatBits] at h
      refine ⟨(Question.nanBits .f64 x y).cut (w.tape w.drawn (.nanBits .f64 x y)), 1, ?_⟩
      simp [binOp, Op.floatArith, h, Question.forced]
      rfl
theorem toInt_any {P : Program} (src dst : TypeId) (b : Nat) (hs : (P.underlying src).isSome = true) (hd : P.underlying dst = some (.int .i64)) (w : World) :
    ∃ r n, (convert src dst (.float .f64 b)).run P w = .ok (.int .i64 r) (w.drewN n) := by
  cases h : floatToIntVal .f64 b .i64 with
  | some r => exact ⟨r, 0, run_convert_float_int w src dst .f64 .i64 b r hs hd h⟩
  | none =>
    obtain ⟨u, hs'⟩ := Option.isSome_iff_exists.1 hs
    refine ⟨IntKind.i64.wrap ((Question.floatToInt .f64 b .i64).cut (w.tape w.drawn (.floatToInt .f64 b .i64)) : Nat), 1, ?_⟩
    unfold floatToIntVal at h
    split at h
    · rename_i m he
      split at h
      · cases h
      · rename_i hb
        cases u <;> (simp [convert, run_underlying hs', run_underlying hd, Conv.floatToInt, he, Question.forced]; rw [if_neg (by simpa using hb)]; rfl)
    · rename_i he
      cases u <;> (simp [convert, run_underlying hs', run_underlying hd, Conv.floatToInt, he, Question.forced]; rfl)
/-- All weights at once: what an operation gives, and how much it draws. -/
theorem arith_all (op : BinOp) (hop : op = .add ∨ op = .mul ∨ op = .quo) (t : TypeId) :
    ∃ R N : Nat → Nat → World → Nat, ∀ x y w, (binOp op t (.float .f64 x) (.float .f64 y)).run Try.prog w = .ok (.float .f64 (R x y w)) (w.drewN (N x y w)) := by
  have h := fun x y w => arith_any (P := Try.prog) op hop t x y w
  exact ⟨fun x y w => Classical.choose (h x y w), fun x y w => Classical.choose (Classical.choose_spec (h x y w)), fun x y w => Classical.choose_spec (Classical.choose_spec (h x y w))⟩
theorem toInt_all : ∃ (R : Nat → World → Int) (N : Nat → World → Nat), ∀ x w, (convert 62 2 (.float .f64 x)).run Try.prog w = .ok (.int .i64 (R x w)) (w.drewN (N x w)) := by
  have h := fun x w => toInt_any (P := Try.prog) 62 2 x (by kernel_rfl) Try.underlying2 w
  exact ⟨fun x w => Classical.choose (h x w), fun x w => Classical.choose (Classical.choose_spec (h x w)), fun x w => Classical.choose_spec (Classical.choose_spec (h x w))⟩
theorem neg_run (x : Nat) (w : World) : (Op.unary .neg (.float .f64 x)).run Try.prog w = .ok (.float .f64 (Op.negFloat .f64 x)) w := rfl
def SomeBoolN (w : World) (e : Ending) (w' : World) : Prop := ∃ b : Bool, e = .returned (.bool b) ∧ ∃ n, w' = w.drewN n
theorem drewN_zero (w : World) : w.drewN 0 = w := rfl
set_option maxHeartbeats 1000000 in
theorem told_up (f : Nat) (h0 : (FloatKind.f64.format.order f 0 == some .lt) = false) (w : World) : Calls Try.prog 76 #[.float .f64 f] w (SomeBoolN w) := by
  obtain ⟨p, np, hp⟩ := arith_any (P := Try.prog) .mul (by simp) 62 f 4696837146684686336 w
  obtain ⟨q, nq, hq⟩ := arith_any (P := Try.prog) .add (by simp) 62 p 4602678819172646912 (w.drewN np)
  rw [World.drewN_drewN] at hq
  obtain ⟨c, nc, hc⟩ := toInt_any (P := Try.prog) 62 2 q (by kernel_rfl) Try.underlying2 (w.drewN (np + nq))
  rw [World.drewN_drewN] at hc
  obtain ⟨RQ, NQ, hQ⟩ := arith_all .quo (by simp) 62
  cases h1 : (FloatKind.f64.format.order f 4741671816366391296 == some .lt)
  all_goals
    go_enter Try.func76, Try.ntmps76
    go_wp2_with fail
    refine (read_inf _).mono ?_
    rintro e w' ⟨⟨i, rfl⟩, rfl⟩
    go_wp2_with fail
    refine (read_minf _).mono ?_
    rintro e w' ⟨⟨j, rfl⟩, rfl⟩
    go_wp2_with (first | (go_at_call 88; refine (nan_any _ _).mono ?_; rintro e w' ⟨x, rfl, rfl⟩; cases x) | (go_at_call 89; refine (fsame_any _ _ _).mono ?_; rintro e w' ⟨x, rfl, rfl⟩; cases x))
    all_goals try (go_ret; exact ⟨_, rfl, 0, rfl⟩)
  go_loopw [9] (fun i wr => ∃ k : Int, -2 ≤ k ∧ k ≤ 3 ∧ i = .int .i64 k ∧ ∃ n, wr = w.drewN n) (fun i _ => (3 - intOf i).toNat)
  case atStart => exact ⟨-2, by omega, by omega, rfl, _, rfl⟩
  case round =>
    obtain ⟨k, hk1, hk2, rfl, n, rfl⟩ := hrel
    clear hp hq hc h0 h1
    by_cases hk : k ≤ 2
    · go_wp2
      all_goals first
        | (go_roundw
           case rel => exact ⟨k + 1, by omega, by omega, by go_num, _, rfl⟩
           case measure => simp [intOf]; omega)
        | (go_ret; exact ⟨_, rfl, _, rfl⟩)
    · go_wp2
      go_ret
      exact ⟨_, rfl, _, rfl⟩
set_option maxHeartbeats 1000000 in
theorem told_down (f g : Nat) (hg : ∀ w : World, (Op.unary .neg (.float .f64 f)).run Try.prog w = .ok (.float .f64 g) w) (h0 : (FloatKind.f64.format.order f 0 == some .lt) = true) (w : World) : Calls Try.prog 76 #[.float .f64 f] w (SomeBoolN w) := by
  obtain ⟨p, np, hp⟩ := arith_any (P := Try.prog) .mul (by simp) 62 g 4696837146684686336 w
  obtain ⟨q, nq, hq⟩ := arith_any (P := Try.prog) .add (by simp) 62 p 4602678819172646912 (w.drewN np)
  rw [World.drewN_drewN] at hq
  obtain ⟨c, nc, hc⟩ := toInt_any (P := Try.prog) 62 2 q (by kernel_rfl) Try.underlying2 (w.drewN (np + nq))
  rw [World.drewN_drewN] at hc
  obtain ⟨RQ, NQ, hQ⟩ := arith_all .quo (by simp) 62
  cases h1 : (FloatKind.f64.format.order g 4741671816366391296 == some .lt)
  all_goals
    go_enter Try.func76, Try.ntmps76
    go_wp2_with fail
    refine (read_inf _).mono ?_
    rintro e w' ⟨⟨i, rfl⟩, rfl⟩
    go_wp2_with fail
    refine (read_minf _).mono ?_
    rintro e w' ⟨⟨j, rfl⟩, rfl⟩
    go_wp2_with (first | (go_at_call 88; refine (nan_any _ _).mono ?_; rintro e w' ⟨x, rfl, rfl⟩; cases x) | (go_at_call 89; refine (fsame_any _ _ _).mono ?_; rintro e w' ⟨x, rfl, rfl⟩; cases x))
    all_goals try (go_ret; exact ⟨_, rfl, 0, rfl⟩)
  go_loopw [9] (fun i wr => ∃ k : Int, -2 ≤ k ∧ k ≤ 3 ∧ i = .int .i64 k ∧ ∃ n, wr = w.drewN n) (fun i _ => (3 - intOf i).toNat)
  case atStart => exact ⟨-2, by omega, by omega, rfl, _, rfl⟩
  case round =>
    obtain ⟨k, hk1, hk2, rfl, n, rfl⟩ := hrel
    clear hp hq hc h0 h1 hg
    by_cases hk : k ≤ 2
    · go_wp2
      all_goals first
        | (go_roundw
           case rel => exact ⟨k + 1, by omega, by omega, by go_num, _, rfl⟩
           case measure => simp [intOf]; omega)
        | (go_ret; exact ⟨_, rfl, _, rfl⟩)
    · go_wp2
      go_ret
      exact ⟨_, rfl, _, rfl⟩
theorem told_any (f : Nat) (w : World) : Calls Try.prog 76 #[.float .f64 f] w (SomeBoolN w) := by
  cases h0 : (FloatKind.f64.format.order f 0 == some .lt)
  · exact told_up f h0 w
  · exact told_down f _ (neg_run f) h0 w
end Go.Proofs.Ytmiiolgbjicocaa
