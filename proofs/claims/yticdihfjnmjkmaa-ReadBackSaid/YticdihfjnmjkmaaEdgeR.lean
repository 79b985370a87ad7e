/- The weight of a text: the program's Read. -/
import Derived.Test.YticdihfjnmjkmaaEdge
namespace Go.Proofs.Yticdihfjnmjkmaa
open Go.RowKit
def okP (h t : List UInt8) (pt : Bool) : Bool := digsB h 1 9 && !(decide (1 < h.length) && h.head? == some 48) && (!pt || digsB t 1 6)
/-- The sign set. -/
def setS (f : Nat) : Nat := (bits .or .u64 (bits .andNot .u64 (f : Int) 9223372036854775808) (bits .and .u64 13830554455654793216 9223372036854775808)).toNat
def quoS (b : Bool) (h t : List UInt8) : Nat := if b = true then setS (quoF (numA 0 (h ++ t)) (10 ^ t.length)) else quoF (numA 0 (h ++ t)) (10 ^ t.length)
/-- The weight of a text; none: it is none. -/
def readL (l : List UInt8) : Option Nat :=
  if l = [110, 97, 110] then some 9221120237041090561 else
  if l = [105, 110, 102] then some 9218868437227405312 else
  if l = [45, 105, 110, 102] then some 18442240474082181120 else
  if okP (cutL (Lib.trimPrefix l [45])).1 (cutL (Lib.trimPrefix l [45])).2.1 (cutL (Lib.trimPrefix l [45])).2.2 = true then some (quoS (Lib.hasPrefix l [45]) (cutL (Lib.trimPrefix l [45])).1 (cutL (Lib.trimPrefix l [45])).2.1) else none
theorem bits_run (f : Nat) (w : World) : (callFunc 54 #[.float .f64 f]).run Try.prog w = .ok (.value (.int .u64 f)) w := by
  rw [run_callFunc_extern (e := Extern.MathFloatBits.float64bits) Try.func54 (by kernel_rfl) (by kernel_rfl) (by kernel_rfl) (by kernel_rfl)]
  rfl
theorem from_run (n : Int) (w : World) : (callFunc 60 #[.int .u64 n]).run Try.prog w = .ok (.value (.float .f64 n.toNat)) w := by
  rw [run_callFunc_extern (e := Extern.MathFloatBits.float64frombits) Try.func60 (by kernel_rfl) (by kernel_rfl) (by kernel_rfl) (by kernel_rfl)]
  rfl
theorem mnan_any (w : World) : Calls Try.prog 63 #[] w fun e w' => e = .returned (.float .f64 9221120237041090561) ∧ w = w' := by
  have hb := from_run
  go_enter Try.func63, Try.ntmps63
  go_wp2
  go_ret
  exact ⟨rfl, rfl⟩
theorem minf_any (w : World) : Calls Try.prog 64 #[.int .i64 1] w fun e w' => e = .returned (.float .f64 9218868437227405312) ∧ w = w' := by
  have hb := from_run
  go_enter Try.func64, Try.ntmps64
  go_wp2
  go_ret
  exact ⟨rfl, rfl⟩
theorem mminf_any (w : World) : Calls Try.prog 64 #[.int .i64 (-1)] w fun e w' => e = .returned (.float .f64 18442240474082181120) ∧ w = w' := by
  have hb := from_run
  go_enter Try.func64, Try.ntmps64
  go_wp2
  go_ret
  exact ⟨rfl, rfl⟩
theorem copysign_any (f : Nat) (w : World) : Calls Try.prog 70 #[.float .f64 f, .float .f64 13830554455654793216] w fun e w' => e = .returned (.float .f64 (setS f)) ∧ w = w' := by
  have hb := bits_run
  have hf := from_run
  go_enter Try.func70, Try.ntmps70
  go_wp2
  go_ret
  exact ⟨rfl, rfl⟩
def ReadPost (l : List UInt8) (w : World) (e : Ending) (w' : World) : Prop := e = .returned (.tuple #[.float .f64 ((readL l).getD 0), .bool (readL l).isSome]) ∧ Below w.heap.size w w'
theorem edge_nan (w : World) : Calls Try.prog 48 #[.string ⟨#[110, 97, 110]⟩] w (ReadPost [110, 97, 110] w) := by
  go_enter Try.func48, Try.ntmps48
  go_wp2_with (first | (go_at_call 63; refine (mnan_any _).mono ?_; rintro e w' ⟨rfl, rfl⟩))
  go_ret2
  exact ⟨rfl, Below.refl _ _⟩
theorem edge_inf (w : World) : Calls Try.prog 48 #[.string ⟨#[105, 110, 102]⟩] w (ReadPost [105, 110, 102] w) := by
  go_enter Try.func48, Try.ntmps48
  go_wp2_with (first | (go_at_call 64; refine (minf_any _).mono ?_; rintro e w' ⟨rfl, rfl⟩))
  go_ret2
  exact ⟨rfl, Below.refl _ _⟩
theorem edge_minf (w : World) : Calls Try.prog 48 #[.string ⟨#[45, 105, 110, 102]⟩] w (ReadPost [45, 105, 110, 102] w) := by
  go_enter Try.func48, Try.ntmps48
  go_wp2_with (first | (go_at_call 64; refine (mminf_any _).mono ?_; rintro e w' ⟨rfl, rfl⟩))
  go_ret2
  exact ⟨rfl, Below.refl _ _⟩
end Go.Proofs.Yticdihfjnmjkmaa
