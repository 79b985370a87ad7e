/- When two weights are the same, exactly. -/
import Derived.Test.YtekdciigiogjkaaFloats
namespace Go.Proofs.Ytekdciigiogjkaa
open Go.RowKit
def nanB (f : Nat) : Bool := (bits .and .u64 ((f : Int) / 4503599627370496) 2047 == 2047) && (IntKind.u64.wrap ((f : Int) * 4096) != 0)
def belowB (f : Nat) : Bool := ((f : Int) / 9223372036854775808 == 1)
def lessF (f g : Nat) : Bool := if nanB f || nanB g then !nanB f && nanB g else if belowB f != belowB g then belowB f else if belowB f then decide (g < f) else decide (f < g)
theorem nan_val (f : Nat) (w : World) : Calls Try.prog 44 #[.float .f64 f] w fun e w' => e = .returned (.bool (nanB f)) ∧ w = w' := by
  have hb := bits_run
  by_cases h : bits .and .u64 ((f : Int) / 4503599627370496) 2047 = 2047
  · have HN := Lib.hid (show nanB f = (IntKind.u64.wrap ((f : Int) * 4096) != 0) by unfold nanB; rw [h]; rfl)
    go_enter Try.func44, Try.ntmps44
    go_wp2
    go_ret
    exact ⟨by rw [HN.out]; rfl, rfl⟩
  · have HN := Lib.hid (show nanB f = false by unfold nanB; simp [h])
    go_enter Try.func44, Try.ntmps44
    go_wp2
    go_ret
    exact ⟨by rw [HN.out]; rfl, rfl⟩
theorem below_val (f : Nat) (w : World) : Calls Try.prog 45 #[.float .f64 f] w fun e w' => e = .returned (.bool (belowB f)) ∧ w = w' := by
  have hb := bits_run
  unfold belowB
  go_enter Try.func45, Try.ntmps45
  go_wp2
  go_ret
  exact ⟨rfl, rfl⟩
set_option maxHeartbeats 4000000 in
theorem fless_val (f g : Nat) (w : World) : Calls Try.prog 36 #[.float .f64 f, .float .f64 g] w fun e w' => e = .returned (.bool (lessF f g)) ∧ w = w' := by
  have hb := bits_run
  have HL := Lib.hid (show lessF f g = if nanB f || nanB g then !nanB f && nanB g else if belowB f != belowB g then belowB f else if belowB f then decide (g < f) else decide (f < g) from rfl)
  have HN := fun f W => Lib.hid (nan_val f W)
  have HB := fun f W => Lib.hid (below_val f W)
  generalize lessF f g = L at *
  cases h1 : nanB f <;> cases h2 : nanB g <;> cases h3 : belowB f <;> cases h4 : belowB g
  all_goals
    simp only [h1, h2, h3, h4] at HL
    go_enter Try.func36, Try.ntmps36
    go_wp2_with (first | (go_at_call 44; refine (HN _ _).out.mono ?_; rintro e w' ⟨rfl, rfl⟩) | (go_at_call 45; refine (HB _ _).out.mono ?_; rintro e w' ⟨rfl, rfl⟩))
    go_ret
    exact ⟨by rw [HL.out]; rfl, rfl⟩
def sameF (f g : Nat) : Bool := !lessF f g && !lessF g f
set_option maxHeartbeats 4000000 in
theorem fsame_val (f g : Nat) (w : World) : Calls Try.prog 21 #[.float .f64 f, .float .f64 g] w fun e w' => e = .returned (.bool (sameF f g)) ∧ w = w' := by
  have HL := Lib.hid (show sameF f g = (!lessF f g && !lessF g f) from rfl)
  have H := fun f g W => Lib.hid (fless_val f g W)
  generalize sameF f g = L at *
  cases h1 : lessF f g <;> cases h2 : lessF g f
  all_goals
    simp only [h1, h2] at HL
    go_enter Try.func21, Try.ntmps21
    go_wp2_with (first | (go_at_call 36; refine (H _ _ _).out.mono ?_; rintro e w' ⟨rfl, rfl⟩))
    go_ret
    exact ⟨by rw [HL.out]; rfl, rfl⟩
/-- The bits of a NaN. -/
def NanW (f : Nat) : Prop := (f / 4503599627370496 = 2047 ∨ f / 4503599627370496 = 4095) ∧ f % 4503599627370496 ≠ 0
theorem nanB_of {f : Nat} (h : NanW f) : nanB f = true := by
  obtain ⟨h1, h2⟩ := h
  unfold nanB
  have e2 : (IntKind.u64.wrap ((f : Int) * 4096) != 0) = true := by
    simp [IntKind.wrap, IntKind.bits]
    omega
  rw [e2]
  rcases h1 with h1 | h1
  · have : (f : Int) / 4503599627370496 = 2047 := by omega
    rw [this]; rfl
  · have : (f : Int) / 4503599627370496 = 4095 := by omega
    rw [this]; rfl
theorem sameF_self (f : Nat) : sameF f f = true := by
  unfold sameF lessF
  cases nanB f <;> cases belowB f <;> simp
theorem sameF_nan {f g : Nat} (hf : NanW f) (hg : NanW g) : sameF f g = true := by
  unfold sameF lessF
  rw [nanB_of hf, nanB_of hg]
  rfl
theorem nanW_cut (t : Nat) : NanW ((t % 2) * 2 ^ 63 + 0x7ff0000000000000 + 1 + (t / 2) % (2 ^ 52 - 1)) := by
  unfold NanW
  omega
theorem read_nan {f : Nat} (h : NanW f) : ∃ s t, Ieee.double.read f = .nan s t := by
  obtain ⟨h1, h2⟩ := h
  unfold Ieee.Format.read
  have e1 : Ieee.double.signWeight = 9223372036854775808 := rfl
  have e2 : Ieee.double.binade = 4503599627370496 := rfl
  have e3 : Ieee.double.infRung = 9218868437227405312 := rfl
  simp only [e1, e2, e3]
  rw [if_neg (by omega), if_neg (by omega), if_neg (by omega)]
  exact ⟨_, _, rfl⟩
/-- The sum of two floats, as the machine may answer it. -/
def AddTo (x y r : Nat) : Prop := floatBits .add .f64 x y = some r ∨ (floatBits .add .f64 x y = none ∧ NanW r)
theorem add_nan {x : Nat} (y : Nat) (h : NanW x) : floatBits .add .f64 x y = none := by
  obtain ⟨s, t, e⟩ := read_nan h
  show ((Ieee.double.read x).sum (Ieee.double.read y)).map _ = none
  rw [e]
  rfl
def Alike (a b : Nat) : Prop := a = b ∨ (NanW a ∧ NanW b)
theorem AddTo.alike {a b x r s : Nat} (h : Alike a b) (h1 : AddTo a x r) (h2 : AddTo b x s) : Alike r s := by
  rcases h with rfl | ⟨ha, hb⟩
  · rcases h1 with h1 | ⟨h1, n1⟩ <;> rcases h2 with h2 | ⟨h2, n2⟩
    · left; rw [h1] at h2; injection h2
    · rw [h1] at h2; cases h2
    · rw [h1] at h2; cases h2
    · exact .inr ⟨n1, n2⟩
  · right
    rcases h1 with h1 | ⟨h1, n1⟩
    · rw [add_nan _ ha] at h1; cases h1
    rcases h2 with h2 | ⟨h2, n2⟩
    · rw [add_nan _ hb] at h2; cases h2
    exact ⟨n1, n2⟩
inductive SumTo : Nat → List Nat → Nat → Prop
  | nil (a : Nat) : SumTo a [] a
  | cons {a x b r : Nat} {xs : List Nat} (h : AddTo a x b) (t : SumTo b xs r) : SumTo a (x :: xs) r
theorem SumTo.alike : ∀ (xs : List Nat) {a b r s : Nat}, Alike a b → SumTo a xs r → SumTo b xs s → Alike r s
  | [], _, _, _, _, h, .nil _, .nil _ => h
  | _ :: xs, _, _, _, _, h, .cons h1 t1, .cons h2 t2 => SumTo.alike xs (AddTo.alike h h1 h2) t1 t2
def SumIs (fs : List Nat) (r : Nat) : Prop := match fs with | [] => r = 0 | f :: t => SumTo f t r
theorem SumIs.same {fs : List Nat} {r s : Nat} (h1 : SumIs fs r) (h2 : SumIs fs s) : sameF r s = true := by
  have h : Alike r s := by
    cases fs with
    | nil => exact .inl (h1.trans h2.symm)
    | cons f t => exact SumTo.alike t (.inl rfl) h1 h2
  rcases h with rfl | ⟨ha, hb⟩
  · exact sameF_self _
  · exact sameF_nan ha hb
theorem add_run {P : Program} (t : TypeId) (x y : Nat) (w : World) : ∃ r n, (binOp .add t (.float .f64 x) (.float .f64 y)).run P w = .ok (.float .f64 r) (w.drewN n) ∧ AddTo x y r := by
  cases h : floatBits .add .f64 x y with
  | some r => exact ⟨r, 0, run_float_arith w .add t .f64 x y r h, .inl h⟩
  | none =>
    have h0 := h
    simp only [floatBits] at h
    refine ⟨(Question.nanBits .f64 x y).cut (w.tape w.drawn (.nanBits .f64 x y)), 1, ?_, .inr ⟨h0, nanW_cut _⟩⟩
    simp [binOp, Op.floatArith, h, Question.forced]
    rfl
end Go.Proofs.Ytekdciigiogjkaa
