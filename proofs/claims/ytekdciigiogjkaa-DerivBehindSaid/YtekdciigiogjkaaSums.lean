/- Weights added up: the program's and the reference's. -/
import Derived.Test.YtekdciigiogjkaaFloatSame
import Derived.Test.YtekdciigiogjkaaAppend
import Derived.Deep.AppendLies
namespace Go.Proofs.Ytekdciigiogjkaa
open Go.RowKit
/-- The weights at an address, in blocks below B. -/
def FloatsAt (w : World) (B : Nat) (a : Option Addr) (fs : List Nat) : Prop :=
  ∀ i (h : i < fs.length), ∃ b off, a = some ⟨b, off, none⟩ ∧ b < B ∧ w.cell? ⟨b, off + i, none⟩ = some (.float .f64 fs[i])
theorem add_all : ∃ R N : Nat → Nat → World → Nat, (∀ x y w, (binOp .add 46 (.float .f64 x) (.float .f64 y)).run Try.prog w = .ok (.float .f64 (R x y w)) (w.drewN (N x y w))) ∧ ∀ x y w, AddTo x y (R x y w) := by
  have h := fun x y w => add_run (P := Try.prog) 46 x y w
  exact ⟨fun x y w => Classical.choose (h x y w), fun x y w => Classical.choose (Classical.choose_spec (h x y w)), fun x y w => (Classical.choose_spec (Classical.choose_spec (h x y w))).1, fun x y w => (Classical.choose_spec (Classical.choose_spec (h x y w))).2⟩
def SumPost (fs : List Nat) (w : World) (e : Ending) (w' : World) : Prop := ∃ r, e = .returned (.float .f64 r) ∧ SumIs fs r ∧ ∃ n, w' = w.drewN n
set_option maxHeartbeats 1000000 in
theorem sum_any {B : Nat} {a : Option Addr} {cap : Nat} {fs : List Nat} {w : World} (h : FloatsAt w B a fs) (hl : fs.length ≤ 1000000) (hc : fs.length ≤ cap) (hc2 : cap ≤ 9223372036854775807) :
    Calls Try.prog 37 #[.slice a fs.length cap] w (SumPost fs w) := by
  obtain ⟨R, N, hR, hA⟩ := add_all
  have HA := Lib.hid hA
  have H := Lib.hid h
  clear h hA
  cases fs with
  | nil =>
    go_enter Try.func37, Try.ntmps37
    go_wp2
    go_ret
    exact ⟨_, rfl, rfl, 0, rfl⟩
  | cons f t =>
    obtain ⟨b, off, rfl, hb, h0⟩ := H.out 0 (by simp)
    simp only [Nat.add_zero, List.getElem_cons_zero] at h0
    have HT : Hid (∀ k (hk : k < t.length) (n : Nat), (w.drewN n).cell? ⟨b, off + 1 + k, none⟩ = some (.float .f64 t[k])) := fun k hk n => by
      obtain ⟨b', off', ha, -, hcc⟩ := H.out (k + 1) (by simpa using hk)
      simp only [Option.some.injEq, Addr.mk.injEq] at ha
      obtain ⟨rfl, rfl, -⟩ := ha
      rw [show off + 1 + k = off + (k + 1) by omega]
      exact hcc
    clear H
    simp only [List.length_cons] at hl hc ⊢
    by_cases hcap : cap = 1
    · subst hcap
      have ht : t = [] := List.eq_nil_of_length_eq_zero (by omega)
      subst ht
      clear HT
      simp only [List.length_nil]
      go_enter Try.func37, Try.ntmps37
      go_wp2
      go_loop [3, 15] (fun acc i => acc = .float .f64 f ∧ i = .int .i64 0) (fun _ _ => 0)
      case atStart => exact ⟨rfl, rfl⟩
      case round =>
        obtain ⟨rfl, rfl⟩ := hrel
        go_wp2
        go_ret
        exact ⟨f, rfl, .nil f, 0, rfl⟩
    · go_enter Try.func37, Try.ntmps37
      go_wp2
      go_loopw [3, 15] (fun acc i wr => ∃ k : Nat, k ≤ t.length ∧ i = .int .i64 k ∧ ∃ x, acc = .float .f64 x ∧ Hid (∀ r, SumTo x (t.drop k) r → SumTo f t r) ∧ ∃ n, wr = w.drewN n) (fun _ i _ => t.length - (intOf i).toNat)
      case atStart => exact ⟨0, by omega, rfl, f, rfl, fun r h => h, 0, rfl⟩
      case round =>
        obtain ⟨k, hk, rfl, x, rfl, hx, n, rfl⟩ := hrel
        by_cases hlt : k < t.length
        · have hki : (k : Int) < t.length := by omega
          have hcc := HT.out k hlt n
          have HD := Lib.hid (List.drop_eq_getElem_cons hlt)
          generalize t[k] = y at *
          go_wp2
          go_roundw
          case rel => exact ⟨k + 1, by omega, by go_num, _, rfl, fun r h => hx.out r (by rw [HD.out]; exact .cons (HA.out _ _ _) h), _, rfl⟩
          case measure => simp [intOf]; omega
        · have hki : ¬ (k : Int) < t.length := by omega
          go_wp2
          go_ret
          exact ⟨x, rfl, hx.out x (by rw [List.drop_of_length_le (by omega)]; exact .nil x), n, rfl⟩
set_option maxHeartbeats 1000000 in
theorem rsum_any {B : Nat} {a : Option Addr} {cap : Nat} {fs : List Nat} {w : World} (h : FloatsAt w B a fs) (hl : fs.length ≤ 1000000) :
    Calls Try.prog 38 #[.slice a fs.length cap] w (SumPost fs w) := by
  obtain ⟨R, N, hR, hA⟩ := add_all
  have HA := Lib.hid hA
  have H := Lib.hid h
  clear h hA
  go_enter Try.func38, Try.ntmps38
  go_wp2
  go_loopw [3, 4] (fun acc i wr => ∃ k : Nat, k ≤ fs.length ∧ i = .int .i64 k ∧ ∃ x, acc = .float .f64 x ∧ Hid ((k = 0 ∧ x = 0) ∨ (0 < k ∧ ∀ r, SumTo x (fs.drop k) r → SumIs fs r)) ∧ ∃ n, wr = w.drewN n) (fun _ i _ => fs.length - (intOf i).toNat)
  case atStart => exact ⟨0, by omega, rfl, 0, rfl, .inl ⟨rfl, rfl⟩, 0, rfl⟩
  case round =>
    obtain ⟨k, hk, rfl, x, rfl, hx, n, rfl⟩ := hrel
    by_cases hlt : k < fs.length
    · have hki : (k : Int) < fs.length := by omega
      obtain ⟨b, off, rfl, hb, hc⟩ := H.out k hlt
      have hcc : (w.drewN n).cell? ⟨b, off + k, none⟩ = some (.float .f64 fs[k]) := hc
      clear hc
      cases k with
      | zero =>
        have h00 : (0 : Int) < fs.length := by omega
        simp only [Nat.add_zero] at hcc
        have HD : Hid (∀ r, SumTo fs[0] (fs.drop (0 + 1)) r → SumIs fs r) := fun r h => by
          cases fs with
          | nil => simp at hlt
          | cons f t => exact h
        generalize fs[0] = y at *
        go_wp2
        go_roundw
        case rel => exact ⟨1, by omega, by go_num, _, rfl, .inr ⟨by omega, HD.out⟩, _, rfl⟩
        case measure => simp [intOf]; omega
      | succ k =>
        have hk1 : (((k + 1 : Nat) : Int) == 0) = false := by simp; omega
        have HD := Lib.hid (List.drop_eq_getElem_cons hlt)
        generalize fs[k + 1] = y at *
        go_wp2
        go_roundw
        case rel =>
          refine ⟨k + 1 + 1, by omega, by go_num, _, rfl, .inr ⟨by omega, fun r h => ?_⟩, _, rfl⟩
          rcases hx.out with ⟨hx, _⟩ | ⟨_, hx⟩
          · omega
          · exact hx r (by rw [HD.out]; exact .cons (HA.out _ _ _) h)
        case measure => simp [intOf]; omega
    · have hki : ¬ (k : Int) < fs.length := by omega
      go_wp2
      go_ret
      refine ⟨x, rfl, ?_, n, rfl⟩
      rcases hx.out with ⟨rfl, rfl⟩ | ⟨_, hx⟩
      · have : fs = [] := List.eq_nil_of_length_eq_zero (by omega)
        subst this; rfl
      · exact hx x (by rw [List.drop_of_length_le (by omega)]; exact .nil x)
end Go.Proofs.Ytekdciigiogjkaa
