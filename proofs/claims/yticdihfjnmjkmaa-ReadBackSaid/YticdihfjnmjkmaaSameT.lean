/- Two lists of words: the law's look at them. -/
import Derived.Test.YticdihfjnmjkmaaLexF
import Derived.Test.YticdihfjnmjkmaaSame
namespace Go.Proofs.Yticdihfjnmjkmaa
open Go.RowKit
attribute [local go_sem] run_store_float
set_option maxRecDepth 100000 in
set_option maxHeartbeats 1000000 in
theorem same_any {w : World} {a b : Option Addr} {ca cb : Nat} {ts : List Tok} (ha : ToksAt w w.heap.size a ts) (hb : ToksAt w w.heap.size b ts) (hl : ts.length ≤ 100000) :
    Calls Try.prog 13 #[.slice a ts.length ca, .slice b ts.length cb] w fun e w' => e = .returned (.bool true) ∧ Below w.heap.size w w' := by
  have HA := Lib.hid ha
  have HB := Lib.hid hb
  clear ha hb
  go_enter Try.func13, Try.ntmps13
  go_wp2
  go_loopw [15] (fun i wr => ∃ (k : Nat), k ≤ ts.length ∧ i = .int .i64 k ∧ Hid (Below w.heap.size w wr)) (fun i _ => ts.length - (intOf i).toNat)
  case atStart => exact ⟨0, by omega, rfl, Below.refl _ _⟩
  case round =>
    obtain ⟨k, hk, rfl, hf⟩ := hrel
    by_cases hlt : k < ts.length
    · obtain ⟨b1, o1, rfl, hb1, c10, c11, c12, c13⟩ := HA.out.cells hf.out hlt
      obtain ⟨b2, o2, rfl, hb2, c20, c21, c22, c23⟩ := HB.out.cells hf.out hlt
      have hsz := hf.out.size
      generalize ts[k] = tk at *
      obtain ⟨kd, ps, tx, wt⟩ := tk
      have hw1 : b1 < wr.heap.size := by omega
      have hw2 : b2 < wr.heap.size := by omega
      clear HA HB
      simp only at *
      have HS := fun W => Lib.hid (fsame_val wt wt W)
      rw [sameF_self] at HS
      generalize bOf tx = T at *
      go_wp2_with (first | (go_at_call 18; refine (HS _).out.mono ?_; rintro e w' ⟨rfl, rfl⟩))
      go_roundw
      case rel => exact ⟨k + 1, by omega, by go_num, (hf.out.alloc hsz _).alloc (by simp only [World.size_alloc]; omega) _⟩
      case measure => simp [intOf]; omega
    · go_wp2
      go_ret
      exact ⟨rfl, hf.out⟩
end Go.Proofs.Yticdihfjnmjkmaa
