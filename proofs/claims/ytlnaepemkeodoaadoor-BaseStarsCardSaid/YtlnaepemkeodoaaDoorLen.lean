/- How many a base holds. -/
import Derived.Test.YtlnaepemkeodoaaDoorAdd
import Derived.BigQuiet
import Derived.WalkSmall
namespace Go.Proofs.YtlnaepemkeodoaaDoor
open Go.RowKit
theorem len_any {base bb : Nat} {m h : List (List UInt8)} {mv hv : Value} {w : World} (hB : BaseAt w base bb m h mv hv) (hml : m.length + h.length ≤ 1000) :
    Calls Tryd.prog 8 #[.pointer (some ⟨bb, 0, none⟩)] w fun e w' => e = .returned (.int .i64 (m.length + h.length : Nat)) ∧ Below w.heap.size w w' := by
  obtain ⟨ma, mc, rfl, _⟩ := hB.mr.shape
  obtain ⟨ha, hc, rfl, _⟩ := hB.hr.shape
  obtain ⟨c0, c1, f0, f1⟩ := cells_two hB.blk
  have hbb := lt_of_block hB.blk
  rw [strV_len] at c0 c1
  clear hB
  have hw : IntKind.i64.wrap ((m.length : Int) + (h.length : Int)) = ((m.length + h.length : Nat) : Int) := by rw [IntKind.wrap_i64]; omega
  generalize m.length + h.length = t at *
  go_enter Tryd.func8, Tryd.ntmps8
  go_wp2
  go_quiet (fail)
  go_wp2
  go_ret
  exact ⟨rfl, below_drewN (Below.refl _ _) _⟩
end Go.Proofs.YtlnaepemkeodoaaDoor
