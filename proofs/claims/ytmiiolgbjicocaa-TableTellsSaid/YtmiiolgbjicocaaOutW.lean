/- Find, Rows, Clear of a variable that is none: the walks. -/
import Derived.Test.YtmiiolgbjicocaaTFrame
namespace Go.Proofs.Ytmiiolgbjicocaa
open Go.RowKit
section
variable {w : World} {tb ob oc nv : Nat}
theorem find_out (c1 : w.cell? ⟨tb, 1, none⟩ = some (.slice (some ⟨ob, 0, none⟩) nv oc)) {v : Int} (hv : v < 0 ∨ (nv : Int) ≤ v) (x : Value) : Calls Try.prog 16 #[.pointer (some ⟨tb, 0, none⟩), .int .i64 v, x] w fun e w' => e = .returned (.slice none 0 0) ∧ Grow w w' := by
  have HG : Hid (∀ n, Grow w (w.drewN n)) := Lib.hid (fun n => ⟨rfl, rfl, rfl, Nat.le_refl _, fun _ _ => rfl⟩)
  by_cases h0 : v < 0
  · clear hv
    go_enter Try.func16, Try.ntmps16
    go_wp2_with fail
    go_ret
    exact ⟨rfl, Grow.refl _⟩
  · have h1 : (nv : Int) ≤ v := by omega
    clear hv
    go_enter Try.func16, Try.ntmps16
    go_wp2_with fail
    go_ret
    exact ⟨rfl, Grow.refl _⟩
theorem rows_out (c1 : w.cell? ⟨tb, 1, none⟩ = some (.slice (some ⟨ob, 0, none⟩) nv oc)) {v : Int} (hv : v < 0 ∨ (nv : Int) ≤ v) : Calls Try.prog 13 #[.pointer (some ⟨tb, 0, none⟩), .int .i64 v] w fun e w' => e = .returned (.slice none 0 0) ∧ Grow w w' := by
  by_cases h0 : v < 0
  · clear hv
    go_enter Try.func13, Try.ntmps13
    go_wp2_with fail
    go_ret
    exact ⟨rfl, Grow.refl _⟩
  · have h1 : (nv : Int) ≤ v := by omega
    clear hv
    go_enter Try.func13, Try.ntmps13
    go_wp2_with fail
    go_ret
    exact ⟨rfl, Grow.refl _⟩
theorem clear_out (c1 : w.cell? ⟨tb, 1, none⟩ = some (.slice (some ⟨ob, 0, none⟩) nv oc)) {v : Int} (hv : v < 0 ∨ (nv : Int) ≤ v) : Calls Try.prog 17 #[.pointer (some ⟨tb, 0, none⟩), .int .i64 v] w fun e w' => e = .returned (.bool true) ∧ Grow w w' := by
  have HC := Lib.hid (rows_out c1 hv)
  clear c1 hv
  go_enter Try.func17, Try.ntmps17
  go_wp2_with fail
  refine HC.out.mono ?_
  rintro e w1 ⟨rfl, hg⟩
  have HG := Lib.hid hg
  clear hg
  go_wp2_with fail
  go_loopw [11] (fun i wr => i = .int .i64 0 ∧ Hid (Grow w wr)) (fun i _ => 0)
  case atStart => exact ⟨rfl, HG⟩
  case round =>
    obtain ⟨rfl, hh⟩ := hrel
    go_wp2_with fail
    go_ret
    exact ⟨rfl, hh.out⟩
end
/-- A table's rows, as they lie. -/
theorem tabG_rows {K : Int} {g : GramD} {F Fo : List Wds} {T : List (List TRow)} {tb : Nat} {wr : World} (hT : TabG K g F Fo T tb wr) (hnv : 0 < g.vars.length) : ∃ ob oc, wr.cell? ⟨tb, 1, none⟩ = some (.slice (some ⟨ob, 0, none⟩) g.vars.length oc) := by
  obtain ⟨x, h1, h2, h3⟩ := tabG_at hT hnv
  obtain ⟨ob, oc, _, _, h4, _⟩ := h3
  exact ⟨ob, oc, h4⟩
end Go.Proofs.Ytmiiolgbjicocaa
