/- Is a grammar right, small, and all of use? The law's own look answers. -/
import Derived.Test.YtmiiolgbjicocaaKept
namespace Go.Proofs.Ytmiiolgbjicocaa
open Go.RowKit
attribute [local go_sem] run_store_float
/-- A grammar that is right and small. -/
def WholeOk (g : GramD) : Prop := GramOk g ∧ Small g
theorem WholeOk.use {g : GramD} (h : WholeOk g) : GoodU g := by
  obtain ⟨⟨h1, h2⟩, ⟨h3, h4⟩, h5, h6⟩ := h
  refine ⟨by omega, h1, by omega, fun i hi => ?_⟩
  obtain ⟨a, b, c, d⟩ := h2 i hi
  refine ⟨a, fun s hs => ?_, by have := h6 i hi; omega⟩
  obtain ⟨j, hj, rfl⟩ := List.mem_iff_getElem.1 hs
  exact (b j hj).1
def WholePost (g : GramD) (w : World) (e : Ending) (w' : World) : Prop := (e = .returned (.int .i64 0) ∨ e = .returned (.int .i64 1) ∧ WholeOk g) ∧ Below w.heap.size w w'
set_option maxRecDepth 100000 in
set_option maxHeartbeats 1000000 in
theorem whole_any {w : World} {B : Nat} {g : GramD} (hg : GramAt w B g) (hB : B ≤ w.heap.size) : Calls Try.prog 8 #[GV g] w (WholePost g w) := by
  have HS := Lib.hid (boxed_start hg hB)
  have HF := Lib.hid (fun (wr : World) (h : GramAt wr B g) (hb : B ≤ wr.heap.size) => few_any h hb)
  have HR := Lib.hid (fun (wr : World) (h : GramAt wr B g) (hb : B ≤ wr.heap.size) => right_any h hb)
  have HK := Lib.hid (fun (wr : World) (h : GramAt wr B g) (hb : B ≤ wr.heap.size) (hw : WholeOk g) (k : Nat) (hk : k < g.rules.length) => kept_any h hb hw.use hk)
  have HN : Hid (∀ w', Below w.heap.size w w' → WholePost g w (.returned (.int .i64 0)) w') := Lib.hid (fun w' h => ⟨.inl rfl, h⟩)
  have HY : Hid (∀ w', Below w.heap.size w w' → WholeOk g → WholePost g w (.returned (.int .i64 1)) w') := Lib.hid (fun w' h1 h2 => ⟨.inr ⟨rfl, h2⟩, h1⟩)
  have HW : Hid (GramOk g → Small g → WholeOk g) := Lib.hid (fun h1 h2 => ⟨h1, h2⟩)
  have hlr : g.rules.length ≤ 9223372036854775807 := hg.lr
  clear hg
  generalize WholePost g w = Po at *
  generalize WholeOk g = WO at *
  unfold GV at *
  go_enter Try.func8, Try.ntmps8
  have b0 := cell_of_block (off := 0) HS.out.blk
  have b1 := cell_of_block (off := 1) HS.out.blk
  have b2 := cell_of_block (off := 2) HS.out.blk
  simp at b0 b1 b2
  have hsz := HS.out.size
  go_wp2_with fail
  generalize w.alloc (.cells #[.slice g.ta g.terms.length g.tc, .slice g.va g.vars.length g.vc, .slice g.ra g.rules.length g.rc] 25) = W at *
  refine (HF.out _ HS.out.gram (by omega)).mono ?_
  rintro e w1 ⟨b, rfl, hb1, hsm⟩
  have HSM := Lib.hid hsm
  have H1 := Lib.hid (HS.out.next hB hb1)
  clear HF HS hsm hb1 b0 b1 b2 hsz
  have b0 := cell_of_block (off := 0) H1.out.blk
  have b1 := cell_of_block (off := 1) H1.out.blk
  have b2 := cell_of_block (off := 2) H1.out.blk
  simp at b0 b1 b2
  have hsz := H1.out.size
  cases b
  · go_wp2_with fail
    exact HN.out _ H1.out.below
  · go_wp2_with fail
    refine (HR.out _ H1.out.gram (by omega)).mono ?_
    rintro e w2 ⟨b, rfl, hb2, hok⟩
    have HOK := Lib.hid hok
    have H2 := Lib.hid (H1.out.next hB hb2)
    clear HR H1 hok hb2 b0 b1 b2 hsz
    have b0 := cell_of_block (off := 0) H2.out.blk
    have b1 := cell_of_block (off := 1) H2.out.blk
    have b2 := cell_of_block (off := 2) H2.out.blk
    simp at b0 b1 b2
    have hsz := H2.out.size
    cases b
    · go_wp2_with fail
      exact HN.out _ H2.out.below
    · have HWO := Lib.hid (HW.out (HOK.out rfl) (HSM.out trivial))
      clear HW HOK HSM
      go_wp2_with fail
      clear b0 b1 b2 hsz
      go_loopw [15] (fun i wr => ∃ k : Nat, k ≤ g.rules.length ∧ i = .int .i64 k ∧ Hid (Boxed w B g wr)) (fun i _ => g.rules.length - (intOf i).toNat)
      case atStart => exact ⟨0, by omega, rfl, H2⟩
      case round =>
        obtain ⟨k, hk, rfl, hbx⟩ := hrel
        have b0 := cell_of_block (off := 0) hbx.out.blk
        have b1 := cell_of_block (off := 1) hbx.out.blk
        have b2 := cell_of_block (off := 2) hbx.out.blk
        simp at b0 b1 b2
        have hsz := hbx.out.size
        by_cases hkt : k < g.rules.length
        · have hki : (k : Int) < g.rules.length := by omega
          go_wp2_with fail
          refine (HK.out _ hbx.out.gram (by omega) HWO.out k hkt).mono ?_
          rintro e w3 ⟨b, rfl, hb3⟩
          have H3 := Lib.hid (hbx.out.next hB hb3)
          clear hb3 b0 b1 b2
          cases b
          · go_wp2_with fail
            exact HN.out _ H3.out.below
          · go_wp2_with fail
            go_roundw
            case rel => exact ⟨k + 1, by omega, by go_num, H3⟩
            case measure => simp [intOf]; omega
        · have hki : ¬ (k : Int) < g.rules.length := by omega
          go_wp2_with fail
          exact HY.out _ hbx.out.below HWO.out
end Go.Proofs.Ytmiiolgbjicocaa
