/- Derivations, step by step, as the reference does them. -/
import Derived.Test.YtfiafmhnmafnbaaReplay
import Derived.Deep.RegionHeld3
namespace Go.Proofs.Ytfiafmhnmafnbaa
open Go.RowKit
theorem Ints.mono {w : World} {B B' : Nat} {a : Option Addr} {xs : List Int} (h : Ints w B a xs) (hB : B ≤ B') : Ints w B' a xs := fun i hi => by
  obtain ⟨b, off, h1, h2, h3⟩ := h i hi
  exact ⟨b, off, h1, by omega, h3⟩
theorem StrsAt.mono {w : World} {B B' : Nat} {a : Option Addr} {xs : List ByteArray} (h : StrsAt w B a xs) (hB : B ≤ B') : StrsAt w B' a xs := fun i hi => by
  obtain ⟨b, off, h1, h2, h3⟩ := h i hi
  exact ⟨b, off, h1, by omega, h3⟩
theorem GramAt.mono {w : World} {B B' : Nat} {g : GramD} (h : GramAt w B g) (hB : B ≤ B') : GramAt w B' g :=
  ⟨StrsAt.mono h.terms hB, StrsAt.mono h.vars hB, fun i hi => by
    obtain ⟨b, off, h1, h2, h3, h4, h5, h6, h7⟩ := h.rules i hi
    exact ⟨b, off, h1, by omega, h3, h4, h5, Ints.mono h6 hB, h7⟩, h.lt, h.lv, h.lr, h.nils⟩
def RReplayPost (w : World) (r : List Int × Nat × Int) (e : Ending) (w' : World) : Prop :=
  ∃ fa fc, e = .returned (.tuple #[.slice fa r.1.length fc, .int .i64 r.2.1, .int .i64 r.2.2]) ∧ Ints w' w'.heap.size fa r.1 ∧ Below w.heap.size w w'
set_option maxHeartbeats 1000000 in
theorem rreplay_any {B : Nat} {g : GramD} {w : World} (h : GramAt w B g) (hB : B ≤ w.heap.size) (hsm : Small g) {a : Option Addr} {cap : Nat} {form : List Int} (hf : Ints w B a form) {a2 : Option Addr} {cap2 : Nat} {rules : List Int} (hr : Ints w B a2 rules)
    (hl : form.length + 8 * rules.length ≤ 400000) (hrl : rules.length ≤ 4096) :
    Calls Try.prog 31 #[GV g, .slice a form.length cap, .slice a2 rules.length cap2] w (RReplayPost w (repS g form 0 rules)) := by
  have HS := Lib.hid (boxed_start h hB)
  have HF := Lib.hid (hf.below ((Below.refl _ _).alloc hB (.cells #[.slice g.ta g.terms.length g.tc, .slice g.va g.vars.length g.vc, .slice g.ra g.rules.length g.rc] 25)))
  have HR := Lib.hid hr
  have HGV := Lib.hid (show GV g = .agg #[.slice g.ta g.terms.length g.tc, .slice g.va g.vars.length g.vc, .slice g.ra g.rules.length g.rc] from rfl)
  clear h hf hr
  have hrl' : ¬ (4096 : Int) < rules.length := by omega
  rw [HGV.out]
  go_enter Try.func31, Try.ntmps31
  go_wp2
  go_loopw [1, 9] (fun v i wr => ∃ k : Nat, k ≤ rules.length ∧ i = .int .i64 k ∧ Hid (∃ fm fa fc, v = .slice fa fm.length fc ∧ repS g form 0 rules = repS g fm k (rules.drop k) ∧ fm.length ≤ form.length + 8 * k ∧ Ints wr wr.heap.size fa fm ∧ Boxed w B g wr)) (fun _ i _ => rules.length - (intOf i).toNat)
  case atStart => exact ⟨0, by omega, rfl, form, a, cap, rfl, rfl, by omega, Ints.mono HF.out (by simp only [World.size_alloc]; omega), HS.out⟩
  case round =>
    obtain ⟨k, hk, rfl, hh⟩ := hrel
    obtain ⟨fm, fa, fc, rfl, hq, hlm, hin, hbx⟩ := hh.out
    have HH := Lib.hid (And.intro hq (And.intro hin hbx))
    clear hh hq hin hbx
    by_cases hlt : k < rules.length
    · have hki : (k : Int) < rules.length := by omega
      have hk0 : (0 : Int) ≤ k := by omega
      obtain ⟨b, off, rfl, hb, hc⟩ := (HR.out.below (HH.out.2.2.below.mono hB)) k hlt
      have HE := Lib.hid (show repS g form 0 rules = if (stepS g fm rules[k]).2 = 0 then repS g (stepS g fm rules[k]).1 (k + 1) (rules.drop (k + 1)) else ([], k, (stepS g fm rules[k]).2) by
        rw [HH.out.1, List.drop_eq_getElem_cons hlt]; rfl)
      have hgb := HH.out.2.2.blk
      have hbs := HH.out.2.2.size
      have HSt := Lib.hid (rstep_any (w := wr.drew) (B := wr.heap.size) (a := fa) (cap := fc) (form := fm) (GramAt.mono (HH.out.2.2.gram.below ⟨rfl, rfl, rfl, Nat.le_refl _, fun _ _ => rfl⟩) (by omega)) (Nat.le_refl _) hsm (HH.out.2.1.below ⟨rfl, rfl, rfl, Nat.le_refl _, fun _ _ => rfl⟩) (by omega) rules[k])
      rw [HGV.out] at HSt
      have HLn := Lib.hid (stepS_len g hsm fm rules[k])
      generalize rules[k] = rl at *
      generalize stepS g fm rl = st at *
      go_wp2
      have gc0 : wr.cell? ⟨w.heap.size, 0, none⟩ = some (.slice g.ta g.terms.length g.tc) := cell_of_block hgb
      have gc1 : wr.cell? ⟨w.heap.size, 1, none⟩ = some (.slice g.va g.vars.length g.vc) := cell_of_block hgb
      have gc2 : wr.cell? ⟨w.heap.size, 2, none⟩ = some (.slice g.ra g.rules.length g.rc) := cell_of_block hgb
      go_region_held3 (fun w' => w'.cell? ⟨w.heap.size, 0, none⟩ = some (.slice g.ta g.terms.length g.tc) ∧ w'.cell? ⟨w.heap.size, 1, none⟩ = some (.slice g.va g.vars.length g.vc) ∧ w'.cell? ⟨w.heap.size, 2, none⟩ = some (.slice g.ra g.rules.length g.rc) ∧ w'.cell? ⟨b, off + k, none⟩ = some (.int .i64 rl))
        (first | exact ⟨gc0, gc1, gc2, hc⟩ | exact hS2 | go_keep)
        ((go_at_call 49; refine HSt.out.mono ?_; rintro e w2 ⟨v, rfl, hown, hb2⟩
          have HX := Lib.hid (And.intro hown hb2)
          have hS2 : w2.cell? ⟨w.heap.size, 0, none⟩ = some (.slice g.ta g.terms.length g.tc) ∧ w2.cell? ⟨w.heap.size, 1, none⟩ = some (.slice g.va g.vars.length g.vc) ∧ w2.cell? ⟨w.heap.size, 2, none⟩ = some (.slice g.ra g.rules.length g.rc) ∧ w2.cell? ⟨b, off + k, none⟩ = some (.int .i64 rl) := ⟨(below_cell hb2 hbs).trans gc0, (below_cell hb2 hbs).trans gc1, (below_cell hb2 hbs).trans gc2, (below_cell hb2 (by show b < wr.heap.size; omega)).trans hc⟩
          clear hown hb2))
      all_goals
        obtain ⟨va, vcap, rfl, -, hvi, -, -⟩ := HX.out.1.shape
        have HV := Lib.hid hvi
        have HB2 := Lib.hid (HH.out.2.2.next hB (((Below.refl wr.heap.size wr).drew).trans HX.out.2))
        clear hvi hS2 gc0 gc1 gc2
        by_cases hz : st.2 = 0
        · have hz' : (st.2 != 0) = false := by simp [hz]
          have HE2 := Lib.hid (HE.out.trans (if_pos hz))
          rw [hz] at *
          go_wp2
          go_roundw
          case rel => exact ⟨k + 1, by omega, by go_num, st.1, va, vcap, rfl, HE2.out, by have := HLn.out; omega, HV.out, HB2.out⟩
          case measure => simp [intOf]; omega
        · have hz' : (st.2 != 0) = true := by simp [hz]
          have HE2 := Lib.hid (HE.out.trans (if_neg hz))
          clear hz
          go_wp2
          go_ret3
          refine ⟨none, 0, by rw [HE2.out]; rfl, by rw [HE2.out]; exact fun i hi => by simp at hi, HB2.out.below⟩
    · have hki : ¬ (k : Int) < rules.length := by omega
      have HE := Lib.hid (show repS g form 0 rules = (fm, 0, 0) by rw [HH.out.1, List.drop_of_length_le (by omega)]; rfl)
      go_wp2
      go_ret3
      exact ⟨fa, fc, by rw [HE.out]; rfl, by rw [HE.out]; exact HH.out.2.1, HH.out.2.2.below⟩
end Go.Proofs.Ytfiafmhnmafnbaa
