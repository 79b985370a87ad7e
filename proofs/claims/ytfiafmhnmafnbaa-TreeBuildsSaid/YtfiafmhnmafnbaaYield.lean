/- The word that a derivation comes to: the program's and the reference's. -/
import Derived.Test.YtfiafmhnmafnbaaRReplay
namespace Go.Proofs.Ytfiafmhnmafnbaa
open Go.RowKit
def yieldS (g : GramD) (form rules : List Int) : List Int × Int :=
  if (repS g form 0 rules).2.2 ≠ 0 then ([], (repS g form 0 rules).2.2)
  else if firstV (repS g form 0 rules).1 < (repS g form 0 rules).1.length then ([], 13) else (leadL (repS g form 0 rules).1, 0)
theorem repS_len (g : GramD) (hsm : Small g) : ∀ (rules form : List Int) (k : Nat), (repS g form k rules).1.length ≤ form.length + 8 * rules.length
  | [], form, k => by simp [repS]
  | r :: rs, form, k => by
    unfold repS
    split
    · have h1 := repS_len g hsm rs (stepS g form r).1 (k + 1)
      have h2 := stepS_len g hsm form r
      simp only [List.length_cons]
      omega
    · simp
theorem stepPost_err' {w w' : World} {r : List Int × Int} {n : Int} (h : r = ([], n)) (hb : Below w.heap.size w w') : StepPost w r (.returned (.tuple #[.slice none 0 0, .int .i64 n])) w' := stepPost_err h hb
set_option maxHeartbeats 1000000 in
theorem yield_any {B : Nat} {g : GramD} {w : World} (h : GramAt w B g) (hB : B ≤ w.heap.size) (hsm : Small g) {a : Option Addr} {cap : Nat} {form : List Int} (hf : Ints w B a form) {a2 : Option Addr} {cap2 : Nat} {rules : List Int} (hr : Ints w B a2 rules)
    (hl : form.length + 8 * rules.length ≤ 400000) (hrl : rules.length ≤ 4096) :
    Calls Try.prog 29 #[GV g, .slice a form.length cap, .slice a2 rules.length cap2] w (StepPost w (yieldS g form rules)) := by
  have HS := Lib.hid (boxed_start h hB)
  have HGV := Lib.hid (show GV g = .agg #[.slice g.ta g.terms.length g.tc, .slice g.va g.vars.length g.vc, .slice g.ra g.rules.length g.rc] from rfl)
  have hb0 : Below B w (w.alloc (.cells #[.slice g.ta g.terms.length g.tc, .slice g.va g.vars.length g.vc, .slice g.ra g.rules.length g.rc] 25)) := (Below.refl _ _).alloc hB _
  have HRp := Lib.hid (replay_any (cap := cap) (cap2 := cap2) HS.out.gram (by simp only [World.size_alloc]; omega) hsm (hf.below hb0) (hr.below hb0) hl hrl)
  have HLn := Lib.hid (repS_len g hsm rules form 0)
  rw [HGV.out] at HRp
  clear h hf hr hb0
  rw [HGV.out]
  generalize hY : yieldS g form rules = Y at *
  generalize hq : repS g form 0 rules = r at *
  have HY := Lib.hid (show Y = if r.2.2 ≠ 0 then ([], r.2.2) else if firstV r.1 < r.1.length then ([], 13) else (leadL r.1, 0) by rw [← hY, ← hq]; rfl)
  clear hY hq
  go_enter Try.func29, Try.ntmps29
  go_wp2_with fail
  refine HRp.out.mono ?_
  rintro e w1 ⟨v, rfl, hown, hb1⟩
  have HX := Lib.hid (And.intro hown (HS.out.below.trans (hb1.mono (by simp only [World.size_alloc]; omega))))
  clear hown hb1
  by_cases hz : r.2.2 = 0
  · have hz' : (r.2.2 != 0) = false := by simp [hz]
    obtain ⟨va, vcap, rfl, -, hvi, -, -⟩ := HX.out.1.shape
    have HL := Lib.hid (lead_any (cap := vcap) hvi (Nat.le_refl _) (by have := HLn.out; omega))
    have HHZ := Lib.hid hz
    clear hvi hz
    go_wp2_with fail
    refine HL.out.mono ?_
    rintro e w2 ⟨v2, rfl, hown2, hb2⟩
    have HX2 := Lib.hid (And.intro (own_mono hown2 HX.out.2.size) (HX.out.2.trans (hb2.mono HX.out.2.size)))
    clear hown2 hb2
    by_cases c3 : firstV r.1 < r.1.length
    · have HA := Lib.hid (show atV r.1 = (firstV r.1 : Nat) by unfold atV; rw [if_pos c3])
      rw [HA.out]
      have hp0 : (0 : Int) ≤ (firstV r.1 : Nat) := by omega
      go_wp2
      go_ret2
      exact stepPost_err' (HY.out.trans ((if_neg (fun h => h HHZ.out)).trans (if_pos c3))) HX2.out.2
    · have HA := Lib.hid (show atV r.1 = -1 by unfold atV; rw [if_neg c3])
      rw [HA.out]
      go_wp2
      go_ret2
      have e := HY.out.trans ((if_neg (fun h => h HHZ.out)).trans (if_neg c3))
      exact ⟨_, by rw [e]; rfl, by rw [e]; exact HX2.out.1, HX2.out.2⟩
  · have hz' : (r.2.2 != 0) = true := by simp [hz]
    have HHZ := Lib.hid hz
    clear hz
    go_wp2
    go_ret2
    exact stepPost_err' (HY.out.trans (if_pos HHZ.out)) HX.out.2
set_option maxHeartbeats 1000000 in
theorem ryield_any {B : Nat} {g : GramD} {w : World} (h : GramAt w B g) (hB : B ≤ w.heap.size) (hsm : Small g) {a : Option Addr} {cap : Nat} {form : List Int} (hf : Ints w B a form) {a2 : Option Addr} {cap2 : Nat} {rules : List Int} (hr : Ints w B a2 rules)
    (hl : form.length + 8 * rules.length ≤ 400000) (hrl : rules.length ≤ 4096) :
    Calls Try.prog 11 #[GV g, .slice a form.length cap, .slice a2 rules.length cap2] w (StepPost w (yieldS g form rules)) := by
  have HS := Lib.hid (boxed_start h hB)
  have HGV := Lib.hid (show GV g = .agg #[.slice g.ta g.terms.length g.tc, .slice g.va g.vars.length g.vc, .slice g.ra g.rules.length g.rc] from rfl)
  have hb0 : Below B w (w.alloc (.cells #[.slice g.ta g.terms.length g.tc, .slice g.va g.vars.length g.vc, .slice g.ra g.rules.length g.rc] 25)) := (Below.refl _ _).alloc hB _
  have HRp := Lib.hid (rreplay_any (cap := cap) (cap2 := cap2) HS.out.gram (by simp only [World.size_alloc]; omega) hsm (hf.below hb0) (hr.below hb0) hl hrl)
  have HLn := Lib.hid (repS_len g hsm rules form 0)
  rw [HGV.out] at HRp
  clear h hf hr hb0
  rw [HGV.out]
  generalize hY : yieldS g form rules = Y at *
  generalize hq : repS g form 0 rules = r at *
  have HY := Lib.hid (show Y = if r.2.2 ≠ 0 then ([], r.2.2) else if firstV r.1 < r.1.length then ([], 13) else (leadL r.1, 0) by rw [← hY, ← hq]; rfl)
  clear hY hq
  go_enter Try.func11, Try.ntmps11
  go_wp2_with fail
  refine HRp.out.mono ?_
  rintro e w1 ⟨va, vcap, rfl, hvi, hb1⟩
  have HX := Lib.hid (And.intro hvi (HS.out.below.trans (hb1.mono (by simp only [World.size_alloc]; omega))))
  clear hvi hb1
  by_cases hz : r.2.2 = 0
  · have hz' : (r.2.2 != 0) = false := by simp [hz]
    have HF := Lib.hid (first_any (cap := vcap) HX.out.1 (by have := HLn.out; omega))
    have HL := Lib.hid (rlead_any (cap := vcap) HX.out.1 (Nat.le_refl _) (by have := HLn.out; omega))
    have HHZ := Lib.hid hz
    clear hz
    go_wp2_with fail
    refine HF.out.mono ?_
    rintro e w' ⟨rfl, hw⟩
    have HL2 : Hid (Calls Try.prog 33 #[.slice va r.1.length vcap] w' (RLeadPost r.1 w')) := by rw [← hw]; exact HL
    have HX2 : Hid (Ints w' w'.heap.size va r.1 ∧ Below w.heap.size w w') := by rw [← hw]; exact HX
    clear hw
    by_cases c3 : firstV r.1 < r.1.length
    · have HA := Lib.hid (show atV r.1 = (firstV r.1 : Nat) by unfold atV; rw [if_pos c3])
      rw [HA.out]
      have hp0 : (0 : Int) ≤ (firstV r.1 : Nat) := by omega
      go_wp2
      go_ret2
      exact stepPost_err' (HY.out.trans ((if_neg (fun h => h HHZ.out)).trans (if_pos c3))) HX2.out.2
    · have HA := Lib.hid (show atV r.1 = -1 by unfold atV; rw [if_neg c3])
      rw [HA.out]
      go_wp2_with fail
      refine HL2.out.mono ?_
      rintro e w2 ⟨v2, rfl, hown2, hb2⟩
      have HX3 := Lib.hid (And.intro (own_mono hown2 HX2.out.2.size) (HX2.out.2.trans (hb2.mono HX2.out.2.size)))
      clear hown2 hb2
      go_wp2
      go_ret2
      have e := HY.out.trans ((if_neg (fun h => h HHZ.out)).trans (if_neg c3))
      exact ⟨_, by rw [e]; rfl, by rw [e]; exact HX3.out.1, HX3.out.2⟩
  · have hz' : (r.2.2 != 0) = true := by simp [hz]
    have HHZ := Lib.hid hz
    clear hz
    go_wp2
    go_ret2
    exact stepPost_err' (HY.out.trans (if_pos HHZ.out)) HX.out.2
end Go.Proofs.Ytfiafmhnmafnbaa
