/- Derivations, step by step: the program's and the reference's. -/
import Derived.Test.YtfiafmhnmafnbaaBegin
namespace Go.Proofs.Ytfiafmhnmafnbaa
open Go.RowKit
/-- The forms of a derivation; k steps were done. -/
def repS (g : GramD) : List Int → Nat → List Int → List Int × Nat × Int
  | form, _, [] => (form, 0, 0)
  | form, k, r :: rs => if (stepS g form r).2 = 0 then repS g (stepS g form r).1 (k + 1) rs else ([], k, (stepS g form r).2)
theorem stepS_len (g : GramD) (hsm : Small g) (form : List Int) (rule : Int) : (stepS g form rule).1.length ≤ form.length + 8 := by
  unfold stepS
  split
  · simp
  · split
    · rename_i h
      have := hsm.2 rule.toNat h.2
      split
      · simp; omega
      · simp
    · simp
theorem stepS_err (g : GramD) (form : List Int) (rule : Int) : (stepS g form rule).2 = 0 ∨ (stepS g form rule).2 = 12 ∨ (stepS g form rule).2 = 13 ∨ (stepS g form rule).2 = 14 := by
  unfold stepS
  split
  · simp
  · split
    · split <;> simp
    · simp
def ReplayPost (w : World) (r : List Int × Nat × Int) (e : Ending) (w' : World) : Prop :=
  ∃ v, e = .returned (.tuple #[v, .int .i64 r.2.1, .int .i64 r.2.2]) ∧ OwnI w' w.heap.size v r.1 ∧ Below w.heap.size w w'
set_option maxHeartbeats 1000000 in
theorem replay_any {B : Nat} {g : GramD} {w : World} (h : GramAt w B g) (hB : B ≤ w.heap.size) (hsm : Small g) {a : Option Addr} {cap : Nat} {form : List Int} (hf : Ints w B a form) {a2 : Option Addr} {cap2 : Nat} {rules : List Int} (hr : Ints w B a2 rules)
    (hl : form.length + 8 * rules.length ≤ 400000) (hrl : rules.length ≤ 4096) :
    Calls Try.prog 47 #[GV g, .slice a form.length cap, .slice a2 rules.length cap2] w (ReplayPost w (repS g form 0 rules)) := by
  have HS := Lib.hid (boxed_start h hB)
  have HF := Lib.hid (hf.below ((Below.refl _ _).alloc hB (.cells #[.slice g.ta g.terms.length g.tc, .slice g.va g.vars.length g.vc, .slice g.ra g.rules.length g.rc] 25)))
  have HR := Lib.hid hr
  have HGV := Lib.hid (show GV g = .agg #[.slice g.ta g.terms.length g.tc, .slice g.va g.vars.length g.vc, .slice g.ra g.rules.length g.rc] from rfl)
  have HBg := Lib.hid (begin_any (B := B) (a := a) (cap := cap) (form := form) HS.out.gram (by simp only [World.size_alloc]; omega) HF.out (by omega))
  rw [HGV.out] at HBg
  clear h hf hr
  have hrl' : ¬ (4096 : Int) < rules.length := by omega
  rw [HGV.out]
  go_enter Try.func47, Try.ntmps47
  go_wp2_with fail
  refine HBg.out.mono ?_
  rintro e w1 ⟨rb, rfl, hrb, hb1, hr1⟩
  have H1 := Lib.hid (And.intro (HS.out.below.trans (hb1.mono (by simp only [World.size_alloc]; omega))) hr1)
  simp only [World.size_alloc] at hrb
  clear hb1 hr1
  go_wp2
  go_loopw [21] (fun i wr => ∃ k : Nat, k ≤ rules.length ∧ i = .int .i64 k ∧ Hid (∃ fm, repS g form 0 rules = repS g fm k (rules.drop k) ∧ fm.length ≤ form.length + 8 * k ∧ Below w.heap.size w wr ∧ RunF B rb g fm wr)) (fun i _ => rules.length - (intOf i).toNat)
  case atStart => exact ⟨0, by omega, rfl, form, rfl, by omega, H1.out.1, H1.out.2⟩
  case round =>
    clear H1
    obtain ⟨k, hk, rfl, hh⟩ := hrel
    obtain ⟨fm, hq, hlm, hbw, hrf⟩ := hh.out
    have HH := Lib.hid (And.intro hq (And.intro hbw hrf))
    clear hh hq hbw hrf
    by_cases hlt : k < rules.length
    · have hki : (k : Int) < rules.length := by omega
      obtain ⟨b, off, rfl, hb, hc⟩ := (HR.out.below (HH.out.2.1.mono hB)) k hlt
      have HE := Lib.hid (show repS g form 0 rules = if (stepS g fm rules[k]).2 = 0 then repS g (stepS g fm rules[k]).1 (k + 1) (rules.drop (k + 1)) else ([], k, (stepS g fm rules[k]).2) by
        rw [HH.out.1, List.drop_eq_getElem_cons hlt]; rfl)
      have HSt := Lib.hid (stepR_any HH.out.2.2 hsm (by omega) rules[k])
      have HLn := Lib.hid (stepS_len g hsm fm rules[k])
      generalize rules[k] = rl at *
      generalize stepS g fm rl = st at *
      go_wp2_with fail
      refine HSt.out.mono ?_
      rintro e w2 ⟨rfl, hb2, hr2⟩
      have HX := Lib.hid (And.intro (HH.out.2.1.trans (hb2.mono (by omega))) hr2)
      clear hb2 hr2
      by_cases hz : st.2 = 0
      · have hz' : (st.2 != 0) = false := by simp [hz]
        have HE2 := Lib.hid (HE.out.trans (if_pos hz))
        have HR2 := Lib.hid (HX.out.2 hz)
        rw [hz] at *
        go_wp2
        go_roundw
        case rel => exact ⟨k + 1, by omega, by go_num, st.1, HE2.out, by have := HLn.out; omega, HX.out.1, HR2.out⟩
        case measure => simp [intOf]; omega
      · have hz' : (st.2 != 0) = true := by simp [hz]
        have HE2 := Lib.hid (HE.out.trans (if_neg hz))
        clear hz
        go_wp2
        go_ret3
        exact ⟨_, by rw [HE2.out]; rfl, by rw [HE2.out]; exact own_nil _ _, HX.out.1⟩
    · have hki : ¬ (k : Int) < rules.length := by omega
      have HE := Lib.hid (show repS g form 0 rules = (fm, 0, 0) by rw [HH.out.1, List.drop_of_length_le (by omega)]; rfl)
      go_wp2_with fail
      refine (form_any HH.out.2.2 (by omega)).mono ?_
      rintro e w2 ⟨v, rfl, hown, hb2⟩
      have HX := Lib.hid (And.intro (HH.out.2.1.trans (hb2.mono HH.out.2.1.size)) (own_mono hown HH.out.2.1.size))
      clear hown hb2
      go_wp2
      go_ret3
      exact ⟨_, by rw [HE.out]; rfl, by rw [HE.out]; exact HX.out.2, HX.out.1⟩
end Go.Proofs.Ytfiafmhnmafnbaa
