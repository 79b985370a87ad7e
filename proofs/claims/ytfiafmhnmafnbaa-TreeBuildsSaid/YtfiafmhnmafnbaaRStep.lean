/- A step, as the reference does it. -/
import Derived.Test.YtfiafmhnmafnbaaStep
namespace Go.Proofs.Ytfiafmhnmafnbaa
open Go.RowKit
def stepPre (form rg : List Int) (f k : Nat) : List Int := if k ≤ f then form.take k else form.take f ++ rg ++ (form.take k).drop (f + 1)
theorem stepPre_at (form rg : List Int) (f : Nat) : stepPre form rg f (f + 1) = stepPre form rg f f ++ rg := by
  unfold stepPre
  rw [if_neg (by omega), if_pos (Nat.le_refl _), List.drop_of_length_le (by simp; omega), List.append_nil]
theorem stepPre_on (form rg : List Int) (f k : Nat) (hk : k < form.length) (h : k ≠ f) : stepPre form rg f (k + 1) = stepPre form rg f k ++ [form[k]] := by
  unfold stepPre
  by_cases h1 : k < f
  · rw [if_pos (by omega), if_pos (by omega), List.take_succ_eq_append_getElem hk]
  · rw [if_neg (by omega), if_neg (by omega), List.take_succ_eq_append_getElem hk, List.drop_append_of_le_length (by simp; omega), List.append_assoc, List.append_assoc, List.append_assoc]
theorem stepPre_end (form rg : List Int) (f k : Nat) (hk : form.length ≤ k) (h : f < form.length) : stepPre form rg f k = form.take f ++ rg ++ form.drop (f + 1) := by
  unfold stepPre
  rw [if_neg (by omega), List.take_of_length_le hk]
theorem stepPre_len (form rg : List Int) (f k : Nat) (h : form.length ≤ 1000000) (hr : rg.length ≤ 8) : (stepPre form rg f k).length ≤ 1000008 := by
  unfold stepPre
  split <;> simp <;> omega
theorem Boxed.next1 {w wr w2 : World} {B : Nat} {g : GramD} (h : Boxed w B g wr) (hB : B ≤ w.heap.size) (hb : Below (w.heap.size + 1) wr w2) : Boxed w B g w2 :=
  ⟨h.below.trans (hb.mono (by omega)), by have := h.size; have := hb.size; omega, (hb.block _ (by omega)).trans h.blk, h.gram.below (hb.mono (by omega))⟩
theorem own_mono {w : World} {b b' : Nat} {v : Value} {xs : List Int} (h : OwnI w b v xs) (hb : b' ≤ b) : OwnI w b' v xs := by
  obtain ⟨h1, h2⟩ := h
  refine ⟨h1, ?_⟩
  rcases h2 with h2 | ⟨g, cap, cur, rfl, hg, r⟩
  · exact .inl h2
  · exact .inr ⟨g, cap, cur, rfl, by omega, r⟩
set_option maxHeartbeats 1000000 in
theorem rstep_any {B : Nat} {g : GramD} {w : World} (h : GramAt w B g) (hB : B ≤ w.heap.size) (hsm : Small g) {a : Option Addr} {cap : Nat} {form : List Int} (hf : Ints w B a form) (hl : form.length ≤ 1000000) (rule : Int) :
    Calls Try.prog 49 #[GV g, .slice a form.length cap, .int .i64 rule] w (StepPost w (stepS g form rule)) := by
  have HS := Lib.hid (boxed_start h hB)
  have hlr : g.rules.length ≤ 24 := hsm.1
  have HF := Lib.hid (hf.below ((Below.refl _ _).alloc hB (.cells #[.slice g.ta g.terms.length g.tc, .slice g.va g.vars.length g.vc, .slice g.ra g.rules.length g.rc] 25)))
  have HL := Lib.hid (first_any (cap := cap) HF.out hl)
  have HF0 := Lib.hid hf
  clear h hf
  by_cases c1 : rule < 0
  · have HE := Lib.hid (show stepS g form rule = ([], 12) by unfold stepS; rw [if_pos (.inl c1)])
    unfold GV
    go_enter Try.func49, Try.ntmps49
    go_wp2_with fail
    refine HL.out.mono ?_
    rintro e w1 ⟨rfl, rfl⟩
    go_wp2
    go_ret2
    exact stepPost_err HE.out HS.out.below
  by_cases c2 : (g.rules.length : Int) ≤ rule
  · have HE := Lib.hid (show stepS g form rule = ([], 12) by unfold stepS; rw [if_pos (.inr c2)])
    unfold GV
    go_enter Try.func49, Try.ntmps49
    go_wp2_with fail
    refine HL.out.mono ?_
    rintro e w1 ⟨rfl, hw1⟩
    have hbx : Hid (Boxed w B g w1) := by rw [← hw1]; exact HS
    have gc2 := cell_of_block (off := 2) hbx.out.blk
    clear hw1
    simp at gc2
    go_wp2
    go_ret2
    exact stepPost_err HE.out hbx.out.below
  obtain ⟨r, rfl⟩ : ∃ r : Nat, rule = r := ⟨rule.toNat, by omega⟩
  have hr : r < g.rules.length := by omega
  by_cases c3 : firstV form < form.length
  · have HA := Lib.hid (show atV form = (firstV form : Nat) by unfold atV; rw [if_pos c3])
    have HE := Lib.hid (show stepS g form r = if form[firstV form] = g.rules[r].left then (form.take (firstV form) ++ g.rules[r].right ++ form.drop (firstV form + 1), 0) else ([], 14) by
      unfold stepS; rw [if_neg (by omega), dif_pos ⟨c3, by simpa using hr⟩]; rfl)
    unfold GV
    go_enter Try.func49, Try.ntmps49
    go_wp2_with fail
    refine HL.out.mono ?_
    rintro e w1 ⟨rfl, hw1⟩
    rw [HA.out]
    have hbx : Hid (Boxed w B g w1) := by rw [← hw1]; exact HS
    have HF1 : Hid (Ints w1 B a form) := by rw [← hw1]; exact HF
    clear hw1
    have gc2 := cell_of_block (off := 2) hbx.out.blk
    simp at gc2
    obtain ⟨gta, gterms, gtc, gva, gvars, gvc, gra, rules, grc⟩ := g
    dsimp only at hr hlr gc2 c2
    obtain ⟨b, off, hra, hb1, e1, e2, -, e4, -⟩ := hbx.out.gram.rules r hr
    dsimp only at hra e1 e2 e4
    subst hra
    have hr8 := hsm.2 r hr
    dsimp only at hr8
    have hnil := hbx.out.gram.nils r hr
    dsimp only at hnil
    clear e2 e4
    obtain ⟨fb, fo, rfl, hfb, hfc⟩ := HF1.out _ c3
    dsimp only at HE
    have hri : (r : Int) < rules.length := by omega
    have hfi : ((firstV form : Nat) : Int) < form.length := by omega
    have hrn : decide (rules.length ≤ r) = false := by simp; omega
    have hrz : decide ((r : Int) < 0) = false := by simp
    by_cases he : form[firstV form] = rules[r].left
    · have he' : (rules[r].left != form[firstV form]) = false := by simp [he]
      have HE2 := Lib.hid (HE.out.trans (if_pos he))
      clear he HE HL HA
      generalize hff : firstV form = f at *
      clear hff
      go_wp2
      go_quiet (fail)
      have hbx2 := Lib.hid (hbx.out.drewN hB nq)
      have HF2 : Hid (Ints (w1.drewN nq) B (some ⟨fb, fo, none⟩) form) := HF1
      clear hbx HF1 HF gc2 e1 hfc HS
      generalize w1.drewN nq = W2 at *
      go_wp2
      go_loopw [9, 10] (fun v i wr => ∃ k : Nat, k ≤ form.length ∧ i = .int .i64 k ∧ Hid (OwnI wr (w.heap.size + 1) v (stepPre form rules[r].right f k) ∧ Boxed w B ⟨gta, gterms, gtc, gva, gvars, gvc, some ⟨b, off, none⟩, rules, grc⟩ wr)) (fun _ i _ => form.length - (intOf i).toNat)
      case atStart =>
        refine ⟨0, by omega, rfl, ?_, hbx2.out.next hB ((Below.refl _ _).alloc (Nat.le_refl _) _)⟩
        have := hbx2.out.size
        exact own_empty _ (by omega)
      case round =>
        obtain ⟨k, hk, rfl, hh⟩ := hrel
        clear he'
        have gc2 := cell_of_block (off := 2) hh.out.2.blk
        simp at gc2
        obtain ⟨b', off', hra', -, -, e2, -, e4, -⟩ := hh.out.2.gram.rules r hr
        dsimp only at hra' e2 e4
        simp only [Option.some.injEq, Addr.mk.injEq] at hra'
        obtain ⟨rfl, rfl, -⟩ := hra'
        have E4 := Lib.hid e4
        clear e4
        have hsz2 := hh.out.2.size
        have HL2 := Lib.hid (stepPre_len form rules[r].right f k hl hr8)
        have HFr := Lib.hid (HF0.out.below (hh.out.2.below.mono hB))
        by_cases hlt : k < form.length
        · have hki : (k : Int) < form.length := by omega
          by_cases hkf : k = f
          · subst hkf
            have HP := Lib.hid (stepPre_at form rules[r].right k)
            have hcc : ((k : Int) == (k : Int)) = true := by simp
            generalize rules[r].right = rg at *
            generalize rules[r].ra = rga at *
            generalize rules[r].rc = rgc at *
            go_wp2_with (first
              | (at_builtin; go_loud (refine append_ints rfl _ _ 26 rfl Try.underlying26 info3 (w.heap.size + 1) _ (stepPre form rg k k) rfl hh.out.1 rga rgc rg.length rg rfl rfl hnil E4.out.src (by have := HL2.out; omega) (by omega) ?_); intro v' w1 hown hgrow))
            go_roundw
            case rel => exact ⟨k + 1, by omega, by go_num, by rw [HP.out]; exact hown, hh.out.2.next1 hB (below_grown hh.out.1 hgrow (by omega))⟩
            case measure => simp [intOf]; omega
          · have HP := Lib.hid (stepPre_on form rules[r].right f k hlt hkf)
            have hcc : ((k : Int) == (f : Int)) = false := by simp; omega
            obtain ⟨fb', fo', hae, -, hfc⟩ := HFr.out k hlt
            simp only [Option.some.injEq, Addr.mk.injEq] at hae
            obtain ⟨rfl, rfl, -⟩ := hae
            generalize rules[r].right = rg at *
            go_wp2_with (first
              | (at_builtin; go_loud (refine append_ints rfl _ _ 26 rfl Try.underlying26 info3 (w.heap.size + 1) _ (stepPre form rg f k) rfl (hh.out.1.alloc _) (some ⟨_, 0, none⟩) 1 1 [form[k]] rfl rfl (fun h => by cases h) (src_one _ _ _) (by have := HL2.out; simp only [List.length_singleton]; omega) (by simp only [World.size_alloc]; omega) ?_); intro v' w1 hown hgrow))
            go_roundw
            case rel => exact ⟨k + 1, by omega, by go_num, by rw [HP.out]; exact hown, (hh.out.2.next hB ((Below.refl _ _).alloc (Nat.le_refl _) _)).next1 hB (below_grown (hh.out.1.alloc _) hgrow (by simp only [World.size_alloc]; omega))⟩
            case measure => simp [intOf]; omega
        · have HP := Lib.hid (stepPre_end form rules[r].right f k (by omega) c3)
          have hki : ¬ (k : Int) < form.length := by omega
          go_wp2
          go_ret2
          exact ⟨_, by rw [HE2.out]; rfl, by rw [HE2.out, ← HP.out]; exact own_mono hh.out.1 (by omega), hh.out.2.below⟩
    · have he' : (rules[r].left != form[firstV form]) = true := by simp; exact fun h => he h.symm
      have HE2 := Lib.hid (HE.out.trans (if_neg he))
      clear he HE
      go_wp2
      go_quiet (fail)
      go_wp2
      go_ret2
      exact stepPost_err HE2.out (hbx.out.drewN hB _).below
  · have HE := Lib.hid (show stepS g form r = ([], 13) by unfold stepS; rw [if_neg (by omega), dif_neg (fun h => c3 h.1)])
    have HA := Lib.hid (show atV form = -1 by unfold atV; rw [if_neg c3])
    unfold GV
    go_enter Try.func49, Try.ntmps49
    go_wp2_with fail
    refine HL.out.mono ?_
    rintro e w1 ⟨rfl, hw1⟩
    rw [HA.out]
    have hbx : Hid (Boxed w B g w1) := by rw [← hw1]; exact HS
    clear hw1
    have gc2 := cell_of_block (off := 2) hbx.out.blk
    simp at gc2
    go_wp2
    go_ret2
    exact stepPost_err HE.out hbx.out.below
end Go.Proofs.Ytfiafmhnmafnbaa
