/- A step: the program's and the reference's. -/
import Derived.Test.YtekdciigiogjkaaLead
import Derived.Test.YtekdciigiogjkaaRight
namespace Go.Proofs.Ytekdciigiogjkaa
open Go.RowKit
def stepS (g : GramD) (form : List Int) (rule : Int) : List Int × Int :=
  if rule < 0 ∨ (g.rules.length : Int) ≤ rule then ([], 12)
  else if h : firstV form < form.length ∧ rule.toNat < g.rules.length then
    if form[firstV form]'h.1 = (g.rules[rule.toNat]'h.2).left then (form.take (firstV form) ++ (g.rules[rule.toNat]'h.2).right ++ form.drop (firstV form + 1), 0) else ([], 14)
  else ([], 13)
def StepPost (base : World) (r : List Int × Int) (e : Ending) (w' : World) : Prop :=
  ∃ v, e = .returned (.tuple #[v, .int .i64 r.2]) ∧ Own w' base.heap.size v r.1 ∧ Below base.heap.size base w'
theorem stepPost_err {w w' : World} {r : List Int × Int} {n : Int} (h : r = ([], n)) (hb : Below w.heap.size w w') : StepPost w r (.returned (.tuple #[.slice none 0 0, .int .i64 n])) w' := by
  subst h
  exact ⟨_, rfl, own_nil _ _, hb⟩
set_option maxHeartbeats 1000000 in
theorem step_any {B : Nat} {g : GramD} {w : World} (h : GramAt w B g) (hB : B ≤ w.heap.size) (hsm : Small g) {a : Option Addr} {cap : Nat} {form : List Int} (hf : Ints w B a form) (hl : form.length ≤ 1000000) (hcap : a = none → cap = 0) (hc : form.length ≤ cap) (hc2 : cap ≤ 9223372036854775807) (rule : Int) :
    Calls Try.prog 11 #[GV g, .slice a form.length cap, .int .i64 rule] w (StepPost w (stepS g form rule)) := by
  have HS := Lib.hid (boxed_start h hB)
  have hlr : g.rules.length ≤ 24 := hsm.1
  have HF := Lib.hid (hf.below ((Below.refl _ _).alloc hB (.cells #[.slice g.ta g.terms.length g.tc, .slice g.va g.vars.length g.vc, .slice g.ra g.rules.length g.rc] 25)))
  have HL := Lib.hid (lead_any (cap := cap) HF.out (by simp only [World.size_alloc]; omega) hl)
  clear h hf
  by_cases c1 : rule < 0
  · have HE := Lib.hid (show stepS g form rule = ([], 12) by unfold stepS; rw [if_pos (.inl c1)])
    unfold GV
    go_enter Try.func11, Try.ntmps11
    go_wp2_with fail
    refine HL.out.mono ?_
    rintro e w1 ⟨v, rfl, hown, hb⟩
    have hbx := Lib.hid (HS.out.next hB hb)
    clear hown hb
    go_wp2
    go_ret2
    exact stepPost_err HE.out hbx.out.below
  by_cases c2 : (g.rules.length : Int) ≤ rule
  · have HE := Lib.hid (show stepS g form rule = ([], 12) by unfold stepS; rw [if_pos (.inr c2)])
    unfold GV
    go_enter Try.func11, Try.ntmps11
    go_wp2_with fail
    refine HL.out.mono ?_
    rintro e w1 ⟨v, rfl, hown, hb⟩
    have hbx := Lib.hid (HS.out.next hB hb)
    clear hown hb
    have gc2 := cell_of_block (off := 2) hbx.out.blk
    simp at gc2
    go_wp2
    go_ret2
    exact stepPost_err HE.out hbx.out.below
  obtain ⟨r, rfl⟩ : ∃ r : Nat, rule = r := ⟨rule.toNat, by omega⟩
  have hr : r < g.rules.length := by omega
  by_cases c3 : firstV form < form.length
  · have HA := Lib.hid (show atV form = (firstV form : Nat) by unfold atV; rw [if_pos c3])
    have HE := Lib.hid (show stepS g form r = if form[firstV form] = g.rules[r].left then (form.take (firstV form) ++ g.rules[r].right ++ form.drop (firstV form + 1), 0) else ([], 14) by
      unfold stepS; rw [if_neg (by omega), dif_pos ⟨c3, by simpa using hr⟩]; rfl)
    unfold GV
    go_enter Try.func11, Try.ntmps11
    go_wp2_with fail
    refine HL.out.mono ?_
    rintro e w1 ⟨v, rfl, hown, hb⟩
    rw [HA.out]
    have hbx := Lib.hid (HS.out.next hB hb)
    have HF1 := Lib.hid (HF.out.below (hb.mono (by simp only [World.size_alloc]; omega)))
    clear hown hb
    have gc2 := cell_of_block (off := 2) hbx.out.blk
    simp at gc2
    obtain ⟨gta, gterms, gtc, gva, gvars, gvc, gra, rules, grc⟩ := g
    dsimp only at hr hlr gc2 c2
    obtain ⟨b, off, hra, hb1, e1, e2, -, e4, -⟩ := hbx.out.gram.rules r hr
    dsimp only at hra e1 e2 e4
    subst hra
    have hr8 := hsm.2 r hr
    dsimp only at hr8
    have hnil := hbx.out.gram.nils r hr
    dsimp only at hnil
    have E4 := Lib.hid e4
    clear e4
    obtain ⟨fb, fo, rfl, hfb, hfc⟩ := HF1.out _ c3
    dsimp only at HE
    have hri : (r : Int) < rules.length := by omega
    have hfi : ((firstV form : Nat) : Int) < form.length := by omega
    generalize firstV form = f at *
    generalize rules[r].left = left at *
    generalize rules[r].right = rg at *
    generalize rules[r].ra = rga at *
    generalize rules[r].rc = rgc at *
    by_cases he : form[f] = left
    · have he' : (form[f] != left) = false := by simp [he]
      have HE2 := Lib.hid (HE.out.trans (if_pos he))
      clear he HE
      go_wp2
      go_quiet (fail)
      have hbx2 := Lib.hid (hbx.out.drewN hB nq)
      have gc2' : (w1.drewN nq).cell? ⟨w.heap.size, 2, none⟩ = some (.slice (some ⟨b, off, none⟩) rules.length grc) := gc2
      have e2' : (w1.drewN nq).cell? ⟨b, off + r * 3 + 1, none⟩ = some (.slice rga rg.length rgc) := e2
      have HF2 : Hid (Ints (w1.drewN nq) B (some ⟨fb, fo, none⟩) form) := HF1
      have E42 : Hid (Ints (w1.drewN nq) B rga rg) := E4
      clear gc2 e1 e2 HF1 E4 hbx HF HL HS hfc he'
      generalize w1.drewN nq = W2 at *
      have hszW := hbx2.out.size
      have hlf : (form.take f).length = f := by simp; omega
      by_cases hcf : cap = f + 1
      · subst hcf
        go_wp2_with (first
          | (at_builtin; (refine append_ints rfl (.const (.slice none 0 0)) (.tmp 43) 26 rfl Try.underlying26 info3 w.heap.size (.slice none 0 0) [] rfl (own_nil _ _) (some ⟨fb, fo, none⟩) _ f (form.take f) rfl hlf.symm (fun h => by cases h) (src_take HF2.out.src f) (by rw [hlf]; simp only [List.length_nil]; omega) (by omega) ?_); intro v1 w2 hown1 hg1; have hb2 := below_grown (base := W2.heap.size) (own_nil _ _) hg1 (Nat.le_refl _); have gc2b := (below_cell hb2 (by omega)).trans gc2'; have e2b := (below_cell hb2 (by omega)).trans e2'; have HG1 := Lib.hid (And.intro hown1 hb2); clear hown1 hb2 hg1)
          | (at_builtin; (refine append_ints rfl (.tmp 45) (.tmp 51) 26 rfl Try.underlying26 info3 w.heap.size v1 ([] ++ form.take f) rfl HG1.out.1 rga rgc rg.length rg rfl rfl hnil (E42.out.below (HG1.out.2.mono (by omega))).src (by rw [List.nil_append, hlf]; omega) (by have := HG1.out.2.size; omega) ?_); intro v2 w3 hown2 hg2; have HG2 := Lib.hid (And.intro hown2 (And.intro (show Below w.heap.size w2 w3 from below_grown HG1.out.1 hg2 (by have := HG1.out.2.size; omega)) (show w2.heap.size ≤ w3.heap.size from hg2.size))); clear hown2 hg2)
          | (at_builtin; (refine append_ints rfl (.tmp 53) (.tmp 57) 26 rfl Try.underlying26 info3 w.heap.size v2 ([] ++ form.take f ++ rg) rfl HG2.out.1 (some ⟨fb, fo, none⟩) _ 0 (form.drop (f + 1)) rfl (by rw [List.length_drop]; omega) (fun h => by cases h) (by rw [List.drop_of_length_le (by omega)]; exact src_nil _ _) (by rw [List.nil_append, List.length_append, hlf, List.length_drop]; omega) (by have := HG1.out.2.size; have := HG2.out.2.2; omega) ?_); intro v3 w4 hown3 hg3; have HG3 := Lib.hid (And.intro hown3 (show Below w.heap.size w3 w4 from below_grown HG2.out.1 hg3 (by have := HG1.out.2.size; have := HG2.out.2.2; omega))); clear hown3 hg3))
        go_ret2
        refine ⟨v3, ?_, ?_, ?_⟩
        · rw [HE2.out]; rfl
        · rw [HE2.out]; exact HG3.out.1
        · exact ((hbx2.out.below.trans (HG1.out.2.mono (by omega))).trans HG2.out.2.1).trans HG3.out.2
      · go_wp2_with (first
          | (at_builtin; (refine append_ints rfl (.const (.slice none 0 0)) (.tmp 43) 26 rfl Try.underlying26 info3 w.heap.size (.slice none 0 0) [] rfl (own_nil _ _) (some ⟨fb, fo, none⟩) _ f (form.take f) rfl hlf.symm (fun h => by cases h) (src_take HF2.out.src f) (by rw [hlf]; simp only [List.length_nil]; omega) (by omega) ?_); intro v1 w2 hown1 hg1; have hb2 := below_grown (base := W2.heap.size) (own_nil _ _) hg1 (Nat.le_refl _); have gc2b := (below_cell hb2 (by omega)).trans gc2'; have e2b := (below_cell hb2 (by omega)).trans e2'; have HG1 := Lib.hid (And.intro hown1 hb2); clear hown1 hb2 hg1)
          | (at_builtin; (refine append_ints rfl (.tmp 45) (.tmp 51) 26 rfl Try.underlying26 info3 w.heap.size v1 ([] ++ form.take f) rfl HG1.out.1 rga rgc rg.length rg rfl rfl hnil (E42.out.below (HG1.out.2.mono (by omega))).src (by rw [List.nil_append, hlf]; omega) (by have := HG1.out.2.size; omega) ?_); intro v2 w3 hown2 hg2; have HG2 := Lib.hid (And.intro hown2 (And.intro (show Below w.heap.size w2 w3 from below_grown HG1.out.1 hg2 (by have := HG1.out.2.size; omega)) (show w2.heap.size ≤ w3.heap.size from hg2.size))); clear hown2 hg2)
          | (at_builtin; (refine append_ints rfl (.tmp 53) (.tmp 57) 26 rfl Try.underlying26 info3 w.heap.size v2 ([] ++ form.take f ++ rg) rfl HG2.out.1 (some ⟨fb, fo + (f + 1), none⟩) _ (form.length - (f + 1)) (form.drop (f + 1)) rfl (by simp) (fun h => by cases h) (src_drop ((HF2.out.below (HG1.out.2.mono (by omega))).below (HG2.out.2.1.mono hB)).src (f + 1)) (by rw [List.nil_append, List.length_append, hlf, List.length_drop]; omega) (by have := HG1.out.2.size; have := HG2.out.2.2; omega) ?_); intro v3 w4 hown3 hg3; have HG3 := Lib.hid (And.intro hown3 (show Below w.heap.size w3 w4 from below_grown HG2.out.1 hg3 (by have := HG1.out.2.size; have := HG2.out.2.2; omega))); clear hown3 hg3))
        go_ret2
        refine ⟨v3, ?_, ?_, ?_⟩
        · rw [HE2.out]; rfl
        · rw [HE2.out]; exact HG3.out.1
        · exact ((hbx2.out.below.trans (HG1.out.2.mono (by omega))).trans HG2.out.2.1).trans HG3.out.2
    · have he' : (form[f] != left) = true := by simp [he]
      have HE2 := Lib.hid (HE.out.trans (if_neg he))
      clear he HE
      go_wp2
      go_quiet (fail)
      go_wp2
      go_ret2
      exact stepPost_err HE2.out (hbx.out.drewN hB _).below
  · have HE := Lib.hid (show stepS g form r = ([], 13) by unfold stepS; rw [if_neg (by omega), dif_neg (fun h => c3 h.1)])
    have HA := Lib.hid (show atV form = -1 by unfold atV; rw [if_neg c3])
    unfold GV
    go_enter Try.func11, Try.ntmps11
    go_wp2_with fail
    refine HL.out.mono ?_
    rintro e w1 ⟨v, rfl, hown, hb⟩
    rw [HA.out]
    have hbx := Lib.hid (HS.out.next hB hb)
    clear hown hb
    have gc2 := cell_of_block (off := 2) hbx.out.blk
    simp at gc2
    go_wp2
    go_ret2
    exact stepPost_err HE.out hbx.out.below
end Go.Proofs.Ytekdciigiogjkaa
