/- A derivation begins; its form read out. -/
import Derived.Test.YtfiafmhnmafnbaaStepRun
namespace Go.Proofs.Ytfiafmhnmafnbaa
open Go.RowKit
def BeginPost (B : Nat) (g : GramD) (form : List Int) (w : World) (e : Ending) (w' : World) : Prop :=
  ∃ rb, e = .returned (.pointer (some ⟨rb, 0, none⟩)) ∧ w.heap.size ≤ rb ∧ Below w.heap.size w w' ∧ RunF B rb g form w'
set_option maxHeartbeats 1000000 in
theorem begin_any {B : Nat} {g : GramD} {w : World} (h : GramAt w B g) (hB : B ≤ w.heap.size) {a : Option Addr} {cap : Nat} {form : List Int} (hf : Ints w B a form) (hl : form.length ≤ 1000000) :
    Calls Try.prog 59 #[GV g, .slice a form.length cap] w (BeginPost B g form w) := by
  have HS := Lib.hid (boxed_start h hB)
  have HF := Lib.hid hf
  clear h hf
  obtain ⟨gta, gterms, gtc, gva, gvars, gvc, gra, rules, grc⟩ := g
  unfold GV
  dsimp only
  go_enter Try.func59, Try.ntmps59
  go_wp2_with fail
  have HR := Lib.hid (show RunAt B (w.heap.size + 1) ⟨gta, gterms, gtc, gva, gvars, gvc, gra, rules, grc⟩ (.slice none 0 0) (.slice none 0 0) [] [] ((w.alloc (.cells #[.slice gta gterms.length gtc, .slice gva gvars.length gvc, .slice gra rules.length grc] 25)).alloc (.cells #[.slice gta gterms.length gtc, .slice gva gvars.length gvc, .slice gra rules.length grc, .slice none 0 0, .slice none 0 0] 107)) from
    ⟨by have := heap_alloc_this (w.alloc (.cells #[.slice gta gterms.length gtc, .slice gva gvars.length gvc, .slice gra rules.length grc] 25)) (.cells #[.slice gta gterms.length gtc, .slice gva gvars.length gvc, .slice gra rules.length grc, .slice none 0 0, .slice none 0 0] 107); simpa using this, own_nil _ _, own_nil _ _, (fun k hk => by simp [Value.ownBlock] at hk), HS.out.gram.below ((Below.refl _ _).alloc (by simp; omega) _), by omega⟩)
  have HB : Hid (Below w.heap.size w ((w.alloc (.cells #[.slice gta gterms.length gtc, .slice gva gvars.length gvc, .slice gra rules.length grc] 25)).alloc (.cells #[.slice gta gterms.length gtc, .slice gva gvars.length gvc, .slice gra rules.length grc, .slice none 0 0, .slice none 0 0] 107))) :=
    ((Below.refl _ _).alloc (Nat.le_refl _) _).alloc (by simp) _
  refine (lay_any HR.out (HF.out.below (HB.out.mono hB)) (by simpa using hl)).mono ?_
  rintro e w2 ⟨rfl, hb2, hr2⟩
  have HB2 := Lib.hid (HB.out.trans (hb2.mono (by omega)))
  have HR2 := Lib.hid hr2
  clear hb2 hr2
  go_wp2
  go_ret
  refine ⟨_, rfl, by omega, HB2.out, runF_of (dn := []) (by simp) (by simp) HR2.out⟩
def FormPost (form : List Int) (w : World) (e : Ending) (w' : World) : Prop :=
  ∃ v, e = .returned v ∧ OwnI w' w.heap.size v form ∧ Below w.heap.size w w'
set_option maxHeartbeats 1000000 in
theorem form_any {B rb : Nat} {g : GramD} {form : List Int} {w : World} (h : RunF B rb g form w) (hl : form.length ≤ 1000000) :
    Calls Try.prog 61 #[.pointer (some ⟨rb, 0, none⟩)] w (FormPost form w) := by
  obtain ⟨dv, lv, hr0⟩ := h
  have HR := Lib.hid hr0
  clear hr0
  have hrb := lt_of_block HR.out.blk
  have HQ := Lib.hid (show form.take (firstV form) ++ (form.drop (firstV form)).reverse.reverse = form by simp)
  have hd1 : (form.take (firstV form)).length ≤ 1000000 := by simp; omega
  have hd2 : (form.drop (firstV form)).reverse.length ≤ 1000000 := by simp; omega
  generalize form.take (firstV form) = dn at *
  generalize (form.drop (firstV form)).reverse = L at *
  have gL := HR.out.cellL
  have gD := HR.out.cellD
  obtain ⟨da, dc, rfl, hdn, hdi, hdc, hdc2⟩ := HR.out.down.shape
  obtain ⟨la, lc, rfl, hln, hli, hlc, hlc2⟩ := HR.out.lown.shape
  have HLI := Lib.hid hli
  have HDI := Lib.hid hdi
  have hdz : da = none → dc = 0 := fun h => (hdn h).1
  clear hli hdi hdn hln hdc2 hlc2 hlc hdc
  go_enter Try.func61, Try.ntmps61
  go_wp2_with (first
    | (at_builtin; (refine append_ints rfl (.const (.slice none 0 0)) (.tmp 8) 26 rfl Try.underlying26 info3 w.heap.size (.slice none 0 0) [] rfl (own_nil _ _) da dc dn.length dn rfl rfl hdz HDI.out.src (by simp only [List.length_nil]; omega) (by omega) ?_); intro v1 w1 hown1 hg1; have hb1 := below_grown (base := w.heap.size) (own_nil _ _) hg1 (Nat.le_refl _); have gL1 := (below_cell hb1 (by omega)).trans gL; have HG1 := Lib.hid (And.intro hown1 hb1); clear hown1 hb1 hg1))
  go_loopw [3, 4] (fun v i wr => ∃ k : Nat, k ≤ L.length ∧ i = .int .i64 ((k : Int) - 1) ∧ Hid (OwnI wr w.heap.size v (dn ++ (L.drop k).reverse) ∧ Below w.heap.size w wr)) (fun _ i _ => (intOf i + 1).toNat)
  case atStart => exact ⟨L.length, by omega, rfl, Lib.hid (by simpa using HG1.out)⟩
  case round =>
    obtain ⟨k, hk, rfl, hh⟩ := hrel
    cases k with
    | succ k =>
      have e1 : ((k + 1 : Nat) : Int) - 1 = (k : Int) := by omega
      rw [e1]
      have hki : (k : Int) < L.length := by omega
      have hk0 : (0 : Int) ≤ (k : Int) := by omega
      obtain ⟨b, off, rfl, hb, hc⟩ := (HLI.out.below hh.out.2) k (by omega)
      have gL2 := (below_cell hh.out.2 hrb).trans gL
      have hsz := hh.out.2.size
      have HE := Lib.hid (rev_on L dn k (by omega))
      have hLl : (dn ++ (L.drop (k + 1)).reverse).length ≤ 2000000 := by simp; omega
      generalize dn ++ (L.drop (k + 1)).reverse = O at *
      clear gL1 gL gD
      go_wp2_with (first
        | (at_builtin; (refine append_ints rfl _ _ 26 rfl Try.underlying26 info3 w.heap.size _ O rfl (hh.out.1.alloc _) (some ⟨_, 0, none⟩) 1 1 [L[k]] rfl rfl (fun h => by cases h) (src_one _ _ _) (by simp only [List.length_singleton]; omega) (by simp only [World.size_alloc]; omega) ?_); intro v' w4 hown hgrow))
      go_roundw
      case rel => exact ⟨k, by omega, by go_num, by rw [← HE.out]; exact hown, (hh.out.2.alloc hsz _).trans (below_grown (hh.out.1.alloc _) hgrow (by simp only [World.size_alloc]; omega))⟩
      case measure => simp [intOf]
    | zero =>
      have e0 : ((0 : Nat) : Int) - 1 = -1 := by omega
      rw [e0]
      clear gL1 gL gD
      go_wp2
      go_ret
      exact ⟨_, rfl, by rw [← HQ.out]; simpa using hh.out.1, hh.out.2⟩
end Go.Proofs.Ytfiafmhnmafnbaa
