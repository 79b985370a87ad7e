/- A derivation under way: one step of it. -/
import Derived.Test.YtfiafmhnmafnbaaLay
namespace Go.Proofs.Ytfiafmhnmafnbaa
open Go.RowKit
/-- The state that stands for a form. -/
def RunF (B rb : Nat) (g : GramD) (form : List Int) (w : World) : Prop := ∃ dv lv, RunAt B rb g dv lv (form.take (firstV form)) (form.drop (firstV form)).reverse w
theorem firstV_behind (a b : List Int) (h : ∀ x ∈ a, x < 0) : firstV (a ++ b) = a.length + firstV b := by
  induction a with
  | nil => simp [firstV]
  | cons x t ih =>
    have hx : isv x = false := by have := h x (by simp); simp [isv]; omega
    have ih' := ih (fun y hy => h y (by simp [hy]))
    unfold firstV at ih' ⊢
    rw [List.cons_append, List.findIdx_cons, hx]
    simp only [cond_false, List.length_cons]
    omega
theorem head_terms (form : List Int) : ∀ x ∈ form.take (firstV form), x < 0 := by
  intro x hx
  obtain ⟨i, hi, rfl⟩ := List.getElem_of_mem hx
  have h1 : i < firstV form := by simp at hi; omega
  rw [List.getElem_take]
  have := List.not_of_lt_findIdx (p := isv) (xs := form) h1
  simp [isv] at this
  exact this
theorem runF_of {B rb : Nat} {g : GramD} {dn rem form : List Int} {w : World} (hd : ∀ x ∈ dn, x < 0) (hf : form = dn ++ rem) (h : ∃ dv lv, RunAt B rb g dv lv (dn ++ rem.take (firstV rem)) (rem.drop (firstV rem)).reverse w) : RunF B rb g form w := by
  obtain ⟨dv, lv, h⟩ := h
  refine ⟨dv, lv, ?_⟩
  have e1 : dn.take (dn.length + firstV rem) = dn := List.take_of_length_le (by omega)
  have e2 : dn.drop (dn.length + firstV rem) = [] := List.drop_of_length_le (by omega)
  have e3 : dn.length + firstV rem - dn.length = firstV rem := by omega
  rw [hf, firstV_behind dn rem hd, List.take_append, List.drop_append, e1, e2, e3, List.nil_append]
  exact h
def StepRPost (B rb : Nat) (g : GramD) (r : List Int × Int) (w : World) (e : Ending) (w' : World) : Prop :=
  e = .returned (.int .i64 r.2) ∧ Below rb w w' ∧ (r.2 = 0 → RunF B rb g r.1 w')
theorem stepR_err {B rb : Nat} {g : GramD} {r : List Int × Int} {n : Int} {w w' : World} (h : r = ([], n)) (hn : n ≠ 0) (hb : Below rb w w') : StepRPost B rb g r w (.returned (.int .i64 n)) w' := by
  subst h
  exact ⟨rfl, hb, fun h => (hn h).elim⟩
set_option maxRecDepth 100000 in
set_option maxHeartbeats 4000000 in
theorem stepR_any {B rb : Nat} {g : GramD} {form : List Int} {w : World} (h : RunF B rb g form w) (hsm : Small g) (hl : form.length ≤ 400000) (rule : Int) :
    Calls Try.prog 60 #[.pointer (some ⟨rb, 0, none⟩), .int .i64 rule] w (StepRPost B rb g (stepS g form rule) w) := by
  obtain ⟨dv, lv, hr0⟩ := h
  have HR := Lib.hid hr0
  clear hr0
  have hlr : g.rules.length ≤ 24 := hsm.1
  have hrb := lt_of_block HR.out.blk
  have gG := HR.out.cellG
  by_cases c1 : rule < 0
  · have HE := Lib.hid (show stepS g form rule = ([], 12) by unfold stepS; rw [if_pos (.inl c1)])
    go_enter Try.func60, Try.ntmps60
    go_wp2
    go_ret
    exact stepR_err HE.out (by decide) (Below.refl _ _)
  by_cases c2 : (g.rules.length : Int) ≤ rule
  · have HE := Lib.hid (show stepS g form rule = ([], 12) by unfold stepS; rw [if_pos (.inr c2)])
    go_enter Try.func60, Try.ntmps60
    go_wp2
    go_ret
    exact stepR_err HE.out (by decide) (Below.refl _ _)
  obtain ⟨r, rfl⟩ : ∃ r : Nat, rule = r := ⟨rule.toNat, by omega⟩
  have hr : r < g.rules.length := by omega
  have hrn : decide (g.rules.length ≤ r) = false := by simp; omega
  have hrz : decide ((r : Int) < 0) = false := by simp
  by_cases c3 : firstV form < form.length
  · have HE := Lib.hid (show stepS g form r = if form[firstV form] = g.rules[r].left then (form.take (firstV form) ++ g.rules[r].right ++ form.drop (firstV form + 1), 0) else ([], 14) by
      unfold stepS; rw [if_neg (by omega), dif_pos ⟨c3, by simpa using hr⟩]; rfl)
    obtain ⟨n, hn⟩ : ∃ n, form.length - firstV form = n + 1 := ⟨form.length - firstV form - 1, by omega⟩
    have hM : (form.drop (firstV form)).reverse.length = n + 1 := by simp; omega
    have hx : (form.drop (firstV form)).reverse[n]'(by omega) = form[firstV form] := by
      rw [List.getElem_reverse, List.getElem_drop]
      congr 1
      simp only [List.length_drop]
      omega
    have HT2 := Lib.hid (show (form.drop (firstV form)).reverse.take n = (form.drop (firstV form + 1)).reverse by
      have e : (form.drop (firstV form)).reverse = (form.drop (firstV form + 1)).reverse ++ [form[firstV form]] := by rw [List.drop_eq_getElem_cons c3, List.reverse_cons]
      have el : (form.drop (firstV form + 1)).reverse.length = n := by simp; omega
      rw [e, List.take_append_of_le_length (by omega), List.take_of_length_le (by omega)])
    have HD := Lib.hid (head_terms form)
    obtain ⟨la, lc, rfl, hln, hli, hlc, hlc2⟩ := HR.out.lown.shape
    obtain ⟨lb, lo, rfl, hlb, hlx⟩ := hli n (by omega)
    rw [hx] at hlx
    have gL := HR.out.cellL
    rw [hM] at gL
    have fL : w.frozen? ⟨rb, 4, none⟩ = false := free_of_block HR.out.blk
    have hn0 : (0 : Int) < ((n + 1 : Nat) : Int) := by omega
    have hn1 : ((n + 1 : Nat) : Int) - 1 = (n : Int) := by omega
    have hn2 : (n : Int) < ((n + 1 : Nat) : Int) := by omega
    have hn3 : (0 : Int) ≤ (n : Int) := by omega
    have hn5 : (n : Int) < (n : Int) + 1 := by omega
    have hnc : n + 1 ≤ lc := by omega
    have hwr : IntKind.i64.wrap (n : Int) = (n : Int) := by have := hlc; simp only [maxLen] at this; simp [IntKind.wrap, IntKind.bits]; omega
    obtain ⟨b, off, hra, hb1, e1, e2, -, e4, -⟩ := HR.out.gram.rules r hr
    have HR0 : Hid (RunAt B rb g dv (.slice (some ⟨lb, lo, none⟩) (n + 1) lc) (form.take (firstV form)) (form.drop (firstV form)).reverse w) := by rw [← hM]; exact HR
    have hr8 := hsm.2 r hr
    have hri : (r : Int) < g.rules.length := by omega
    have hdl : (form.take (firstV form)).length ≤ form.length ∧ (form.drop (firstV form + 1)).reverse.length ≤ form.length := by simp; omega
    clear hM hx hln hli hlc hlc2 HR
    by_cases he : form[firstV form] = g.rules[r].left
    · have he' : (form[firstV form] != g.rules[r].left) = false := by simp [he]
      have HE2 := Lib.hid (HE.out.trans (if_pos he))
      obtain ⟨gta, gterms, gtc, gva, gvars, gvc, gra, rules, grc⟩ := g
      dsimp only at hra e1 e2 e4 hri hlr gG he' hr hrn hr8 HE2
      subst hra
      clear he HE
      have HQ := Lib.hid (show form.take (firstV form) ++ rules[r].right ++ form.drop (firstV form + 1) = form.take (firstV form) ++ (rules[r].right ++ (form.drop (firstV form + 1)).reverse.reverse) by rw [List.append_assoc, List.reverse_reverse])
      generalize form[firstV form] = x at *
      generalize rules[r].left = left at *
      generalize rules[r].right = rg at *
      generalize rules[r].ra = rga at *
      generalize rules[r].rc = rgc at *
      generalize form.take (firstV form) = dn at *
      generalize (form.drop (firstV form)).reverse = M at *
      go_enter Try.func60, Try.ntmps60
      go_wp2
      go_quiet (fail)
      have HR1 := Lib.hid (HR0.out.next (w' := w.drewN nq) ⟨rfl, rfl, rfl, Nat.le_refl _, fun _ _ => rfl⟩)
      have HB1 : Hid (Below rb w (w.drewN nq)) := ⟨rfl, rfl, rfl, Nat.le_refl _, fun _ _ => rfl⟩
      have e2' : (w.drewN nq).cell? ⟨b, off + r * 3 + 1, none⟩ = some (.slice rga rg.length rgc) := e2
      have E4 : Hid (Ints (w.drewN nq) B rga rg) := e4
      have gL' := HR1.out.cellL
      have fL' : (w.drewN nq).frozen? ⟨rb, 4, none⟩ = false := free_of_block HR1.out.blk
      have gG' := HR1.out.cellG
      have hrb' := lt_of_block HR1.out.blk
      clear e1 e2 e4 gL fL gG hrb hlx hlb he' HR0
      generalize w.drewN nq = W2 at *
      go_wp2
      go_region
      have HR3 := Lib.hid (HR1.out.pop.drew)
      have HB3 : Hid (Below rb w (W2.setCell ⟨rb, 4, none⟩ (.slice (some ⟨lb, lo, none⟩) n lc)).drew) := (HB1.out.trans (run_slot _)).drew
      have e3 : (W2.setCell ⟨rb, 4, none⟩ (.slice (some ⟨lb, lo, none⟩) n lc)).drew.cell? ⟨b, off + r * 3 + 1, none⟩ = some (.slice rga rg.length rgc) := by
        have := HR1.out.low
        have hbel : Below rb W2 (W2.setCell ⟨rb, 4, none⟩ (.slice (some ⟨lb, lo, none⟩) n lc)).drew := (run_slot _).drew
        rw [below_cell hbel (by omega)]; exact e2'
      have E5 : Hid (Ints (W2.setCell ⟨rb, 4, none⟩ (.slice (some ⟨lb, lo, none⟩) n lc)).drew B rga rg) := by
        have := HR1.out.low
        have hbel : Below rb W2 (W2.setCell ⟨rb, 4, none⟩ (.slice (some ⟨lb, lo, none⟩) n lc)).drew := (run_slot _).drew
        exact E4.out.below (hbel.mono (by omega))
      rw [HT2.out] at HR3
      clear e2' E4 gL' fL' gG' hrb' HR1 HB1
      generalize (W2.setCell ⟨rb, 4, none⟩ (.slice (some ⟨lb, lo, none⟩) n lc)).drew = W3 at *
      have gG := HR3.out.cellG
      generalize hdrop : (form.drop (firstV form + 1)).reverse = M2 at *
      clear hdrop
      go_wp2_with fail
      refine (lay_any HR3.out E5.out (by omega)).mono ?_
      rintro e w3 ⟨rfl, hb3, hrun⟩
      have HX := Lib.hid (And.intro hb3 hrun)
      clear hb3 hrun
      go_wp2
      go_ret
      refine ⟨by rw [HE2.out]; rfl, HB3.out.trans HX.out.1, fun _ => ?_⟩
      rw [HE2.out]
      exact runF_of HD.out HQ.out HX.out.2
    · have he' : (form[firstV form] != g.rules[r].left) = true := by simp [he]
      have HE2 := Lib.hid (HE.out.trans (if_neg he))
      obtain ⟨gta, gterms, gtc, gva, gvars, gvc, gra, rules, grc⟩ := g
      dsimp only at hra e1 e2 e4 hri hlr gG he' hr hrn
      subst hra
      clear he HE
      generalize form[firstV form] = x at *
      generalize rules[r].left = left at *
      go_enter Try.func60, Try.ntmps60
      go_wp2
      go_quiet (fail)
      go_wp2
      go_ret
      exact stepR_err HE2.out (by decide) ⟨rfl, rfl, rfl, Nat.le_refl _, fun _ _ => rfl⟩
  · have HE := Lib.hid (show stepS g form r = ([], 13) by unfold stepS; rw [if_neg (by omega), dif_neg (fun h => c3 h.1)])
    have hM : (form.drop (firstV form)).reverse.length = 0 := by simp; omega
    obtain ⟨la, lc, rfl, hln, hli, hlc, hlc2⟩ := HR.out.lown.shape
    have gL := HR.out.cellL
    rw [hM] at gL
    clear hln hli hlc hlc2
    go_enter Try.func60, Try.ntmps60
    go_wp2
    go_ret
    exact stepR_err HE.out (by decide) (Below.refl _ _)
end Go.Proofs.Ytfiafmhnmafnbaa
