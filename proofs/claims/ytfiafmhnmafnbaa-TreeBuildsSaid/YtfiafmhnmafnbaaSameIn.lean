/- Whether two trees in memory are the same. -/
import Derived.Test.YtfiafmhnmafnbaaValid
namespace Go.Proofs.Ytfiafmhnmafnbaa
open Go.RowKit
noncomputable def eqb {α : Type} (a b : α) : Bool := @decide (a = b) (Classical.propDecidable _)
theorem eqb_true {α : Type} {a b : α} (h : a = b) : eqb a b = true := @decide_eq_true _ (Classical.propDecidable _) h
theorem eqb_false {α : Type} {a b : α} (h : a ≠ b) : eqb a b = false := @decide_eq_false _ (Classical.propDecidable _) h
theorem eqb_iff {α : Type} {a b : α} : eqb a b = true ↔ a = b := ⟨fun h => @of_decide_eq_true _ (Classical.propDecidable _) h, eqb_true⟩
def QPost (b : Bool) (w : World) (e : Ending) (w' : World) : Prop := e = .returned (.bool b) ∧ ∃ n, w' = w.drewN n
/-- The function value that slices.EqualFunc is handed. -/
theorem same1_any {p q : Value} {b : Bool} {w : World} (h : Calls Try.prog 21 #[p, q] w (QPost b w)) : Calls Try.prog 42 #[p, q] w (QPost b w) := by
  have H := Lib.hid h
  clear h
  go_enter Try.func42, Try.ntmps42
  go_wp2_with (first | (go_at_call 21; refine H.out.mono ?_; rintro e w' ⟨rfl, n, rfl⟩))
  go_ret
  exact ⟨rfl, n, rfl⟩
theorem kids_read {w : World} {lo b : Nat} {v : Value} {s r : Int} {kids : List MT} (h : MT.At w lo (.node b v s r kids)) :
    ∃ a cap, v = .slice a kids.length cap ∧ ∀ i (hi : i < kids.length), ∃ g, a = some ⟨g, 0, none⟩ ∧ w.cell? ⟨g, i, none⟩ = some kids[i].ptr := by
  obtain ⟨a, cap, h1, _, _, _, h2⟩ := h.reads
  exact ⟨a, cap, h1, h2⟩
set_option maxHeartbeats 1000000 in
theorem eqfunc_any {a b : Option Addr} {ca cb : Nat} {ks ls : List MT} {w : World} (hl1 : ks.length ≤ 1000000)
    (ha : ∀ i (hi : i < ks.length), ∃ g, a = some ⟨g, 0, none⟩ ∧ w.cell? ⟨g, i, none⟩ = some ks[i].ptr) (hb : ∀ i (hi : i < ls.length), ∃ g, b = some ⟨g, 0, none⟩ ∧ w.cell? ⟨g, i, none⟩ = some ls[i].ptr)
    (hc : ∀ i (hi : i < ks.length) (hj : i < ls.length) n, Calls Try.prog 21 #[ks[i].ptr, ls[i].ptr] (w.drewN n) (QPost (eqb ks[i].pt ls[i].pt) (w.drewN n))) :
    Calls Try.prog 41 #[.slice a ks.length ca, .slice b ls.length cb, .func (.func 42) #[] #[]] w (QPost (eqb (ks.map MT.pt) (ls.map MT.pt)) w) := by
  have HA := Lib.hid ha
  have HB := Lib.hid hb
  have HC := Lib.hid (fun i hi hj n => same1_any (hc i hi hj n))
  clear ha hb hc
  by_cases hl : ks.length = ls.length
  · have hl' : ((ks.length : Int) != (ls.length : Int)) = false := by simp [hl]
    have HL := Lib.hid hl
    clear hl
    go_enter Try.func41, Try.ntmps41
    go_wp2
    go_loopw [17] (fun i wr => ∃ k n : Nat, k ≤ ks.length ∧ i = .int .i64 k ∧ wr = w.drewN n ∧ Hid ((ks.take k).map MT.pt = (ls.take k).map MT.pt)) (fun i _ => ks.length - (intOf i).toNat)
    case atStart => exact ⟨0, 0, by omega, rfl, rfl, rfl⟩
    case round =>
      obtain ⟨k, n, hk, rfl, rfl, HT⟩ := hrel
      by_cases hlt : k < ks.length
      · have hlt2 : k < ls.length := by rw [← HL.out]; exact hlt
        obtain ⟨g1, rfl, hc1⟩ := HA.out k hlt
        obtain ⟨g2, rfl, hc2⟩ := HB.out k hlt2
        have hi1 : (k : Int) < ks.length := by omega
        have hi2 : (k : Int) < ls.length := by omega
        have HQ := Lib.hid (HC.out k hlt hlt2 n)
        have HT1 : Hid (ks[k].pt = ls[k].pt → (ks.take (k + 1)).map MT.pt = (ls.take (k + 1)).map MT.pt) := Lib.hid fun h => by
          rw [List.take_succ_eq_append_getElem hlt, List.take_succ_eq_append_getElem hlt2, List.map_append, List.map_append, HT.out]
          simp [h]
        have HT2 : Hid (ks[k].pt ≠ ls[k].pt → eqb (ks.map MT.pt) (ls.map MT.pt) = false) := Lib.hid fun h => eqb_false fun e => h (by
          have := congrArg (fun l => l[k]?) e
          simpa [hlt, hlt2] using this)
        dsimp only [MT.ptr] at hc1 hc2 HQ
        generalize (ks[k]'hlt).blk = kb at hc1 HQ
        generalize (ls[k]'hlt2).blk = lb at hc2 HQ
        generalize hq : eqb (ks[k]'hlt).pt (ls[k]'hlt2).pt = q at HQ
        have HQE := Lib.hid hq
        clear hq
        cases q
        · have HF := Lib.hid (HT2.out (fun h => by have := HQE.out; rw [eqb_true h] at this; cases this))
          go_wp2_with (first | (go_at_call 42; refine HQ.out.mono ?_; rintro e w' ⟨rfl, m, rfl⟩))
          go_ret
          exact ⟨by rw [HF.out]; rfl, _, rfl⟩
        · have HF := Lib.hid (HT1.out (eqb_iff.1 HQE.out))
          go_wp2_with (first | (go_at_call 42; refine HQ.out.mono ?_; rintro e w' ⟨rfl, m, rfl⟩))
          go_roundw
          case rel => exact ⟨k + 1, _, by omega, by go_num, rfl, HF⟩
          case measure => simp [intOf]; omega
      · have hi1 : ¬ (k : Int) < ks.length := by omega
        have HD := Lib.hid (show eqb (ks.map MT.pt) (ls.map MT.pt) = true from eqb_true (by
          have := HT.out
          rw [List.take_of_length_le (by omega), List.take_of_length_le (by have := HL.out; omega)] at this
          exact this))
        go_wp2
        go_ret
        exact ⟨by rw [HD.out]; rfl, _, rfl⟩
  · have hl' : ((ks.length : Int) != (ls.length : Int)) = true := by simp; omega
    have HD := Lib.hid (show eqb (ks.map MT.pt) (ls.map MT.pt) = false from eqb_false (fun h => hl (by have := congrArg List.length h; simpa using this)))
    clear hl
    go_enter Try.func41, Try.ntmps41
    go_wp2
    go_ret
    exact ⟨by rw [HD.out]; rfl, 0, rfl⟩
theorem eqb_node {s r s' r' : Int} {ks ls : List PT} : eqb (PT.node s r ks) (PT.node s' r' ls) = (decide (s = s') && (decide (r = r') && eqb ks ls)) := by
  by_cases h1 : s = s'
  · by_cases h2 : r = r'
    · subst h1 h2
      simp only [decide_true, Bool.true_and]
      by_cases h3 : ks = ls
      · rw [eqb_true h3, eqb_true (by rw [h3])]
      · rw [eqb_false h3, eqb_false (fun h => h3 (PT.node.inj h).2.2)]
    · rw [eqb_false (fun h => h2 (PT.node.inj h).2.1)]; simp [h2]
  · rw [eqb_false (fun h => h1 (PT.node.inj h).1)]; simp [h1]
set_option maxHeartbeats 2000000 in
/-- (*Node).Same -/
theorem sameN_any (t : MT) : ∀ (u : MT) {w : World} {lo lo2 : Nat}, MT.At w lo t → MT.At w lo2 u → t.pt.size ≤ 100000 → u.pt.size ≤ 100000 → Calls Try.prog 21 #[t.ptr, u.ptr] w (QPost (eqb t.pt u.pt) w) := by
  induction t using MT.ind with | h b v s r kids ih => ?_
  rintro ⟨b2, v2, s2, r2, kids2⟩ w lo lo2 ht hu hts hus
  obtain ⟨a, cap, rfl, hc⟩ := kids_read ht
  obtain ⟨a2, cap2, rfl, hc2⟩ := kids_read hu
  rw [MT.pt_node, PT.size] at hts hus
  have hkl : kids.length ≤ 100000 := by have := PT.len_le (kids.map MT.pt); simp at this; omega
  have hkl2 : kids2.length ≤ 100000 := by have := PT.len_le (kids2.map MT.pt); simp at this; omega
  have HE : ∀ n, Hid (Calls Try.prog 41 #[.slice a kids.length cap, .slice a2 kids2.length cap2, .func (.func 42) #[] #[]] (w.drewN n) (QPost (eqb (kids.map MT.pt) (kids2.map MT.pt)) (w.drewN n))) := fun n =>
    Lib.hid (eqfunc_any (by omega) hc hc2 (fun i hi hj m => by
      rw [World.drewN_drewN]
      exact ih _ (List.getElem_mem hi) _ ((ht.kid (List.getElem_mem hi)).drewN _) ((hu.kid (List.getElem_mem hj)).drewN _) (by have := PT.size_le (List.mem_map_of_mem (f := MT.pt) (List.getElem_mem hi)); omega) (by have := PT.size_le (List.mem_map_of_mem (f := MT.pt) (List.getElem_mem hj)); omega)))
  have g0 := cell_of_block (off := 0) ht.2.1
  have g1 := cell_of_block (off := 1) ht.2.1
  have g2 := cell_of_block (off := 2) ht.2.1
  have k0 := cell_of_block (off := 0) hu.2.1
  have k1 := cell_of_block (off := 1) hu.2.1
  have k2 := cell_of_block (off := 2) hu.2.1
  simp only [List.getElem?_toArray, List.getElem?_cons_succ, List.getElem?_cons_zero] at g0 g1 g2 k0 k1 k2
  rw [MT.pt_node, MT.pt_node, eqb_node]
  dsimp only [MT.ptr, MT.blk]
  clear ih ht hu hc hc2 hts hus
  generalize eqb (kids.map MT.pt) (kids2.map MT.pt) = q at *
  by_cases h1 : s = s2
  · have h1' : (s == s2) = true := by simp [h1]
    by_cases h2 : r = r2
    · have h2' : (r == r2) = true := by simp [h2]
      have HF := Lib.hid (show (decide (s = s2) && (decide (r = r2) && q)) = q by simp [h1, h2])
      clear h1 h2
      go_enter Try.func21, Try.ntmps21
      go_wp2
      go_quiet ((go_at_call 41; exact quiet_to (HE _).out))
      go_wp2
      go_ret
      exact ⟨by rw [HF.out]; rfl, _, rfl⟩
    · have h2' : (r == r2) = false := by simp [h2]
      have HF := Lib.hid (show (decide (s = s2) && (decide (r = r2) && q)) = false by simp [h2])
      clear h1 h2
      go_enter Try.func21, Try.ntmps21
      go_wp2
      go_quiet (fail)
      go_wp2
      go_ret
      exact ⟨by rw [HF.out]; rfl, _, rfl⟩
  · have h1' : (s == s2) = false := by simp [h1]
    have HF := Lib.hid (show (decide (s = s2) && (decide (r = r2) && q)) = false by simp [h1])
    clear h1
    go_enter Try.func21, Try.ntmps21
    go_wp2
    go_quiet (fail)
    go_wp2
    go_ret
    exact ⟨by rw [HF.out]; rfl, _, rfl⟩
end Go.Proofs.Ytfiafmhnmafnbaa
