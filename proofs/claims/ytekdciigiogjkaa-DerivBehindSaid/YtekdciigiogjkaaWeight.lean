/- The weight of a derivation: the program's and the reference's. -/
import Derived.Test.YtekdciigiogjkaaSums
import Derived.Test.YtekdciigiogjkaaRStep
import Derived.Deep.RegionLaw
namespace Go.Proofs.Ytekdciigiogjkaa
open Go.RowKit
theorem info46 : (Try.prog.info? 46).map (fun i => (i.zero, i.size, i.bytes)) = some (some (.float .f64 0), 1, 8) := by kernel_rfl
def OwnF (w : World) (base : Nat) (v : Value) (fs : List Nat) : Prop := w.ownsRow base 46 1 v fs.length (fs.map (Value.float .f64))
theorem OwnF.lt {w : World} {base : Nat} {v : Value} {fs : List Nat} (h : OwnF w base v fs) {g : Nat} (hg : v.ownBlock = some g) : g < w.heap.size ∧ base ≤ g := by
  obtain ⟨h1, h2⟩ := h
  rcases h2 with ⟨rfl, _⟩ | ⟨g', cap, cur, rfl, hg', hh, r⟩
  · simp [Value.ownBlock] at hg
  · simp [Value.ownBlock] at hg
    subst hg
    exact ⟨lt_of_block hh, hg'⟩
theorem OwnF.shape {w : World} {base : Nat} {v : Value} {fs : List Nat} (h : OwnF w base v fs) : ∃ a cap, v = .slice a fs.length cap ∧ FloatsAt w w.heap.size a fs ∧ cap ≤ maxLen ∧ fs.length ≤ cap := by
  obtain ⟨h1, h2⟩ := h
  rcases h2 with ⟨rfl, h0⟩ | ⟨g, cap, cur, rfl, hg, hh, hn, hc, hsz, htk⟩
  · have : fs = [] := List.length_eq_zero_iff.1 h0
    subst this
    exact ⟨none, 0, rfl, fun i hi => by simp at hi, by simp, by simp⟩
  · refine ⟨some ⟨g, 0, none⟩, cap, rfl, (fun i hi => ⟨g, 0, rfl, lt_of_block hh, ?_⟩), hc, hn⟩
    have hcc : w.cell? ⟨g, 0 + i, none⟩ = cur[0 + i]? := cell_of_block hh
    rw [hcc, Nat.zero_add]
    have h3 : (cur.toList.take (fs.length * 1))[i]? = (fs.map (Value.float .f64))[i]? := by rw [htk]
    rw [List.getElem?_take, if_pos (by omega), List.getElem?_map, List.getElem?_eq_getElem hi] at h3
    simpa using h3
theorem ownF_row {w : World} {base : Nat} {v : Value} {n : Nat} {fs : List Nat} {us : List Value} (h : w.ownsRow base 46 1 v n us) (hn : n = fs.length) (hu : us = fs.map (Value.float .f64)) : OwnF w base v fs := by
  subst hn hu; exact h
theorem belowF_grown {w wa w' : World} {base : Nat} {v : Value} {fs : List Nat} (h : OwnF w base v fs) (hb : base ≤ w.heap.size) (ha : Below w.heap.size w wa) (hg : wa.grownBy w' v.ownBlock) : Below base w w' :=
  (ha.mono hb).trans ⟨hg.os, hg.tape, hg.output, hg.size, fun k hk => hg.block k (by have := ha.size; omega) (fun e => by have := (h.lt e.symm).2; omega)⟩
def pickW (g : GramD) (rules : List Int) : List Nat := rules.filterMap fun r => if h : 0 ≤ r ∧ r.toNat < g.rules.length then some (g.rules[r.toNat]'h.2).wt else none
theorem pickW_on (g : GramD) (rules : List Int) (k : Nat) (hk : k < rules.length) (r : Nat) (hr : r < g.rules.length) (he : rules[k] = r) : pickW g (rules.take (k + 1)) = pickW g (rules.take k) ++ [g.rules[r].wt] := by
  unfold pickW
  rw [List.take_succ_eq_append_getElem hk, List.filterMap_append, he]
  congr 1
  simp [hr]
theorem pickW_off (g : GramD) (rules : List Int) (k : Nat) (hk : k < rules.length) (he : ¬ (0 ≤ rules[k] ∧ rules[k] < g.rules.length)) : pickW g (rules.take (k + 1)) = pickW g (rules.take k) := by
  unfold pickW
  rw [List.take_succ_eq_append_getElem hk, List.filterMap_append]
  have : ¬ (0 ≤ rules[k] ∧ rules[k].toNat < g.rules.length) := by omega
  simp [this]
theorem pickW_len (g : GramD) (rules : List Int) (k : Nat) : (pickW g (rules.take k)).length ≤ rules.length := by
  unfold pickW
  refine Nat.le_trans (List.length_filterMap_le _ _) ?_
  simp; omega
def WeightPost (fs : List Nat) (w : World) (e : Ending) (w' : World) : Prop := ∃ r, e = .returned (.float .f64 r) ∧ SumIs fs r ∧ Below w.heap.size w w'
set_option maxHeartbeats 2000000 in
theorem weight_any {B : Nat} {g : GramD} {w : World} (h : GramAt w B g) (hB : B ≤ w.heap.size) {a : Option Addr} {cap : Nat} {rules : List Int} (hr : Ints w B a rules) (hl : rules.length ≤ 1000000) :
    Calls Try.prog 22 #[GV g, .slice a rules.length cap] w (WeightPost (pickW g rules) w) := by
  have HS := Lib.hid (boxed_start h hB)
  have HF := Lib.hid hr
  obtain ⟨i0, hi0, hz0, hz1, hz2⟩ := info_parts info46
  have hlr : g.rules.length ≤ 9223372036854775807 := h.lr
  clear h hr
  unfold GV
  go_enter Try.func22, Try.ntmps22
  go_wp2
  go_loopw [5, 10] (fun v i wr => ∃ k : Nat, k ≤ rules.length ∧ i = .int .i64 k ∧ Hid (OwnF wr (w.heap.size + 1) v (pickW g (rules.take k)) ∧ Boxed w B g wr)) (fun _ i _ => rules.length - (intOf i).toNat)
  case atStart => exact ⟨0, by omega, rfl, World.ownsRow_nil _ _ _ _, HS.out⟩
  case round =>
    obtain ⟨k, hk, rfl, hh⟩ := hrel
    by_cases hlt : k < rules.length
    · have hki : (k : Int) < rules.length := by omega
      obtain ⟨b, off, rfl, hb, hc⟩ := (HF.out.below (hh.out.2.below.mono hB)) k hlt
      have gc2 := cell_of_block (off := 2) hh.out.2.blk
      simp at gc2
      have hsz := hh.out.2.size
      by_cases c1 : 0 ≤ rules[k] ∧ rules[k] < g.rules.length
      · obtain ⟨r, hre⟩ : ∃ r : Nat, rules[k] = r := ⟨rules[k].toNat, by omega⟩
        have hr : r < g.rules.length := by omega
        have HP := Lib.hid (pickW_on g rules k hlt r hr hre)
        have hpl := pickW_len g rules k
        rw [hre] at hc
        clear hre c1
        have hri : (r : Int) < g.rules.length := by omega
        have hr0 : (0 : Int) ≤ r := by omega
        obtain ⟨b', off', hra', -, -, -, e3, -, -⟩ := hh.out.2.gram.rules r hr
        obtain ⟨gta, gterms, gtc, gva, gvars, gvc, gra, grules, grc⟩ := g
        dsimp only at hra' e3 hri hlr hr gc2
        subst hra'
        generalize pickW _ (rules.take k) = P at *
        generalize grules[r].wt = y at *
        go_wp2_with (first
          | (at_builtin; (refine wpList_append_lies _ rfl (.tmp 23) (.tmp 30) 63 rfl (w.heap.size + 1) 46 i0 _ 1 8 Try.underlying63 hi0 hz0 hz1 hz2 rfl (by omega) _ P.length _ rfl (hh.out.1.alloc _) ⟨wr.heap.size, 0, none⟩ 1 1 [.float .f64 y] rfl rfl (World.news_of_block (cs := #[.float .f64 y]) (t := 46) (fr := (0, 0)) (heap_alloc_new _ _)) (by simp [Value.oneCell']) (by omega) (by simp only [maxLen]; omega) (by omega) (by simp; omega) (wr.heap.size + 1) (by simp) ?_); intro gg cap' w1 hown1 hgrow hat hlt2))
        go_roundw
        case rel =>
          refine ⟨k + 1, by omega, by go_num, ?_, hh.out.2.next1 hB (belowF_grown hh.out.1 (by omega) ((Below.refl _ _).alloc (Nat.le_refl _) _) hgrow)⟩
          rw [HP.out]
          exact ownF_row hown1 (by simp) (by simp)
        case measure => simp [intOf]; omega
      · have HP := Lib.hid (pickW_off g rules k hlt c1)
        generalize rules[k] = rk at *
        by_cases c2 : rk < 0
        · go_wp2
          go_roundw
          case rel => exact ⟨k + 1, by omega, by go_num, by rw [HP.out]; exact hh.out.1, hh.out.2⟩
          case measure => simp [intOf]; omega
        · have c3 : (g.rules.length : Int) ≤ rk := by omega
          have c0 : (0 : Int) ≤ rk := by omega
          have c4 : ¬ rk < g.rules.length := by omega
          go_wp2
          go_roundw
          case rel => exact ⟨k + 1, by omega, by go_num, by rw [HP.out]; exact hh.out.1, hh.out.2⟩
          case measure => simp [intOf]; omega
    · have hki : ¬ (k : Int) < rules.length := by omega
      have e : rules.take k = rules := List.take_of_length_le (by omega)
      rw [e] at hh
      have hpl := pickW_len g rules rules.length
      rw [List.take_length] at hpl
      obtain ⟨va, vc, rfl, hfl, hcm, hlc⟩ := hh.out.1.shape
      have HX := Lib.hid hh.out.2
      have HSu := Lib.hid (sum_any hfl (by omega) hlc (by simp only [maxLen] at hcm; omega))
      clear hh hfl hcm hlc
      go_wp2_with fail
      refine HSu.out.mono ?_
      rintro e w2 ⟨r, rfl, hs, n, rfl⟩
      have HZ := Lib.hid hs
      clear hs
      go_wp2
      go_ret
      exact ⟨r, rfl, HZ.out, (HX.out.drewN hB n).below⟩
end Go.Proofs.Ytekdciigiogjkaa
