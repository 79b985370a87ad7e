/- The weight of a derivation, as the reference reckons it. -/
import Derived.Test.YtekdciigiogjkaaWeight
namespace Go.Proofs.Ytekdciigiogjkaa
open Go.RowKit
theorem ownF_empty (w : World) {base : Nat} (h : base ≤ w.heap.size) : OwnF (w.alloc (.cells #[] 46)) base (.slice (some ⟨w.heap.size, 0, none⟩) 0 0) [] :=
  ⟨rfl, .inr ⟨w.heap.size, 0, #[], rfl, h, heap_alloc_this _ _, Nat.le_refl _, Nat.zero_le _, rfl, rfl⟩⟩
set_option maxHeartbeats 2000000 in
theorem rweight_any {B : Nat} {g : GramD} {w : World} (h : GramAt w B g) (hB : B ≤ w.heap.size) {a : Option Addr} {cap : Nat} {rules : List Int} (hr : Ints w B a rules) (hl : rules.length ≤ 1000000) :
    Calls Try.prog 23 #[GV g, .slice a rules.length cap] w (WeightPost (pickW g rules) w) := by
  have HS := Lib.hid (boxed_start h hB)
  have HF := Lib.hid hr
  obtain ⟨i0, hi0, hz0, hz1, hz2⟩ := info_parts info46
  have hlr : g.rules.length ≤ 9223372036854775807 := h.lr
  clear h hr
  unfold GV
  go_enter Try.func23, Try.ntmps23
  go_wp2
  go_loopw [5, 6] (fun v i wr => ∃ k : Nat, k ≤ rules.length ∧ i = .int .i64 k ∧ Hid (OwnF wr (w.heap.size + 1) v (pickW g (rules.take k)) ∧ Boxed w B g wr)) (fun _ i _ => rules.length - (intOf i).toNat)
  case atStart => exact ⟨0, by omega, rfl, by have := ownF_empty (w.alloc (.cells #[.slice g.ta g.terms.length g.tc, .slice g.va g.vars.length g.vc, .slice g.ra g.rules.length g.rc] 25)) HS.out.size; simpa [pickW] using this, HS.out.next hB ((Below.refl _ _).alloc (Nat.le_refl _) _)⟩
  case round =>
    obtain ⟨k, hk, rfl, hh⟩ := hrel
    by_cases hlt : k < rules.length
    · have hki : (k : Int) < rules.length := by omega
      have hk0 : (0 : Int) ≤ k := by omega
      obtain ⟨b, off, rfl, hb, hc⟩ := (HF.out.below (hh.out.2.below.mono hB)) k hlt
      have gc2 := cell_of_block (off := 2) hh.out.2.blk
      simp at gc2
      have hsz := hh.out.2.size
      by_cases c1 : 0 ≤ rules[k] ∧ rules[k] < g.rules.length
      · obtain ⟨r, hre⟩ : ∃ r : Nat, rules[k] = r := ⟨rules[k].toNat, by omega⟩
        have hr : r < g.rules.length := by omega
        have HP := Lib.hid (pickW_on g rules k hlt r hr hre)
        have hpl := pickW_len g rules k
        rw [hre] at hc
        clear hre c1
        have hri : (r : Int) < g.rules.length := by omega
        have hr0 : (0 : Int) ≤ r := by omega
        obtain ⟨b', off', hra', hb', -, -, e3, -, -⟩ := hh.out.2.gram.rules r hr
        obtain ⟨gta, gterms, gtc, gva, gvars, gvc, gra, grules, grc⟩ := g
        dsimp only at hra' e3 hri hlr hr gc2
        subst hra'
        generalize pickW _ (rules.take k) = P at *
        generalize grules[r].wt = y at *
        go_wp2
        go_quiet (fail)
        have HR2 := Lib.hid (hh.out.2.drewN hB nq)
        have HO2 : Hid (OwnF (wr.drewN nq) (w.heap.size + 1) u5 P) := hh.out.1
        have hc' : (wr.drewN nq).cell? ⟨b, off + k, none⟩ = some (.int .i64 r) := hc
        have gc2' : (wr.drewN nq).cell? ⟨w.heap.size, 2, none⟩ = some (.slice (some ⟨b', off', none⟩) grules.length grc) := gc2
        have e3' : (wr.drewN nq).cell? ⟨b', off' + r * 3 + 2, none⟩ = some (.float .f64 y) := e3
        have hsz' : w.heap.size < (wr.drewN nq).heap.size := hsz
        clear hc gc2 e3 hsz hh
        generalize wr.drewN nq = W2 at *
        go_wp2
        go_region_law
          ((refine step_append_lies _ (by rfl) (.tmp 29) (.tmp 39) 63 (by rfl) (w.heap.size + 1) 46 i0 _ 1 8 Try.underlying63 hi0 hz0 hz1 hz2 rfl (by omega) _ P.length _ (by rfl) ((HO2.out.alloc _).drew) ⟨W2.heap.size, 0, none⟩ 1 1 [.float .f64 y] (by rfl) (by rfl) (World.news_of_block (cs := #[.float .f64 y]) (t := 46) (fr := (0, 0)) (heap_alloc_new _ _)) (by simp [Value.oneCell']) (by omega) (by simp only [maxLen]; omega) (by omega) (by simp; omega) (W2.heap.size + 1) (by simp) ?_; intro gg cap' w1 hown1 hgrow hat hlt2))
        all_goals
          have HA : Below W2.heap.size W2 (W2.alloc (.cells #[.float .f64 y] 46)).drew := ⟨rfl, rfl, rfl, by simp, fun k hk => Below.heap_alloc _ _ _ hk⟩
          go_wp2
          go_roundw
          case rel =>
            refine ⟨k + 1, by omega, by go_num, ?_, HR2.out.next1 hB (belowF_grown HO2.out (by omega) HA hgrow)⟩
            rw [HP.out]
            exact ownF_row hown1 (by simp) (by simp)
          case measure => simp [intOf]; omega
      · have HP := Lib.hid (pickW_off g rules k hlt c1)
        generalize rules[k] = rk at *
        by_cases c2 : rk < 0
        · have c0 : decide ((0 : Int) ≤ rk) = false := by simp; omega
          go_wp2
          go_quiet (fail)
          go_wp2
          go_roundw
          case rel => exact ⟨k + 1, by omega, by go_num, by rw [HP.out]; exact hh.out.1, hh.out.2.drewN hB _⟩
          case measure => simp [intOf]; omega
        · have c3 : (g.rules.length : Int) ≤ rk := by omega
          have c0 : (0 : Int) ≤ rk := by omega
          have c4 : decide (rk < g.rules.length) = false := by simp; omega
          have c5 : ¬ rk < g.rules.length := by omega
          go_wp2
          go_quiet (fail)
          go_wp2
          go_roundw
          case rel => exact ⟨k + 1, by omega, by go_num, by rw [HP.out]; exact hh.out.1, hh.out.2.drewN hB _⟩
          case measure => simp [intOf]; omega
    · have hki : ¬ (k : Int) < rules.length := by omega
      have e : rules.take k = rules := List.take_of_length_le (by omega)
      rw [e] at hh
      have hpl := pickW_len g rules rules.length
      rw [List.take_length] at hpl
      obtain ⟨va, vc, rfl, hfl, hcm, hlc⟩ := hh.out.1.shape
      have HX := Lib.hid hh.out.2
      have HSu := Lib.hid (rsum_any (cap := vc) hfl (by omega))
      clear hh hfl hcm hlc
      go_wp2_with fail
      refine HSu.out.mono ?_
      rintro e w2 ⟨r, rfl, hs, n, rfl⟩
      have HZ := Lib.hid hs
      clear hs
      go_wp2
      go_ret
      exact ⟨r, rfl, HZ.out, (HX.out.drewN hB n).below⟩
end Go.Proofs.Ytekdciigiogjkaa
