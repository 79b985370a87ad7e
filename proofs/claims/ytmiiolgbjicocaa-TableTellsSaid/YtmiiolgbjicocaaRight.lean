/- That the reference's look at a whole grammar answers. -/
import Derived.Test.YtmiiolgbjicocaaRule
namespace Go.Proofs.Ytmiiolgbjicocaa
open Go.RowKit
/-- A world in which the boxed grammar lies. -/
structure Boxed (w : World) (B : Nat) (g : GramD) (wr : World) : Prop where
  below : Below w.heap.size w wr
  size : w.heap.size < wr.heap.size
  blk : wr.heap[w.heap.size]? = some (.cells #[.slice g.ta g.terms.length g.tc, .slice g.va g.vars.length g.vc, .slice g.ra g.rules.length g.rc] 25 (0, 0))
  gram : GramAt wr B g
theorem boxed_start {w : World} {B : Nat} {g : GramD} (h : GramAt w B g) (hB : B ≤ w.heap.size) : Boxed w B g (w.alloc (.cells #[.slice g.ta g.terms.length g.tc, .slice g.va g.vars.length g.vc, .slice g.ra g.rules.length g.rc] 25)) :=
  ⟨(Below.refl _ _).alloc (Nat.le_refl _) _, by simp, heap_alloc_this _ _, h.below ((Below.refl _ _).alloc hB _)⟩
theorem Boxed.next {w wr w2 : World} {B : Nat} {g : GramD} (h : Boxed w B g wr) (hB : B ≤ w.heap.size) (hb : Below wr.heap.size wr w2) : Boxed w B g w2 :=
  ⟨h.below.trans (hb.mono (by have := h.size; omega)), by have := h.size; have := hb.size; omega, (hb.block _ h.size).trans h.blk, h.gram.below (hb.mono (by have := h.size; omega))⟩
theorem Boxed.drewN {w wr : World} {B : Nat} {g : GramD} (h : Boxed w B g wr) (hB : B ≤ w.heap.size) (n : Nat) : Boxed w B g (wr.drewN n) := h.next hB ⟨rfl, rfl, rfl, Nat.le_refl _, fun _ _ => rfl⟩

set_option maxRecDepth 100000 in
set_option maxHeartbeats 4000000 in
theorem right_any {B : Nat} {g : GramD} {w : World} (h : GramAt w B g) (hB : B ≤ w.heap.size) : Calls Try.prog 26 #[GV g] w (OkB (GramOk g) w) := by
  have HS := Lib.hid (boxed_start h hB)
  have hlt : g.terms.length ≤ 9223372036854775807 := h.lt
  have hlv : g.vars.length ≤ 9223372036854775807 := h.lv
  have hlr : g.rules.length ≤ 9223372036854775807 := h.lr
  have HGV := Lib.hid (show GV g = .agg #[.slice g.ta g.terms.length g.tc, .slice g.va g.vars.length g.vc, .slice g.ra g.rules.length g.rc] from rfl)
  have HR := Lib.hid (fun (wr : World) (hg : GramAt wr B g) (hb : B ≤ wr.heap.size) (k : Nat) (hk : k < g.rules.length) => rule_any hg hb k hk)
  have HCt := Lib.hid (fun (wr : World) (hg : GramAt wr B g) (hb : B ≤ wr.heap.size) (v : Int) => count_any hg hb v)
  have HU := Lib.hid (fun (wr : World) (hg : GramAt wr B g) (hb : B ≤ wr.heap.size) (v : Int) => uses_any hg hb v)
  clear h
  obtain ⟨ta, terms, tc, va, vars, vc, ra, rules, rc⟩ := g
  dsimp only at hlt hlv hlr
  unfold GV
  dsimp only
  by_cases b1 : (vars.length : Int) < 1
  · go_enter Try.func26, Try.ntmps26
    go_wp2
    go_ret
    exact ⟨_, rfl, HS.out.below, fun h => nomatch h⟩
  by_cases b2 : (64 : Int) < vars.length
  · go_enter Try.func26, Try.ntmps26
    go_wp2
    go_ret
    exact ⟨_, rfl, HS.out.below, fun h => nomatch h⟩
  by_cases b3 : (64 : Int) < terms.length
  · go_enter Try.func26, Try.ntmps26
    go_wp2
    go_ret
    exact ⟨_, rfl, HS.out.below, fun h => nomatch h⟩
  by_cases b4 : (256 : Int) < rules.length
  · go_enter Try.func26, Try.ntmps26
    go_wp2
    go_ret
    exact ⟨_, rfl, HS.out.below, fun h => nomatch h⟩
  go_enter Try.func26, Try.ntmps26
  go_wp2
  go_loopw [3] (fun i wr => ∃ k : Nat, k ≤ vars.length ∧ i = .int .i64 k ∧ Boxed w B ⟨ta, terms, tc, va, vars, vc, ra, rules, rc⟩ wr) (fun i _ => vars.length - (intOf i).toNat)
  case atStart => exact ⟨0, by omega, rfl, HS.out⟩
  case round =>
    obtain ⟨k, hk, rfl, hbx⟩ := hrel
    have gc1 := cell_of_block (off := 1) hbx.blk
    simp at gc1
    have HX := Lib.hid hbx
    have hsz := hbx.size
    clear hbx
    by_cases hk2 : k < vars.length
    · have hki : (k : Int) < vars.length := by omega
      obtain ⟨b, off, rfl, hb, hc, hsz2⟩ := HX.out.gram.vars k hk2
      have HN := fun W => Lib.hid (isName_any vars[k] hsz2 W)
      have HP := fun n => Lib.hid (gplace_any (cap := vc) (w := wr.drewN n) ((HX.out.drewN hB n).gram.vars) hlv vars[k])
      generalize nameB vars[k] = nm at *
      generalize placeI vars vars[k] = pl at *
      generalize vars[k] = vk at *
      cases nm
      · go_wp2
        go_quiet ((go_at_call 50; exact Calls.quiet_of_same ((HN _).out.mono (fun _ _ h => ⟨h.1, h.2.symm⟩))))
        go_wp2
        go_ret
        exact ⟨_, rfl, (HX.out.drewN hB _).below, fun h => nomatch h⟩
      · by_cases hpk : pl = (k : Int)
        · have hpk' : (pl != (k : Int)) = false := by simp [hpk]
          clear hpk
          go_wp2
          go_quiet (first | (go_at_call 50; exact Calls.quiet_of_same ((HN _).out.mono (fun _ _ h => ⟨h.1, h.2.symm⟩))) | (go_at_call 51; exact Calls.quiet_of_same ((HP _).out.mono (fun _ _ h => ⟨h.1, h.2.symm⟩))))
          go_wp2
          go_roundw
          case rel => exact ⟨k + 1, by omega, by go_num, HX.out.drewN hB _⟩
          case measure => simp [intOf]; omega
        · have hpk' : (pl != (k : Int)) = true := by simp [hpk]
          clear hpk
          go_wp2
          go_quiet (first | (go_at_call 50; exact Calls.quiet_of_same ((HN _).out.mono (fun _ _ h => ⟨h.1, h.2.symm⟩))) | (go_at_call 51; exact Calls.quiet_of_same ((HP _).out.mono (fun _ _ h => ⟨h.1, h.2.symm⟩))))
          go_wp2
          go_ret
          exact ⟨_, rfl, (HX.out.drewN hB _).below, fun h => nomatch h⟩
    · have hki : ¬ (k : Int) < vars.length := by omega
      clear hk2
      go_wp2
      go_loopw [4] (fun i wr => ∃ k : Nat, k ≤ terms.length ∧ i = .int .i64 k ∧ Boxed w B ⟨ta, terms, tc, va, vars, vc, ra, rules, rc⟩ wr) (fun i _ => terms.length - (intOf i).toNat)
      case atStart => exact ⟨0, by omega, rfl, HX.out⟩
      case round =>
        clear HX gc1 hsz
        obtain ⟨k2, hk2, rfl, hbx⟩ := hrel
        have gc0 := cell_of_block (off := 0) hbx.blk
        simp at gc0
        have HX := Lib.hid hbx
        have hsz := hbx.size
        clear hbx
        by_cases hk3 : k2 < terms.length
        · have hki2 : (k2 : Int) < terms.length := by omega
          obtain ⟨b, off, rfl, hb, hc, hsz2⟩ := HX.out.gram.terms k2 hk3
          have HN := fun W => Lib.hid (isQuote_any terms[k2] hsz2 W)
          generalize quoteB terms[k2] = nm at *
          cases nm
          · go_wp2
            go_quiet ((go_at_call 52; exact Calls.quiet_of_same ((HN _).out.mono (fun _ _ h => ⟨h.1, h.2.symm⟩))))
            go_wp2
            go_ret
            exact ⟨_, rfl, (HX.out.drewN hB _).below, fun h => nomatch h⟩
          · cases k2 with
            | zero =>
              simp only [Nat.add_zero] at hc
              have h00 : (0 : Int) < terms.length := by omega
              go_wp2
              go_quiet ((go_at_call 52; exact Calls.quiet_of_same ((HN _).out.mono (fun _ _ h => ⟨h.1, h.2.symm⟩))))
              go_wp2
              go_roundw
              case rel => exact ⟨1, by omega, by go_num, HX.out.drewN hB _⟩
              case measure => simp [intOf]; omega
            | succ k2 =>
              obtain ⟨b', off', hra', hb', hc', -⟩ := HX.out.gram.terms k2 (by dsimp only; omega)
              simp only [Option.some.injEq, Addr.mk.injEq] at hra'
              obtain ⟨rfl, rfl, -⟩ := hra'
              have hki3 : (k2 : Int) < terms.length := by omega
              dsimp only at hc'
              have HN' := HN
              clear HN
              generalize terms[k2] = t1 at *
              generalize terms[k2 + 1] = t2 at *
              by_cases hz : Op.bytesLess t1.toList t2.toList = true
              · go_wp2
                go_quiet ((go_at_call 52; exact Calls.quiet_of_same ((HN' _).out.mono (fun _ _ h => ⟨h.1, h.2.symm⟩))))
                go_wp2
                go_roundw
                case rel => exact ⟨k2 + 1 + 1, by omega, by go_num, HX.out.drewN hB _⟩
                case measure => simp [intOf]; omega
              · have hz' : Op.bytesLess t1.toList t2.toList = false := by simpa using hz
                clear hz
                go_wp2
                go_quiet ((go_at_call 52; exact Calls.quiet_of_same ((HN' _).out.mono (fun _ _ h => ⟨h.1, h.2.symm⟩))))
                go_wp2
                go_ret
                exact ⟨_, rfl, (HX.out.drewN hB _).below, fun h => nomatch h⟩
        · have hki2 : ¬ (k2 : Int) < terms.length := by omega
          clear hk3
          go_wp2
          go_loopw [5] (fun i wr => ∃ k : Nat, k ≤ rules.length ∧ i = .int .i64 k ∧ Boxed w B ⟨ta, terms, tc, va, vars, vc, ra, rules, rc⟩ wr ∧ Hid (∀ l (h : l < rules.length), l < k → RuleOk vars.length terms.length rules l rules[l].left rules[l].right)) (fun i _ => rules.length - (intOf i).toNat)
          case atStart => exact ⟨0, by omega, rfl, HX.out, fun l _ h => by omega⟩
          case round =>
            clear HX gc0 hsz
            obtain ⟨k3, hk3, rfl, hbx, hrk⟩ := hrel
            have gc0 := cell_of_block (off := 0) hbx.blk
            have gc1 := cell_of_block (off := 1) hbx.blk
            have gc2 := cell_of_block (off := 2) hbx.blk
            simp at gc0 gc1 gc2
            have HX := Lib.hid hbx
            have hsz := hbx.size
            clear hbx
            by_cases hk4 : k3 < rules.length
            · have hki3 : (k3 : Int) < rules.length := by omega
              go_wp2_with (first | (go_at_call 53; refine (HR.out _ HX.out.gram (by omega) k3 hk4).mono ?_; rintro e w' ⟨x, rfl, hbw, hrko⟩; have HRO := Lib.hid hrko; clear hrko; cases x))
              · go_ret
                exact ⟨_, rfl, (HX.out.next hB hbw).below, fun h => nomatch h⟩
              · go_roundw
                case rel =>
                  refine ⟨k3 + 1, by omega, by go_num, HX.out.next hB hbw, fun l h h1 => ?_⟩
                  rcases Nat.lt_or_ge l k3 with h2 | h2
                  · exact hrk.out l h h2
                  · obtain rfl : l = k3 := by omega
                    exact HRO.out trivial
                case measure => simp [intOf]; omega
            · have hki3 : ¬ (k3 : Int) < rules.length := by omega
              have HRK : Hid (∀ l (h : l < rules.length), RuleOk vars.length terms.length rules l rules[l].left rules[l].right) := Lib.hid fun l h => hrk.out l h (by omega)
              clear hk4 hrk
              go_wp2
              go_loopw [6] (fun i wr => ∃ k : Nat, k ≤ vars.length ∧ i = .int .i64 k ∧ Boxed w B ⟨ta, terms, tc, va, vars, vc, ra, rules, rc⟩ wr) (fun i _ => vars.length - (intOf i).toNat)
              case atStart => exact ⟨0, by omega, rfl, HX.out⟩
              case round =>
                clear HX gc0 gc1 gc2 hsz
                obtain ⟨k4, hk4, rfl, hbx⟩ := hrel
                have gc0 := cell_of_block (off := 0) hbx.blk
                have gc1 := cell_of_block (off := 1) hbx.blk
                have gc2 := cell_of_block (off := 2) hbx.blk
                simp at gc0 gc1 gc2
                have HX := Lib.hid hbx
                have hsz := hbx.size
                clear hbx
                by_cases hk5 : k4 < vars.length
                · have hki4 : (k4 : Int) < vars.length := by omega
                  go_wp2_with (first | (go_at_call 54; refine (HCt.out _ HX.out.gram (by omega) _).mono ?_; rintro e w' ⟨x, rfl, hbw⟩; by_cases hx0 : x = 0))
                  · go_ret
                    exact ⟨_, rfl, (HX.out.next hB hbw).below, fun h => nomatch h⟩
                  · go_roundw
                    case rel => exact ⟨k4 + 1, by omega, by go_num, HX.out.next hB hbw⟩
                    case measure => simp [intOf]; omega
                · have hki4 : ¬ (k4 : Int) < vars.length := by omega
                  clear hk5
                  go_wp2
                  go_loopw [7] (fun i wr => ∃ k : Nat, k ≤ terms.length ∧ i = .int .i64 k ∧ Boxed w B ⟨ta, terms, tc, va, vars, vc, ra, rules, rc⟩ wr) (fun i _ => terms.length - (intOf i).toNat)
                  case atStart => exact ⟨0, by omega, rfl, HX.out⟩
                  case round =>
                    clear HX gc0 gc1 gc2 hsz
                    obtain ⟨k5, hk5, rfl, hbx⟩ := hrel
                    have gc0 := cell_of_block (off := 0) hbx.blk
                    have gc1 := cell_of_block (off := 1) hbx.blk
                    have gc2 := cell_of_block (off := 2) hbx.blk
                    simp at gc0 gc1 gc2
                    have HX := Lib.hid hbx
                    have hsz := hbx.size
                    clear hbx
                    by_cases hk6 : k5 < terms.length
                    · have hki5 : (k5 : Int) < terms.length := by omega
                      go_wp2_with (first | (go_at_call 55; refine (HU.out _ HX.out.gram (by omega) _).mono ?_; rintro e w' ⟨x, rfl, hbw⟩; cases x))
                      · go_ret
                        exact ⟨_, rfl, (HX.out.next hB hbw).below, fun h => nomatch h⟩
                      · go_roundw
                        case rel => exact ⟨k5 + 1, by omega, by go_num, HX.out.next hB hbw⟩
                        case measure => simp [intOf]; omega
                    · have hki5 : ¬ (k5 : Int) < terms.length := by omega
                      clear hk6
                      go_wp2
                      go_ret
                      exact ⟨_, rfl, HX.out.below, fun _ => ⟨show 0 < vars.length by omega, HRK.out⟩⟩
end Go.Proofs.Ytmiiolgbjicocaa
