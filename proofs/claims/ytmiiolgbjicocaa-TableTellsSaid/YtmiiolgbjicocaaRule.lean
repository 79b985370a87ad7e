/- That the reference's look at a rule answers. -/
import Derived.Test.YtmiiolgbjicocaaRules
import Derived.Test.YtmiiolgbjicocaaNt
import Derived.Test.YtmiiolgbjicocaaQuietTail
import Derived.Laws.Entries
namespace Go.Proofs.Ytmiiolgbjicocaa
open Go.RowKit
theorem run_store_float (P : Program) (w : World) (a : Addr) (m : Mode) (k : FloatKind) (b : Nat) : (store a (.float k b) m).run P w = stored P w a (.float k b) m := run_store P w a _ m rfl
attribute [local go_sem] run_store_float
set_option maxRecDepth 100000 in
set_option maxHeartbeats 1000000 in
theorem rule_zero {B : Nat} {g : GramD} {w : World} (h : GramAt w B g) (hB : B ≤ w.heap.size) (hk : 0 < g.rules.length) : Calls Try.prog 53 #[GV g, .int .i64 0] w (OkB (RuleOk g.vars.length g.terms.length g.rules 0 g.rules[0].left g.rules[0].right) w) := by
  obtain ⟨ta, terms, tc, va, vars, vc, ra, rules, rc⟩ := g
  have hlr : rules.length ≤ 9223372036854775807 := h.lr
  have hlv : vars.length ≤ 9223372036854775807 := h.lv
  have hlt : terms.length ≤ 9223372036854775807 := h.lt
  dsimp only at hk
  have hg := (h.below ((Below.refl _ _).alloc hB (.cells #[.slice ta terms.length tc, .slice va vars.length vc, .slice ra rules.length rc] 25))).rules
  have HG := Lib.hid hg
  obtain ⟨b, off, hra, hb, h1, h2, h3, h4, h5⟩ := hg 0 hk
  dsimp only at hra
  subst hra
  have hik : (0 : Int) < rules.length := by omega
  have H4 := Lib.hid h4
  clear h hg h4
  unfold GV
  dsimp only at h1 h2 h3 h5 ⊢
  simp only [Nat.zero_mul, Nat.add_zero] at h1 h2 h3
  generalize rules[0].ra = xa at *
  generalize rules[0].right = xs at *
  generalize rules[0].rc = xc at *
  generalize rules[0].left = left at *
  generalize rules[0].wt = wt at *
  go_enter Try.func53, Try.ntmps53
  go_wp2_with fail
  have k0 := heap_alloc_this w (.cells #[.slice ta terms.length tc, .slice va vars.length vc, .slice (some ⟨b, off, none⟩) rules.length rc] 25)
  have k1 := heap_alloc_keep (o := .cells #[.int .i64 left, .slice xa xs.length xc, .float .f64 wt] 64) k0
  have k2 := heap_alloc_this (w.alloc (.cells #[.slice ta terms.length tc, .slice va vars.length vc, .slice (some ⟨b, off, none⟩) rules.length rc] 25)) (.cells #[.int .i64 left, .slice xa xs.length xc, .float .f64 wt] 64)
  rw [World.size_alloc] at k2
  have hbel : Below w.heap.size w ((w.alloc (.cells #[.slice ta terms.length tc, .slice va vars.length vc, .slice (some ⟨b, off, none⟩) rules.length rc] 25)).alloc (.cells #[.int .i64 left, .slice xa xs.length xc, .float .f64 wt] 64)) :=
    ((Below.refl _ _).alloc (Nat.le_refl _) _).alloc (by simp) _
  have hG2 := HG.out.below ((Below.refl _ _).alloc (B := B) (w := (w.alloc (.cells #[.slice ta terms.length tc, .slice va vars.length vc, .slice (some ⟨b, off, none⟩) rules.length rc] 25))) (by simp; omega) (.cells #[.int .i64 left, .slice xa xs.length xc, .float .f64 wt] 64))
  have HBB := Lib.hid ((Below.refl _ _).alloc (B := B) (w := (w.alloc (.cells #[.slice ta terms.length tc, .slice va vars.length vc, .slice (some ⟨b, off, none⟩) rules.length rc] 25))) (by simp; omega) (.cells #[.int .i64 left, .slice xa xs.length xc, .float .f64 wt] 64))
  have HG2 := Lib.hid hG2
  have HB := Lib.hid hbel
  generalize ((w.alloc (.cells #[.slice ta terms.length tc, .slice va vars.length vc, .slice (some ⟨b, off, none⟩) rules.length rc] 25)).alloc (.cells #[.int .i64 left, .slice xa xs.length xc, .float .f64 wt] 64)) = W at *
  clear h1 h2 h3 hG2 hbel HG
  have K1 := Lib.hid k1
  have K2 := Lib.hid k2
  clear k0 k1 k2
  refine wp_region_quiet_tail 36 (by kernel_rfl) (by kernel_rfl) ?_
  intro W1 hW1
  have hbW : Below W.heap.size W W1 := by rw [hW1]; exact ⟨rfl, rfl, rfl, Nat.le_refl _, fun _ _ => rfl⟩
  have k1 : W1.heap[w.heap.size]? = some (.cells #[.slice ta terms.length tc, .slice va vars.length vc, .slice (some ⟨b, off, none⟩) rules.length rc] 25 (0, 0)) := by rw [hW1]; exact K1.out
  have k2 : W1.heap[w.heap.size + 1]? = some (.cells #[.int .i64 left, .slice xa xs.length xc, .float .f64 wt] 64 (0, 0)) := by rw [hW1]; exact K2.out
  have HB1 : Hid (Below w.heap.size w W1) := Lib.hid (HB.out.trans (by rw [hW1]; exact ⟨rfl, rfl, rfl, Nat.le_refl _, fun _ _ => rfl⟩))
  have HBW := Lib.hid (HBB.out.trans (c := W1) (by rw [hW1]; exact ⟨rfl, rfl, rfl, Nat.le_refl _, fun _ _ => rfl⟩))
  have HG3 : Hid (RulesAt W1 B (some ⟨b, off, none⟩) rules) := Lib.hid (HG2.out.below (by rw [hW1]; exact ⟨rfl, rfl, rfl, Nat.le_refl _, fun _ _ => rfl⟩))
  simp only [List.take_succ_cons, List.take_zero, List.drop_succ_cons, List.drop_zero]
  clear HB HBB HG2 K1 K2 hW1 hbW
  have gc0 := cell_of_block (off := 0) k1
  have gc1 := cell_of_block (off := 1) k1
  have gc2 := cell_of_block (off := 2) k1
  have rc0 := cell_of_block (off := 0) k2
  have rc1 := cell_of_block (off := 1) k2
  have rc2 := cell_of_block (off := 2) k2
  simp at gc0 gc1 gc2 rc0 rc1 rc2
  have K1 := Lib.hid k1
  have K2 := Lib.hid k2
  clear k1 k2
  by_cases c1 : left < 0
  · repeat (go_big_quiet_step (fail))
    refine wpQuiet_nil ?_
    go_wp2
    go_ret
    exact ⟨_, rfl, HB1.out, fun h => nomatch h⟩
  by_cases c2 : (vars.length : Int) ≤ left
  · repeat (go_big_quiet_step (fail))
    refine wpQuiet_nil ?_
    go_wp2
    go_ret
    exact ⟨_, rfl, HB1.out, fun h => nomatch h⟩
  by_cases c5 : (24 : Int) < xs.length
  · repeat (go_big_quiet_step (fail))
    refine wpQuiet_nil ?_
    go_wp2
    go_ret
    exact ⟨_, rfl, HB1.out, fun h => nomatch h⟩
  repeat (go_big_quiet_step (fail))
  refine wpQuiet_nil ?_
  go_wp2_with (first | (go_at_call 76; refine (told_any _ _).mono ?_; rintro e w' ⟨x, rfl, n, rfl⟩; cases x))
  · go_ret
    exact ⟨_, rfl, HB1.out.trans ⟨rfl, rfl, rfl, Nat.le_refl _, fun _ _ => rfl⟩, fun h => nomatch h⟩
  have HX := Lib.hid (show Ints (W1.drewN n) B xa xs from H4.out.below (HBW.out.trans ⟨rfl, rfl, rfl, Nat.le_refl _, fun _ _ => rfl⟩))
  have HB2 : Hid (Below w.heap.size w (W1.drewN n)) := Lib.hid (HB1.out.trans ⟨rfl, rfl, rfl, Nat.le_refl _, fun _ _ => rfl⟩)
  have hxr := nt_run
  have HC1 := Lib.hid (And.intro (show 0 ≤ left by omega) (show left < vars.length by omega))
  go_loop [6] (fun i => ∃ j : Nat, j ≤ xs.length ∧ i = .int .i64 j ∧ Hid (∀ l (h : l < xs.length), l < j → xs[l] < vars.length ∧ (xs[l] < 0 → nt xs[l] < terms.length))) (fun i => xs.length - (intOf i).toNat)
  case atStart => exact ⟨0, by omega, rfl, fun l h h0 => by omega⟩
  case round =>
    obtain ⟨j, hj, rfl, hok⟩ := hrel
    by_cases hlt2 : j < xs.length
    · obtain ⟨b2, off2, rfl, hb2, hc⟩ := HX.out j hlt2
      have hi2 : (j : Int) < xs.length := by omega
      have HOK : Hid (xs[j] < vars.length ∧ (xs[j] < 0 → nt xs[j] < terms.length) → ∀ l (h : l < xs.length), l < j + 1 → xs[l] < vars.length ∧ (xs[l] < 0 → nt xs[l] < terms.length)) := Lib.hid fun h0 l h h1 => by
        rcases Nat.lt_or_ge l j with h2 | h2
        · exact hok.out l h h2
        · obtain rfl : l = j := by omega
          exact h0
      generalize xs[j] = xj at *
      by_cases d1 : (vars.length : Int) ≤ xj
      · go_wp2
        go_ret
        exact ⟨_, rfl, HB2.out, fun h => nomatch h⟩
      by_cases d2 : xj < 0
      · by_cases d3 : (terms.length : Int) ≤ nt xj
        · have d4 : (terms.length : Int) ≤ bits .xor .i64 (if IntKind.i64.signed = true then -1 else 9223372036854775807) xj := d3
          go_wp2
          go_ret
          exact ⟨_, rfl, HB2.out, fun h => nomatch h⟩
        · have d4 : ¬ (terms.length : Int) ≤ bits .xor .i64 (if IntKind.i64.signed = true then -1 else 9223372036854775807) xj := d3
          go_wp2
          go_round
          case rel => exact ⟨j + 1, by omega, by go_num, HOK.out ⟨by omega, fun _ => by omega⟩⟩
          case measure => simp [intOf]; omega
      · go_wp2
        go_round
        case rel => exact ⟨j + 1, by omega, by go_num, HOK.out ⟨by omega, fun h => by omega⟩⟩
        case measure => simp [intOf]; omega
    · have hi2 : ¬ (j : Int) < xs.length := by omega
      have HOK : Hid (∀ l (h : l < xs.length), xs[l] < vars.length ∧ (xs[l] < 0 → nt xs[l] < terms.length)) := Lib.hid fun l h => hok.out l h (by omega)
      clear hok
      go_wp2
      go_loop [8] (fun i => i = .int .i64 0) (fun _ => 0)
      case atStart => exact rfl
      case round =>
        subst hrel
        go_wp2
        go_ret
        exact ⟨_, rfl, HB2.out, fun _ => ⟨HC1.out, HOK.out, fun l _ h => by omega, fun l _ h => by omega⟩⟩
set_option maxRecDepth 100000 in
set_option maxHeartbeats 1000000 in
theorem rule_succ {B : Nat} {g : GramD} {w : World} (h : GramAt w B g) (hB : B ≤ w.heap.size) (k : Nat) (hk : k + 1 < g.rules.length) : Calls Try.prog 53 #[GV g, .int .i64 ((k + 1 : Nat) : Int)] w (OkB (RuleOk g.vars.length g.terms.length g.rules (k + 1) g.rules[k + 1].left g.rules[k + 1].right) w) := by
  obtain ⟨ta, terms, tc, va, vars, vc, ra, rules, rc⟩ := g
  have hlr : rules.length ≤ 9223372036854775807 := h.lr
  have hlv : vars.length ≤ 9223372036854775807 := h.lv
  have hlt : terms.length ≤ 9223372036854775807 := h.lt
  dsimp only at hk
  have hg := (h.below ((Below.refl _ _).alloc hB (.cells #[.slice ta terms.length tc, .slice va vars.length vc, .slice ra rules.length rc] 25))).rules
  have HG := Lib.hid hg
  obtain ⟨b, off, hra, hb, h1, h2, h3, h4, h5⟩ := hg (k + 1) hk
  dsimp only at hra
  subst hra
  have hik : (k : Int) + 1 < rules.length := by omega
  have H4 := Lib.hid h4
  clear h hg h4
  unfold GV
  dsimp only at h1 h2 h3 h5 ⊢
  generalize rules[k + 1].ra = xa at *
  generalize rules[k + 1].right = xs at *
  generalize rules[k + 1].rc = xc at *
  generalize rules[k + 1].left = left at *
  generalize rules[k + 1].wt = wt at *
  go_enter Try.func53, Try.ntmps53
  go_wp2_with fail
  have k0 := heap_alloc_this w (.cells #[.slice ta terms.length tc, .slice va vars.length vc, .slice (some ⟨b, off, none⟩) rules.length rc] 25)
  have k1 := heap_alloc_keep (o := .cells #[.int .i64 left, .slice xa xs.length xc, .float .f64 wt] 64) k0
  have k2 := heap_alloc_this (w.alloc (.cells #[.slice ta terms.length tc, .slice va vars.length vc, .slice (some ⟨b, off, none⟩) rules.length rc] 25)) (.cells #[.int .i64 left, .slice xa xs.length xc, .float .f64 wt] 64)
  rw [World.size_alloc] at k2
  have hbel : Below w.heap.size w ((w.alloc (.cells #[.slice ta terms.length tc, .slice va vars.length vc, .slice (some ⟨b, off, none⟩) rules.length rc] 25)).alloc (.cells #[.int .i64 left, .slice xa xs.length xc, .float .f64 wt] 64)) :=
    ((Below.refl _ _).alloc (Nat.le_refl _) _).alloc (by simp) _
  have hG2 := HG.out.below ((Below.refl _ _).alloc (B := B) (w := (w.alloc (.cells #[.slice ta terms.length tc, .slice va vars.length vc, .slice (some ⟨b, off, none⟩) rules.length rc] 25))) (by simp; omega) (.cells #[.int .i64 left, .slice xa xs.length xc, .float .f64 wt] 64))
  have HBB := Lib.hid ((Below.refl _ _).alloc (B := B) (w := (w.alloc (.cells #[.slice ta terms.length tc, .slice va vars.length vc, .slice (some ⟨b, off, none⟩) rules.length rc] 25))) (by simp; omega) (.cells #[.int .i64 left, .slice xa xs.length xc, .float .f64 wt] 64))
  have HG2 := Lib.hid hG2
  have HB := Lib.hid hbel
  generalize ((w.alloc (.cells #[.slice ta terms.length tc, .slice va vars.length vc, .slice (some ⟨b, off, none⟩) rules.length rc] 25)).alloc (.cells #[.int .i64 left, .slice xa xs.length xc, .float .f64 wt] 64)) = W at *
  clear h1 h2 h3 hG2 hbel HG
  have K1 := Lib.hid k1
  have K2 := Lib.hid k2
  clear k0 k1 k2
  refine wp_region_quiet_tail 36 (by kernel_rfl) (by kernel_rfl) ?_
  intro W1 hW1
  have hbW : Below W.heap.size W W1 := by rw [hW1]; exact ⟨rfl, rfl, rfl, Nat.le_refl _, fun _ _ => rfl⟩
  have k1 : W1.heap[w.heap.size]? = some (.cells #[.slice ta terms.length tc, .slice va vars.length vc, .slice (some ⟨b, off, none⟩) rules.length rc] 25 (0, 0)) := by rw [hW1]; exact K1.out
  have k2 : W1.heap[w.heap.size + 1]? = some (.cells #[.int .i64 left, .slice xa xs.length xc, .float .f64 wt] 64 (0, 0)) := by rw [hW1]; exact K2.out
  have HB1 : Hid (Below w.heap.size w W1) := Lib.hid (HB.out.trans (by rw [hW1]; exact ⟨rfl, rfl, rfl, Nat.le_refl _, fun _ _ => rfl⟩))
  have HBW := Lib.hid (HBB.out.trans (c := W1) (by rw [hW1]; exact ⟨rfl, rfl, rfl, Nat.le_refl _, fun _ _ => rfl⟩))
  have HG3 : Hid (RulesAt W1 B (some ⟨b, off, none⟩) rules) := Lib.hid (HG2.out.below (by rw [hW1]; exact ⟨rfl, rfl, rfl, Nat.le_refl _, fun _ _ => rfl⟩))
  simp only [List.take_succ_cons, List.take_zero, List.drop_succ_cons, List.drop_zero]
  clear HB HBB HG2 K1 K2 hW1 hbW
  have gc0 := cell_of_block (off := 0) k1
  have gc1 := cell_of_block (off := 1) k1
  have gc2 := cell_of_block (off := 2) k1
  have rc0 := cell_of_block (off := 0) k2
  have rc1 := cell_of_block (off := 1) k2
  have rc2 := cell_of_block (off := 2) k2
  simp at gc0 gc1 gc2 rc0 rc1 rc2
  have K1 := Lib.hid k1
  have K2 := Lib.hid k2
  clear k1 k2
  obtain ⟨b', off', hra', hb', h1', -⟩ := HG3.out k (by omega)
  simp only [Option.some.injEq, Addr.mk.injEq] at hra'
  obtain ⟨rfl, rfl, -⟩ := hra'
  have hik' : (k : Int) < rules.length := by omega
  generalize hpv : rules[k].left = prev at *
  have HPV := Lib.hid hpv
  clear hpv
  by_cases c1 : left < 0
  · repeat (go_big_quiet_step (fail))
    refine wpQuiet_nil ?_
    go_wp2
    go_ret
    exact ⟨_, rfl, HB1.out, fun h => nomatch h⟩
  by_cases c2 : (vars.length : Int) ≤ left
  · repeat (go_big_quiet_step (fail))
    refine wpQuiet_nil ?_
    go_wp2
    go_ret
    exact ⟨_, rfl, HB1.out, fun h => nomatch h⟩
  have HSOF : Hid (¬ left < prev → ∀ l' (h : l' < rules.length), l' = k → rules[l'].left ≤ left) := Lib.hid (fun h0 l' h h1 => by
    subst h1
    rw [HPV.out]
    omega)
  by_cases c4 : left < prev
  · repeat (go_big_quiet_step (fail))
    refine wpQuiet_nil ?_
    go_wp2
    go_ret
    exact ⟨_, rfl, HB1.out, fun h => nomatch h⟩
  have HSO := Lib.hid (HSOF.out c4)
  by_cases c5 : (24 : Int) < xs.length
  · repeat (go_big_quiet_step (fail))
    refine wpQuiet_nil ?_
    go_wp2
    go_ret
    exact ⟨_, rfl, HB1.out, fun h => nomatch h⟩
  repeat (go_big_quiet_step (fail))
  refine wpQuiet_nil ?_
  go_wp2_with (first | (go_at_call 76; refine (told_any _ _).mono ?_; rintro e w' ⟨x, rfl, n, rfl⟩; cases x))
  · go_ret
    exact ⟨_, rfl, HB1.out.trans ⟨rfl, rfl, rfl, Nat.le_refl _, fun _ _ => rfl⟩, fun h => nomatch h⟩
  have HX := Lib.hid (show Ints (W1.drewN n) B xa xs from H4.out.below (HBW.out.trans ⟨rfl, rfl, rfl, Nat.le_refl _, fun _ _ => rfl⟩))
  have HB2 : Hid (Below w.heap.size w (W1.drewN n)) := Lib.hid (HB1.out.trans ⟨rfl, rfl, rfl, Nat.le_refl _, fun _ _ => rfl⟩)
  have hxr := nt_run
  have HC1 := Lib.hid (And.intro (show 0 ≤ left by omega) (show left < vars.length by omega))
  go_loop [6] (fun i => ∃ j : Nat, j ≤ xs.length ∧ i = .int .i64 j ∧ Hid (∀ l (h : l < xs.length), l < j → xs[l] < vars.length ∧ (xs[l] < 0 → nt xs[l] < terms.length))) (fun i => xs.length - (intOf i).toNat)
  case atStart => exact ⟨0, by omega, rfl, fun l h h0 => by omega⟩
  case round =>
    obtain ⟨j, hj, rfl, hok⟩ := hrel
    by_cases hlt2 : j < xs.length
    · obtain ⟨b2, off2, rfl, hb2, hc⟩ := HX.out j hlt2
      have hi2 : (j : Int) < xs.length := by omega
      have HOK : Hid (xs[j] < vars.length ∧ (xs[j] < 0 → nt xs[j] < terms.length) → ∀ l (h : l < xs.length), l < j + 1 → xs[l] < vars.length ∧ (xs[l] < 0 → nt xs[l] < terms.length)) := Lib.hid fun h0 l h h1 => by
        rcases Nat.lt_or_ge l j with h2 | h2
        · exact hok.out l h h2
        · obtain rfl : l = j := by omega
          exact h0
      generalize xs[j] = xj at *
      by_cases d1 : (vars.length : Int) ≤ xj
      · go_wp2
        go_ret
        exact ⟨_, rfl, HB2.out, fun h => nomatch h⟩
      by_cases d2 : xj < 0
      · by_cases d3 : (terms.length : Int) ≤ nt xj
        · have d4 : (terms.length : Int) ≤ bits .xor .i64 (if IntKind.i64.signed = true then -1 else 9223372036854775807) xj := d3
          go_wp2
          go_ret
          exact ⟨_, rfl, HB2.out, fun h => nomatch h⟩
        · have d4 : ¬ (terms.length : Int) ≤ bits .xor .i64 (if IntKind.i64.signed = true then -1 else 9223372036854775807) xj := d3
          go_wp2
          go_round
          case rel => exact ⟨j + 1, by omega, by go_num, HOK.out ⟨by omega, fun _ => by omega⟩⟩
          case measure => simp [intOf]; omega
      · go_wp2
        go_round
        case rel => exact ⟨j + 1, by omega, by go_num, HOK.out ⟨by omega, fun h => by omega⟩⟩
        case measure => simp [intOf]; omega
    · have hi2 : ¬ (j : Int) < xs.length := by omega
      have HOK : Hid (∀ l (h : l < xs.length), xs[l] < vars.length ∧ (xs[l] < 0 → nt xs[l] < terms.length)) := Lib.hid fun l h => hok.out l h (by omega)
      clear hok
      go_wp2
      go_loopw [8] (fun i wr => ∃ (l m : Nat), l ≤ k + 1 ∧ i = .int .i64 l ∧ wr = W1.drewN m ∧ Hid (∀ l' (h : l' < rules.length), l' < l → rules[l'].left = left → rules[l'].right ≠ xs)) (fun i _ => k + 1 - (intOf i).toNat)
      case atStart => exact ⟨0, n, by omega, rfl, rfl, fun l h h0 => by omega⟩
      case round =>
        obtain ⟨l, m, hl, rfl, rfl, hdf⟩ := hrel
        have HB3 : Hid (∀ m, Below w.heap.size w (W1.drewN m)) := Lib.hid (fun m => HB1.out.trans ⟨rfl, rfl, rfl, Nat.le_refl _, fun _ _ => rfl⟩)
        by_cases hlk : l < k + 1
        · obtain ⟨b3, off3, hra3, hb3, e1, e2, -, e4, e5⟩ := HG3.out l (by omega)
          simp only [Option.some.injEq, Addr.mk.injEq] at hra3
          obtain ⟨rfl, rfl, -⟩ := hra3
          have hil : (l : Int) < (k : Int) + 1 := by omega
          have hil' : (l : Int) < rules.length := by omega
          have E4 := Lib.hid e4
          clear e4
          have HDF : Hid ((rules[l].left = left → rules[l].right ≠ xs) → ∀ l' (h : l' < rules.length), l' < l + 1 → rules[l'].left = left → rules[l'].right ≠ xs) := Lib.hid fun h0 l' h h1 => by
            rcases Nat.lt_or_ge l' l with h2 | h2
            · exact hdf.out l' h h2
            · obtain rfl : l' = l := by omega
              exact h0
          by_cases he : rules[l].left = left
          · have he' : (rules[l].left == left) = true := by simp [he]
            clear he
            generalize rules[l].ra = ya at *
            generalize rules[l].right = ys at *
            generalize rules[l].rc = yc at *
            generalize rules[l].left = yl at *
            have HS := fun m' => Lib.hid (same_any (ca := yc) (cb := xc) (w := W1.drewN (m + m')) (ints_drewN E4.out (m + m')) (show Ints (W1.drewN (m + m')) B xa xs from HX.out) e5 h5)
            generalize hres : decide (ys = xs) = res at *
            have HRS := Lib.hid hres
            clear hres
            go_wp2
            go_quiet ((go_at_call 15; exact quiet_add (HS _).out))
            cases res
            all_goals go_wp2
            · go_roundw
              case rel => exact ⟨l + 1, _, by omega, by go_num, rfl, HDF.out fun _ => of_decide_eq_false HRS.out⟩
              case measure => simp [intOf]; omega
            · go_ret
              exact ⟨_, rfl, (by rw [World.drewN_drewN]; exact HB3.out _), fun h => nomatch h⟩
          · have he' : (rules[l].left == left) = false := by simp [he]
            have HE := Lib.hid he
            clear he
            go_wp2
            go_quiet (fail)
            go_wp2
            go_roundw
            case rel => exact ⟨l + 1, _, by omega, by go_num, rfl, HDF.out fun h => absurd h HE.out⟩
            case measure => simp [intOf]; omega
        · have hil : ¬ (l : Int) < (k : Int) + 1 := by omega
          go_wp2
          go_ret
          exact ⟨_, rfl, HB3.out _, fun _ => ⟨HC1.out, HOK.out, fun l' h h1 => hdf.out l' h (by omega), fun l' h h1 => HSO.out l' h (by omega)⟩⟩
theorem rule_any {B : Nat} {g : GramD} {w : World} (h : GramAt w B g) (hB : B ≤ w.heap.size) (k : Nat) (hk : k < g.rules.length) : Calls Try.prog 53 #[GV g, .int .i64 k] w (OkB (RuleOk g.vars.length g.terms.length g.rules k g.rules[k].left g.rules[k].right) w) := by
  cases k with
  | zero => exact rule_zero h hB hk
  | succ k => exact rule_succ h hB k hk
end Go.Proofs.Ytmiiolgbjicocaa
