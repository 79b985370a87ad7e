/- That the reference's look at a grammar answers: its rules. -/
import Derived.Test.YtmiiolgbjicocaaGuard
import Derived.Test.YtmiiolgbjicocaaS1
import Derived.Test.YtmiiolgbjicocaaFloats
namespace Go.Proofs.Ytmiiolgbjicocaa
open Go.RowKit
def GV (g : GramD) : Value := .agg #[.slice g.ta g.terms.length g.tc, .slice g.va g.vars.length g.vc, .slice g.ra g.rules.length g.rc]
theorem count_any {B : Nat} {g : GramD} {w : World} (h : GramAt w B g) (hB : B ≤ w.heap.size) (v : Int) : Calls Try.prog 54 #[GV g, .int .i64 v] w (SomeIntB w) := by
  obtain ⟨ta, terms, tc, va, vars, vc, ra, rules, rc⟩ := g
  have hr : RulesAt (w.alloc (.cells #[.slice ta terms.length tc, .slice va vars.length vc, .slice ra rules.length rc] 25)) B ra rules := (h.below ((Below.refl _ _).alloc hB _)).rules
  have hl : rules.length ≤ 9223372036854775807 := h.lr
  have H := Lib.hid hr
  clear h hr
  unfold GV
  go_enter Try.func54, Try.ntmps54
  go_wp2
  go_loop [5, 6] (fun n i => ∃ (m : Int) (k : Nat), k ≤ rules.length ∧ i = .int .i64 k ∧ n = .int .i64 m) (fun _ i => rules.length - (intOf i).toNat)
  case atStart => exact ⟨0, 0, by omega, rfl, rfl⟩
  case round =>
    obtain ⟨m, k, hk, rfl, rfl⟩ := hrel
    by_cases hlt : k < rules.length
    · obtain ⟨b, off, rfl, hb, h1, h2, h3, h4, h5⟩ := H.out k hlt
      have hi1 : (k : Int) < rules.length := by omega
      clear h2 h3 h4 h5
      by_cases he : rules[k].left = v
      · have he' : (rules[k].left == v) = true := by simp [he]
        clear he
        go_wp2
        go_round
        case rel => exact ⟨_, k + 1, by omega, by go_num, rfl⟩
        case measure => simp [intOf]; omega
      · have he' : (rules[k].left == v) = false := by simp [he]
        clear he
        go_wp2
        go_round
        case rel => exact ⟨_, k + 1, by omega, by go_num, rfl⟩
        case measure => simp [intOf]; omega
    · go_wp2
      go_ret
      exact ⟨_, rfl, (Below.refl _ _).alloc (Nat.le_refl _) _⟩
set_option maxHeartbeats 400000 in
theorem uses_any {B : Nat} {g : GramD} {w : World} (h : GramAt w B g) (hB : B ≤ w.heap.size) (v : Int) : Calls Try.prog 55 #[GV g, .int .i64 v] w (SomeBoolB w) := by
  obtain ⟨ta, terms, tc, va, vars, vc, ra, rules, rc⟩ := g
  have hr : RulesAt (w.alloc (.cells #[.slice ta terms.length tc, .slice va vars.length vc, .slice ra rules.length rc] 25)) B ra rules := (h.below ((Below.refl _ _).alloc hB _)).rules
  have hl : rules.length ≤ 9223372036854775807 := h.lr
  have H := Lib.hid hr
  clear h hr
  unfold GV
  go_enter Try.func55, Try.ntmps55
  go_wp2
  go_loop [5] (fun i => ∃ k : Nat, k ≤ rules.length ∧ i = .int .i64 k) (fun i => rules.length - (intOf i).toNat)
  case atStart => exact ⟨0, by omega, rfl⟩
  case round =>
    obtain ⟨k, hk, rfl⟩ := hrel
    by_cases hlt : k < rules.length
    · obtain ⟨b, off, rfl, hb, h1, h2, h3, h4, h5⟩ := H.out k hlt
      have hi1 : (k : Int) < rules.length := by omega
      clear h1 h3
      have H4 := Lib.hid h4
      clear h4
      generalize rules[k].ra = xa at *
      generalize rules[k].right = xs at *
      generalize rules[k].rc = xc at *
      go_wp2
      go_loop [6] (fun i => ∃ j : Nat, j ≤ xs.length ∧ i = .int .i64 j) (fun i => xs.length - (intOf i).toNat)
      case atStart => exact ⟨0, by omega, rfl⟩
      case round =>
        obtain ⟨j, hj, rfl⟩ := hrel
        by_cases hlt2 : j < xs.length
        · obtain ⟨b2, off2, rfl, hb2, hc⟩ := H4.out j hlt2
          have hi2 : (j : Int) < xs.length := by omega
          by_cases he : xs[j] = v
          · have he' : (xs[j] == v) = true := by simp [he]
            clear he
            go_wp2
            go_ret
            exact ⟨_, rfl, (Below.refl _ _).alloc (Nat.le_refl _) _⟩
          · have he' : (xs[j] == v) = false := by simp [he]
            clear he
            go_wp2
            go_round
            case rel => exact ⟨j + 1, by omega, by go_num⟩
            case measure => simp [intOf]; omega
        · have hi2 : ¬ (j : Int) < xs.length := by omega
          go_wp2
          go_round
          case rel => exact ⟨k + 1, by omega, by go_num⟩
          case measure => simp [intOf]; omega
    · go_wp2
      go_ret
      exact ⟨_, rfl, (Below.refl _ _).alloc (Nat.le_refl _) _⟩
/-- A small grammar. -/
def Small (g : GramD) : Prop := (g.vars.length ≤ 8 ∧ g.terms.length ≤ 6) ∧ g.rules.length ≤ 24 ∧ ∀ i (h : i < g.rules.length), g.rules[i].right.length ≤ 8
def FewPost (g : GramD) (w : World) (e : Ending) (w' : World) : Prop := ∃ b : Bool, e = .returned (.bool b) ∧ Below w.heap.size w w' ∧ (b = true → Small g)
theorem few_no {g : GramD} {w w' : World} (h : Below w.heap.size w w') : FewPost g w (.returned (.bool false)) w' := ⟨_, rfl, h, fun h => by cases h⟩
set_option maxHeartbeats 400000 in
theorem few_any {B : Nat} {g : GramD} {w : World} (h : GramAt w B g) (hB : B ≤ w.heap.size) : Calls Try.prog 25 #[GV g] w (FewPost g w) := by
  have hr : RulesAt (w.alloc (.cells #[.slice g.ta g.terms.length g.tc, .slice g.va g.vars.length g.vc, .slice g.ra g.rules.length g.rc] 25)) B g.ra g.rules := (h.below ((Below.refl _ _).alloc hB _)).rules
  have HP := Lib.hid (show Small g = ((g.vars.length ≤ 8 ∧ g.terms.length ≤ 6) ∧ g.rules.length ≤ 24 ∧ ∀ i (h : i < g.rules.length), g.rules[i].right.length ≤ 8) from rfl)
  have HN := fun w' => Lib.hid (few_no (g := g) (w := w) (w' := w'))
  have HY : Hid (∀ w', Below w.heap.size w w' → Small g → FewPost g w (.returned (.bool true)) w') := Lib.hid (fun w' h1 h2 => ⟨_, rfl, h1, fun _ => h2⟩)
  have hl : g.rules.length ≤ 9223372036854775807 := h.lr
  have hl1 := h.lt
  have hl2 := h.lv
  have HB := Lib.hid ((Below.refl _ w).alloc (Nat.le_refl _) (.cells #[.slice g.ta g.terms.length g.tc, .slice g.va g.vars.length g.vc, .slice g.ra g.rules.length g.rc] 25))
  clear h
  obtain ⟨ta, terms, tc, va, vars, vc, ra, rules, rc⟩ := g
  have H := Lib.hid hr
  clear hr
  unfold GV
  dsimp only at hl hl1 hl2 ⊢
  by_cases b1 : (8 : Int) < vars.length
  · go_enter Try.func25, Try.ntmps25
    go_wp2
    go_ret
    exact (HN _).out HB.out
  by_cases b2 : (6 : Int) < terms.length
  · go_enter Try.func25, Try.ntmps25
    go_wp2
    go_ret
    exact (HN _).out HB.out
  by_cases b3 : (24 : Int) < rules.length
  · go_enter Try.func25, Try.ntmps25
    go_wp2
    go_ret
    exact (HN _).out HB.out
  go_enter Try.func25, Try.ntmps25
  go_wp2
  go_loop [3] (fun i => ∃ k : Nat, k ≤ rules.length ∧ i = .int .i64 k ∧ ∀ j (h : j < rules.length), j < k → rules[j].right.length ≤ 8) (fun i => rules.length - (intOf i).toNat)
  case atStart => exact ⟨0, by omega, rfl, fun j _ h => by omega⟩
  case round =>
    obtain ⟨k, hk, rfl, hall⟩ := hrel
    have HA := Lib.hid hall
    clear hall
    by_cases hlt : k < rules.length
    · obtain ⟨b, off, rfl, hb, h1, h2, h3, h4, h5⟩ := H.out k hlt
      have hi1 : (k : Int) < rules.length := by omega
      clear h1 h3 h4
      by_cases he : (8 : Int) < rules[k].right.length
      · go_wp2
        go_ret
        exact (HN _).out HB.out
      · go_wp2
        go_round
        case rel =>
          refine ⟨k + 1, by omega, by go_num, fun j h hj => ?_⟩
          rcases Nat.lt_or_ge j k with hjk | hjk
          · exact HA.out j h hjk
          · have : j = k := by omega
            subst this
            omega
        case measure => simp [intOf]; omega
    · go_wp2
      go_ret
      exact HY.out _ HB.out (by rw [HP.out]; exact ⟨⟨show vars.length ≤ 8 by omega, show terms.length ≤ 6 by omega⟩, show rules.length ≤ 24 by omega, fun i h => HA.out i h (by have : i < rules.length := h; omega)⟩)
end Go.Proofs.Ytmiiolgbjicocaa
