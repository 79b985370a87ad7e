/- The document's example holds. -/
import Derived.Test.YtekdciigiogjkaaPairs
namespace Go.Proofs.Ytekdciigiogjkaa
open Go.RowKit
theorem ints_built {w : World} {b : Nat} {cs : Array Value} {t : TypeId} {xs : List Int} (h : w.heap[b]? = some (.cells cs t (0, 0))) (he : cs.toList = xs.map (Value.int .i64)) : Ints w w.heap.size (some ⟨b, 0, none⟩) xs := fun i hi => by
  refine ⟨b, 0, rfl, lt_of_block h, ?_⟩
  rw [cell_of_block h, Nat.zero_add, ← Array.getElem?_toList, he]
  simp [hi]
theorem ints_new (w : World) (cs : Array Value) (xs : List Int) (he : cs.toList = xs.map (Value.int .i64)) : Ints (w.alloc (.cells cs 3)) (w.alloc (.cells cs 3)).heap.size (some ⟨w.heap.size, 0, none⟩) xs := ints_built (heap_alloc_this _ _) he
theorem al1 (n : Nat) : stepS (pairsG n) [-2, 0] 0 = ([-2, -1, 0, -2], 0) := by rfl
theorem al2 (n : Nat) : (repS (pairsG n) [0] 0 [0, 1, 1]).2 = (2, 13) := by rfl
theorem al3 (n : Nat) : yieldS (pairsG n) [0] [0, 0, 1] = ([0, 0, 1, 1], 0) := by
  have e : repS (pairsG n) [0] 0 [0, 0, 1] = ([-1, -1, -2, -2], 0, 0) := by rfl
  unfold yieldS
  rw [e]
  rfl
theorem al4 : leadL [-2, -1, 0] = [1, 0] := by rfl
theorem al5 : atV [-2, -1, 0] = 2 := by rfl
theorem al6 (n : Nat) (r : Nat) (h : SumIs (pickW (pairsG n) [0, 1]) r) : r = 4611686018427387904 := by
  have e : pickW (pairsG n) [0, 1] = [0, 4611686018427387904] := by rfl
  rw [e] at h
  cases h with
  | cons h t =>
    cases t
    have : floatBits .add .f64 0 4611686018427387904 = some 4611686018427387904 := by kernel_rfl
    rcases h with h | ⟨h, _⟩
    · rw [this] at h; injection h with h; exact h.symm
    · rw [this] at h; cases h
def AlivePost (w : World) (e : Ending) (w' : World) : Prop := e = .returned (.bool true) ∧ Below w.heap.size w w'
theorem below_all {a b : World} {B : Nat} (h : Below a.heap.size a b) (hB : B ≤ a.heap.size) : Below B a b := h.mono hB
set_option maxRecDepth 100000 in
set_option maxHeartbeats 4000000 in
theorem alive_any (w : World) : Calls Try.prog 8 #[] w (AlivePost w) := by
  go_enter Try.func8, Try.ntmps8
  go_wp2_with fail
  refine (pairs_any _).mono ?_
  rintro e w1 ⟨rfl, hg1, hb1⟩
  have HG1 := Lib.hid hg1
  have HB1 := Lib.hid hb1
  clear hg1 hb1
  generalize hG : GV (pairsG w.heap.size) = G1 at *
  have HGG1 := Lib.hid hG
  clear hG
  go_wp2_with fail
  rw [← HGG1.out]
  refine (step_any (B := (w1.alloc (.cells #[.int .i64 (-2), .int .i64 0] 3)).heap.size) (form := [-2, 0]) (GramAt.mono (HG1.out.below ((Below.refl _ _).alloc (Nat.le_refl _) _)) (by simp)) (Nat.le_refl _) (pairs_small _) (ints_new _ _ _ rfl) (by decide) (fun h => by cases h) (by decide) (by decide) 0).mono ?_
  rintro e w2 ⟨v1, rfl, hown, hb2⟩
  rw [al1] at *
  obtain ⟨a1, c1, rfl, -, hi1, -, -⟩ := hown.shape
  have HV1 := Lib.hid hi1
  have HB2 := Lib.hid ((HB1.out.alloc HB1.out.size _).trans (hb2.mono (by have := HB1.out.size; simp only [World.size_alloc]; omega)))
  clear hown hb2 hi1 HG1 HB1 HGG1
  go_wp2_with fail
  refine (pairs_any _).mono ?_
  rintro e w3 ⟨rfl, hg1, hb1⟩
  have HG1 := Lib.hid hg1
  have HB3 := Lib.hid (And.intro (HB2.out.trans (hb1.mono HB2.out.size)) hb1)
  clear hg1 hb1 HB2
  generalize hG : GV (pairsG w2.heap.size) = G1 at *
  have HGG1 := Lib.hid hG
  clear hG
  go_wp2_with fail
  rw [← HGG1.out]
  refine (replay_any (B := ((w3.alloc (.cells #[.int .i64 0] 3)).alloc (.cells #[.int .i64 0, .int .i64 1, .int .i64 1] 3)).heap.size) (form := [0]) (rules := [0, 1, 1]) (GramAt.mono (HG1.out.below (((Below.refl _ _).alloc (Nat.le_refl _) _).alloc (by simp) _)) (by simp only [World.size_alloc]; omega)) (Nat.le_refl _) (pairs_small _) (ints_built (heap_alloc_keep (heap_alloc_this _ _)) rfl) (ints_built (by have := heap_alloc_this (w3.alloc (.cells #[.int .i64 0] 3)) (.cells #[.int .i64 0, .int .i64 1, .int .i64 1] 3); simpa using this) rfl) (by decide) (by decide)).mono ?_
  rintro e w4 ⟨v2, rfl, -, hb4⟩
  rw [al2]
  have hc4 : Below w3.heap.size w3 w4 := (((Below.refl _ _).alloc (Nat.le_refl _) _).alloc (by simp) _).trans (hb4.mono (by simp only [World.size_alloc]; omega))
  have HB4 := Lib.hid (And.intro (HB3.out.1.trans (hc4.mono HB3.out.1.size)) (HB3.out.2.trans (hc4.mono HB3.out.2.size)))
  clear hb4 hc4 HB3 HG1 HGG1
  go_wp2_with fail
  refine (pairs_any _).mono ?_
  rintro e w5 ⟨rfl, hg1, hb1⟩
  have HG1 := Lib.hid hg1
  have HB5 := Lib.hid (And.intro (HB4.out.1.trans (hb1.mono HB4.out.1.size)) (HB4.out.2.trans (hb1.mono HB4.out.2.size)))
  clear hg1 hb1 HB4
  generalize hG : GV (pairsG w4.heap.size) = G1 at *
  have HGG1 := Lib.hid hG
  clear hG
  go_wp2_with fail
  rw [← HGG1.out]
  refine (yield_any (B := ((w5.alloc (.cells #[.int .i64 0] 3)).alloc (.cells #[.int .i64 0, .int .i64 0, .int .i64 1] 3)).heap.size) (form := [0]) (rules := [0, 0, 1]) (GramAt.mono (HG1.out.below (((Below.refl _ _).alloc (Nat.le_refl _) _).alloc (by simp) _)) (by simp only [World.size_alloc]; omega)) (Nat.le_refl _) (pairs_small _) (ints_built (heap_alloc_keep (heap_alloc_this _ _)) rfl) (ints_built (by have := heap_alloc_this (w5.alloc (.cells #[.int .i64 0] 3)) (.cells #[.int .i64 0, .int .i64 0, .int .i64 1] 3); simpa using this) rfl) (by decide) (by decide)).mono ?_
  rintro e w6 ⟨v3, rfl, hown, hb6⟩
  rw [al3] at *
  obtain ⟨a3, c3, rfl, -, hi3, -, -⟩ := hown.shape
  have HV3 := Lib.hid hi3
  have hc6 : Below w5.heap.size w5 w6 := (((Below.refl _ _).alloc (Nat.le_refl _) _).alloc (by simp) _).trans (hb6.mono (by simp only [World.size_alloc]; omega))
  have HB6 := Lib.hid (And.intro (HB5.out.1.trans (hc6.mono HB5.out.1.size)) (HB5.out.2.trans (hc6.mono HB5.out.2.size)))
  clear hown hi3 hb6 hc6 HB5 HG1 HGG1
  go_wp2_with fail
  refine (lead_any (B := (w6.alloc (.cells #[.int .i64 (-2), .int .i64 (-1), .int .i64 0] 3)).heap.size) (form := [-2, -1, 0]) (ints_new _ _ _ rfl) (Nat.le_refl _) (by decide)).mono ?_
  rintro e w7 ⟨v4, rfl, hown, hb7⟩
  rw [al4] at *
  rw [al5] at *
  obtain ⟨a4, c4, rfl, -, hi4, -, -⟩ := hown.shape
  have HV4 := Lib.hid hi4
  have hc7 : Below w6.heap.size w6 w7 := ((Below.refl _ _).alloc (Nat.le_refl _) _).trans (hb7.mono (by simp))
  have HB7 := Lib.hid (And.intro (HB6.out.1.trans (hc7.mono HB6.out.1.size)) (HB6.out.2.trans (hc7.mono HB6.out.2.size)))
  have HC7 := Lib.hid hc7
  clear hown hi4 hb7 hc7 HB6
  simp only [List.length_cons, List.length_nil] at *
  go_wp2_with fail
  refine (same_any (B := (w7.alloc (.cells #[.int .i64 (-2), .int .i64 (-1), .int .i64 0, .int .i64 (-2)] 3)).heap.size) (xs := [-2, -1, 0, -2]) (ys := [-2, -1, 0, -2]) (Ints.mono (HV1.out.below (HB7.out.2.alloc HB7.out.2.size _)) (by have := HB7.out.2.size; simp only [World.size_alloc]; omega)) (ints_new _ _ _ rfl) (by decide) (by decide)).mono ?_
  rintro e w8 ⟨rfl, n, hw8⟩
  have hc8 : Below w7.heap.size w7 w8 := by rw [hw8]; exact ((Below.refl _ _).alloc (Nat.le_refl _) _).trans ⟨rfl, rfl, rfl, Nat.le_refl _, fun _ _ => rfl⟩
  have HB8 := Lib.hid (HB7.out.1.trans (hc8.mono HB7.out.1.size))
  have HV38 := Lib.hid (HV3.out.below (HC7.out.trans (hc8.mono HC7.out.size)))
  have HC8 := Lib.hid (And.intro (HC7.out.trans (hc8.mono HC7.out.size)).size hc8.size)
  have HV48 := Lib.hid (HV4.out.below hc8)
  clear hw8 hc8 HB7 HC7 HV1 HV3 HV4
  rw [decide_eq_true (rfl : ([-2, -1, 0, -2] : List Int) = [-2, -1, 0, -2])]
  go_wp2_with fail
  refine (same_any (B := (w8.alloc (.cells #[.int .i64 0, .int .i64 0, .int .i64 1, .int .i64 1] 3)).heap.size) (xs := [0, 0, 1, 1]) (ys := [0, 0, 1, 1]) (Ints.mono (HV38.out.below ((Below.refl _ _).alloc HC8.out.1 _)) (by have := HC8.out.1; simp only [World.size_alloc]; omega)) (ints_new _ _ _ rfl) (by decide) (by decide)).mono ?_
  rintro e w9 ⟨rfl, n9, hw9⟩
  have hc9 : Below w8.heap.size w8 w9 := by rw [hw9]; exact ((Below.refl _ _).alloc (Nat.le_refl _) _).trans ⟨rfl, rfl, rfl, Nat.le_refl _, fun _ _ => rfl⟩
  have HB9 := Lib.hid (HB8.out.trans (hc9.mono HB8.out.size))
  have HV49 := Lib.hid (HV48.out.below (hc9.mono HC8.out.2))
  have HC9 := Lib.hid (Nat.le_trans HC8.out.2 hc9.size)
  clear hw9 hc9 HB8 HC8 HV38 HV48
  rw [decide_eq_true (rfl : ([0, 0, 1, 1] : List Int) = [0, 0, 1, 1])]
  go_wp2_with fail
  refine (same_any (B := (w9.alloc (.cells #[.int .i64 1, .int .i64 0] 3)).heap.size) (xs := [1, 0]) (ys := [1, 0]) (Ints.mono (HV49.out.below ((Below.refl _ _).alloc HC9.out _)) (by have := HC9.out; simp only [World.size_alloc]; omega)) (ints_new _ _ _ rfl) (by decide) (by decide)).mono ?_
  rintro e w10 ⟨rfl, n10, hw10⟩
  have hc10 : Below w9.heap.size w9 w10 := by rw [hw10]; exact ((Below.refl _ _).alloc (Nat.le_refl _) _).trans ⟨rfl, rfl, rfl, Nat.le_refl _, fun _ _ => rfl⟩
  have HB10 := Lib.hid (HB9.out.trans (hc10.mono HB9.out.size))
  clear hw10 hc10 HB9 HC9 HV49
  rw [decide_eq_true (rfl : ([1, 0] : List Int) = [1, 0])]
  go_wp2_with fail
  refine (pairs_any _).mono ?_
  rintro e w11 ⟨rfl, hg1, hb1⟩
  have HG1 := Lib.hid hg1
  have HB11 := Lib.hid (HB10.out.trans (hb1.mono HB10.out.size))
  clear hg1 hb1 HB10
  generalize hG : GV (pairsG w10.heap.size) = G1 at *
  have HGG1 := Lib.hid hG
  clear hG
  go_wp2_with fail
  rw [← HGG1.out]
  refine (weight_any (B := (w11.alloc (.cells #[.int .i64 0, .int .i64 1] 3)).heap.size) (rules := [0, 1]) (GramAt.mono (HG1.out.below ((Below.refl _ _).alloc (Nat.le_refl _) _)) (by simp)) (Nat.le_refl _) (ints_new _ _ _ rfl) (by decide)).mono ?_
  rintro e w12 ⟨r, rfl, hs, hb12⟩
  have hr := al6 _ _ hs
  subst hr
  have HB12 := Lib.hid ((HB11.out.alloc HB11.out.size _).trans (hb12.mono (by have := HB11.out.size; simp only [World.size_alloc]; omega)))
  clear hs hb12 HB11 HG1 HGG1
  go_wp2
  go_ret
  exact ⟨rfl, HB12.out⟩
end Go.Proofs.Ytekdciigiogjkaa
