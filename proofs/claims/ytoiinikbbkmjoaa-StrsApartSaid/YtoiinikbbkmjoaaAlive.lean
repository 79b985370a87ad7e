/- The document's example holds. -/
import Derived.Test.YtoiinikbbkmjoaaAlike
namespace Go.Proofs.Ytoiinikbbkmjoaa
open Go.RowKit
theorem lst_built {w : World} {b : Nat} {cs : Array Value} {t : TypeId} {xs : List Int} (h : w.heap[b]? = some (.cells cs t (0, 0))) (he : cs.toList = xs.map (Value.int .i64)) : Lst w (some ⟨b, 0, none⟩) xs := fun i hi => by
  refine ⟨b, 0, rfl, lt_of_block h, ?_⟩
  rw [cell_of_block h, Nat.zero_add, ← Array.getElem?_toList, he]
  simp [hi]
theorem alOf1 : ofL [[2], [1, 5], [2]] = [[1, 5], [2]] := by decide
theorem alOf2 : ofL [[], [7]] = [[], [7]] := by decide
theorem alTimes : timesL [[1, 5], [2]] [[], [7]] 2 = [[1, 5], [2], [2, 7]] := by decide
theorem alCmp : cmpL [1] [1, 0] = -1 := by decide
theorem alJoin : joinL [1] [2, 3] 2 = [1, 2] := by decide
theorem heap3 (w : World) (o1 o2 o3 : Obj) : (((w.alloc o1).alloc o2).alloc o3).heap[w.heap.size]? = some o1 ∧ (((w.alloc o1).alloc o2).alloc o3).heap[w.heap.size + 1]? = some o2 ∧ (((w.alloc o1).alloc o2).alloc o3).heap[w.heap.size + 1 + 1]? = some o3 := by
  refine ⟨heap_alloc_keep (heap_alloc_keep (heap_alloc_this _ _)), heap_alloc_keep ?_, ?_⟩
  · have := heap_alloc_this (w.alloc o1) o2; simpa using this
  · have := heap_alloc_this ((w.alloc o1).alloc o2) o3; simpa using this
theorem heap4 (w : World) (o1 o2 o3 o4 : Obj) : ((((w.alloc o1).alloc o2).alloc o3).alloc o4).heap[w.heap.size]? = some o1 ∧ ((((w.alloc o1).alloc o2).alloc o3).alloc o4).heap[w.heap.size + 1]? = some o2 ∧ ((((w.alloc o1).alloc o2).alloc o3).alloc o4).heap[w.heap.size + 1 + 1]? = some o3 ∧ ((((w.alloc o1).alloc o2).alloc o3).alloc o4).heap[w.heap.size + 1 + 1 + 1]? = some o4 := by
  obtain ⟨h1, h2, h3⟩ := heap3 w o1 o2 o3
  refine ⟨heap_alloc_keep h1, heap_alloc_keep h2, heap_alloc_keep h3, ?_⟩
  have := heap_alloc_this (((w.alloc o1).alloc o2).alloc o3) o4; simpa using this
theorem grow3 (w : World) (o1 o2 o3 : Obj) : Grow w (((w.alloc o1).alloc o2).alloc o3) := (((Below.refl _ _).alloc (Nat.le_refl _) _).alloc (by simp) _).alloc (by simp only [World.size_alloc]; omega) _
theorem grow4 (w : World) (o1 o2 o3 o4 : Obj) : Grow w ((((w.alloc o1).alloc o2).alloc o3).alloc o4) := (grow3 w o1 o2 o3).alloc (by simp only [World.size_alloc]; omega) _
theorem lsts2 {w : World} {b b1 b2 n1 n2 : Nat} {x1 x2 : List Int} {cs1 cs2 : Array Value} (h : w.heap[b]? = some (.cells #[.slice (some ⟨b1, 0, none⟩) n1 n1, .slice (some ⟨b2, 0, none⟩) n2 n2] 22 (0, 0)))
    (h1 : w.heap[b1]? = some (.cells cs1 3 (0, 0))) (h2 : w.heap[b2]? = some (.cells cs2 3 (0, 0))) (e1 : cs1.toList = x1.map (Value.int .i64)) (e2 : cs2.toList = x2.map (Value.int .i64)) (l1 : x1.length = n1) (l2 : x2.length = n2) : Lsts w (some ⟨b, 0, none⟩) [x1, x2] := fun i hi => by
  subst l1 l2
  have hi2 : i < 2 := hi
  match i, hi2 with
  | 0, _ => exact ⟨b, 0, some ⟨b1, 0, none⟩, x1.length, rfl, lt_of_block h, cell_of_block h, lst_built h1 e1, (fun h => by cases h), Nat.le_refl _⟩
  | 1, _ => exact ⟨b, 0, some ⟨b2, 0, none⟩, x2.length, rfl, lt_of_block h, cell_of_block h, lst_built h2 e2, (fun h => by cases h), Nat.le_refl _⟩
theorem lsts3 {w : World} {b b1 b2 b3 n1 n2 n3 : Nat} {x1 x2 x3 : List Int} {cs1 cs2 cs3 : Array Value} (h : w.heap[b]? = some (.cells #[.slice (some ⟨b1, 0, none⟩) n1 n1, .slice (some ⟨b2, 0, none⟩) n2 n2, .slice (some ⟨b3, 0, none⟩) n3 n3] 22 (0, 0)))
    (h1 : w.heap[b1]? = some (.cells cs1 3 (0, 0))) (h2 : w.heap[b2]? = some (.cells cs2 3 (0, 0))) (h3 : w.heap[b3]? = some (.cells cs3 3 (0, 0))) (e1 : cs1.toList = x1.map (Value.int .i64)) (e2 : cs2.toList = x2.map (Value.int .i64)) (e3 : cs3.toList = x3.map (Value.int .i64)) (l1 : x1.length = n1) (l2 : x2.length = n2) (l3 : x3.length = n3) : Lsts w (some ⟨b, 0, none⟩) [x1, x2, x3] := fun i hi => by
  subst l1 l2 l3
  have hi2 : i < 3 := hi
  match i, hi2 with
  | 0, _ => exact ⟨b, 0, some ⟨b1, 0, none⟩, x1.length, rfl, lt_of_block h, cell_of_block h, lst_built h1 e1, (fun h => by cases h), Nat.le_refl _⟩
  | 1, _ => exact ⟨b, 0, some ⟨b2, 0, none⟩, x2.length, rfl, lt_of_block h, cell_of_block h, lst_built h2 e2, (fun h => by cases h), Nat.le_refl _⟩
  | 2, _ => exact ⟨b, 0, some ⟨b3, 0, none⟩, x3.length, rfl, lt_of_block h, cell_of_block h, lst_built h3 e3, (fun h => by cases h), Nat.le_refl _⟩
def AlivePost (w : World) (e : Ending) (w' : World) : Prop := e = .returned (.bool true) ∧ Grow w w'
set_option maxRecDepth 100000 in
set_option maxHeartbeats 4000000 in
theorem alive_any (w : World) : Calls Try.prog 8 #[] w (AlivePost w) := by
  go_enter Try.func8, Try.ntmps8
  go_wp2_with fail
  obtain ⟨f1, f2, f3, f4⟩ := heap4 w (.cells #[.int .i64 2] 3) (.cells #[.int .i64 1, .int .i64 5] 3) (.cells #[.int .i64 2] 3) (.cells #[.slice (some ⟨w.heap.size, 0, none⟩) 1 1, .slice (some ⟨w.heap.size + 1, 0, none⟩) 2 2, .slice (some ⟨w.heap.size + 1 + 1, 0, none⟩) 1 1] 22)
  have G0 := Lib.hid (grow4 w (.cells #[.int .i64 2] 3) (.cells #[.int .i64 1, .int .i64 5] 3) (.cells #[.int .i64 2] 3) (.cells #[.slice (some ⟨w.heap.size, 0, none⟩) 1 1, .slice (some ⟨w.heap.size + 1, 0, none⟩) 2 2, .slice (some ⟨w.heap.size + 1 + 1, 0, none⟩) 1 1] 22))
  refine (of_any (Ls := [[2], [1, 5], [2]]) (lsts3 f4 f1 f2 f3 rfl rfl rfl rfl rfl rfl) (by decide) (by unfold Short; decide)).mono ?_
  rintro e w1 ⟨sb, rfl, hs, hg⟩
  rw [alOf1] at hs
  have H1 := Lib.hid (And.intro hs (G0.out.trans hg))
  clear hs hg G0 f1 f2 f3 f4
  go_wp2_with fail
  obtain ⟨f1, f2, f3⟩ := heap3 w1 (.cells #[] 3) (.cells #[.int .i64 7] 3) (.cells #[.slice (some ⟨w1.heap.size, 0, none⟩) 0 0, .slice (some ⟨w1.heap.size + 1, 0, none⟩) 1 1] 22)
  have G0 := Lib.hid (grow3 w1 (.cells #[] 3) (.cells #[.int .i64 7] 3) (.cells #[.slice (some ⟨w1.heap.size, 0, none⟩) 0 0, .slice (some ⟨w1.heap.size + 1, 0, none⟩) 1 1] 22))
  refine (of_any (Ls := [[], [7]]) (lsts2 f3 f1 f2 rfl rfl rfl rfl) (by decide) (by unfold Short; decide)).mono ?_
  rintro e w2 ⟨tb, rfl, ht, hg⟩
  rw [alOf2] at ht
  have H2 := Lib.hid (And.intro (H1.out.1.go (G0.out.trans hg)) (And.intro ht (H1.out.2.trans (G0.out.trans hg))))
  clear ht hg G0 f1 f2 f3 H1
  go_wp2_with fail
  refine (len_any H2.out.1).mono ?_
  rintro e w2' ⟨rfl, rfl⟩
  go_wp2_with fail
  refine (times_any H2.out.1 H2.out.2.1 (by decide) (by decide) (by decide) (by decide) 2 (by decide)).mono ?_
  rintro e w3 ⟨ob, rfl, -, hg⟩
  have H3 := Lib.hid (And.intro (H2.out.1.go hg) (And.intro (H2.out.2.1.go hg) (H2.out.2.2.trans hg)))
  clear hg H2
  go_wp2_with fail
  refine (all_any H3.out.1 (by decide) (by decide)).mono ?_
  rintro e w4 ⟨v, rfl, hm, hg⟩
  obtain ⟨va, vc, rfl, hls, -, -⟩ := hm.lsts
  have H4 := Lib.hid (And.intro (H3.out.1.go hg) (And.intro (H3.out.2.1.go hg) (H3.out.2.2.trans hg)))
  have L4 := Lib.hid hls
  clear hg hm hls H3
  go_wp2_with fail
  obtain ⟨f1, f2, f3⟩ := heap3 w4 (.cells #[.int .i64 1, .int .i64 5] 3) (.cells #[.int .i64 2] 3) (.cells #[.slice (some ⟨w4.heap.size, 0, none⟩) 2 2, .slice (some ⟨w4.heap.size + 1, 0, none⟩) 1 1] 22)
  have G0 := Lib.hid (grow3 w4 (.cells #[.int .i64 1, .int .i64 5] 3) (.cells #[.int .i64 2] 3) (.cells #[.slice (some ⟨w4.heap.size, 0, none⟩) 2 2, .slice (some ⟨w4.heap.size + 1, 0, none⟩) 1 1] 22))
  refine (alike_any (A := [[1, 5], [2]]) (B := [[1, 5], [2]]) (L4.out.go G0.out) (lsts2 f3 f1 f2 rfl rfl rfl rfl) (by unfold Short; decide) (by unfold Short; decide) (by decide) (by decide)).mono ?_
  rintro e w5 ⟨rfl, hg⟩
  rw [decide_eq_true (rfl : ([[1, 5], [2]] : List (List Int)) = [[1, 5], [2]])]
  have H5 := Lib.hid (And.intro (H4.out.1.go (G0.out.trans hg)) (And.intro (H4.out.2.1.go (G0.out.trans hg)) (H4.out.2.2.trans (G0.out.trans hg))))
  clear hg G0 f1 f2 f3 H4 L4
  go_wp2_with fail
  refine (times_any H5.out.1 H5.out.2.1 (by decide) (by decide) (by decide) (by decide) 2 (by decide)).mono ?_
  rintro e w6 ⟨ob2, rfl, ho, hg⟩
  rw [alTimes] at ho
  have H6 := Lib.hid (And.intro ho (H5.out.2.2.trans hg))
  clear hg ho H5
  go_wp2_with fail
  refine (all_any H6.out.1 (by decide) (by decide)).mono ?_
  rintro e w7 ⟨v2, rfl, hm, hg⟩
  obtain ⟨va2, vc2, rfl, hls, -, -⟩ := hm.lsts
  have L7 := Lib.hid hls
  have H7 := Lib.hid (H6.out.2.trans hg)
  clear hg hm hls H6
  go_wp2_with fail
  obtain ⟨f1, f2, f3, f4⟩ := heap4 w7 (.cells #[.int .i64 1, .int .i64 5] 3) (.cells #[.int .i64 2] 3) (.cells #[.int .i64 2, .int .i64 7] 3) (.cells #[.slice (some ⟨w7.heap.size, 0, none⟩) 2 2, .slice (some ⟨w7.heap.size + 1, 0, none⟩) 1 1, .slice (some ⟨w7.heap.size + 1 + 1, 0, none⟩) 2 2] 22)
  have G0 := Lib.hid (grow4 w7 (.cells #[.int .i64 1, .int .i64 5] 3) (.cells #[.int .i64 2] 3) (.cells #[.int .i64 2, .int .i64 7] 3) (.cells #[.slice (some ⟨w7.heap.size, 0, none⟩) 2 2, .slice (some ⟨w7.heap.size + 1, 0, none⟩) 1 1, .slice (some ⟨w7.heap.size + 1 + 1, 0, none⟩) 2 2] 22))
  refine (alike_any (A := [[1, 5], [2], [2, 7]]) (B := [[1, 5], [2], [2, 7]]) (L7.out.go G0.out) (lsts3 f4 f1 f2 f3 rfl rfl rfl rfl rfl rfl) (by unfold Short; decide) (by unfold Short; decide) (by decide) (by decide)).mono ?_
  rintro e w8 ⟨rfl, hg⟩
  rw [decide_eq_true (rfl : ([[1, 5], [2], [2, 7]] : List (List Int)) = [[1, 5], [2], [2, 7]])]
  have H8 := Lib.hid (H7.out.trans (G0.out.trans hg))
  clear hg G0 f1 f2 f3 f4 H7 L7
  go_wp2_with fail
  refine (compare_any (B := ((w8.alloc (.cells #[.int .i64 1] 3)).alloc (.cells #[.int .i64 1, .int .i64 0] 3)).heap.size) (xs := [1]) (ys := [1, 0]) (lst_built (heap_alloc_keep (heap_alloc_this _ _)) rfl) (lst_built (by have := heap_alloc_this (w8.alloc (.cells #[.int .i64 1] 3)) (.cells #[.int .i64 1, .int .i64 0] 3); simpa using this) rfl) (by decide) (by decide)).mono ?_
  rintro e w9 ⟨rfl, hw⟩
  rw [alCmp]
  have H9 := Lib.hid (show Grow w w9 by rw [← hw]; exact H8.out.trans (((Below.refl _ _).alloc (Nat.le_refl _) _).alloc (by simp) _))
  clear hw H8
  go_wp2_with fail
  refine (join_any (B := ((w9.alloc (.cells #[.int .i64 1] 3)).alloc (.cells #[.int .i64 2, .int .i64 3] 3)).heap.size) (xs := [1]) (ys := [2, 3]) (lst_built (heap_alloc_keep (heap_alloc_this _ _)) rfl) (fun h => by cases h) (by decide) (by decide) (lst_built (by have := heap_alloc_this (w9.alloc (.cells #[.int .i64 1] 3)) (.cells #[.int .i64 2, .int .i64 3] 3); simpa using this) rfl) (fun h => by cases h) (by decide) (by decide) (Nat.le_refl _) 2 (by decide)).mono ?_
  rintro e w10 ⟨v3, rfl, hown, hb⟩
  rw [alJoin] at hown
  obtain ⟨va3, vc3, rfl, -, hvi, -, -⟩ := hown.shape
  have H10 := Lib.hid (show Grow w w10 from Grow.trans H9.out (Grow.trans (((Below.refl _ _).alloc (Nat.le_refl _) _).alloc (by simp) _) hb))
  have X10 := Lib.hid (show Lst w10 va3 [1, 2] from hvi)
  clear hown hb hvi H9
  go_wp2_with fail
  refine (same_any (B := (w10.alloc (.cells #[.int .i64 1, .int .i64 2] 3)).heap.size) (xs := [1, 2]) (ys := [1, 2]) (X10.out.go ((Below.refl _ _).alloc (Nat.le_refl _) _)) (lst_built (heap_alloc_this _ _) rfl) (by decide) (by decide)).mono ?_
  rintro e w11 ⟨rfl, n, hw⟩
  rw [decide_eq_true (rfl : ([1, 2] : List Int) = [1, 2])]
  have H11 := Lib.hid (show Grow w w11 by rw [hw]; exact Grow.trans (Grow.trans H10.out ((Below.refl _ _).alloc (Nat.le_refl _) _)) ⟨rfl, rfl, rfl, Nat.le_refl _, fun _ _ => rfl⟩)
  clear hw H10 X10
  go_wp2
  go_ret
  exact ⟨rfl, H11.out⟩
end Go.Proofs.Ytoiinikbbkmjoaa
