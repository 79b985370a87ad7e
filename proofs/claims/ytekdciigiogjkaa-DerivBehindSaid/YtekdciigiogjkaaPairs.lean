/- The document's example of a grammar. -/
import Derived.Test.YtekdciigiogjkaaYield
import Derived.Test.YtekdciigiogjkaaRWeight
namespace Go.Proofs.Ytekdciigiogjkaa
open Go.RowKit
def pairsG (n : Nat) : GramD :=
  ⟨some ⟨n + 1, 0, none⟩, [⟨#[97]⟩, ⟨#[98]⟩], 2, some ⟨n + 1 + 1, 0, none⟩, [⟨#[115]⟩], 1, some ⟨n + 1 + 1 + 1 + 1, 0, none⟩, [⟨0, some ⟨n + 1 + 1 + 1, 0, none⟩, [-1, 0, -2], 3, 0⟩, ⟨0, none, [], 0, 4611686018427387904⟩], 2⟩
def pairsB0 (n : Nat) : Obj := .cells #[.slice (some ⟨n + 1, 0, none⟩) 2 2, .slice (some ⟨n + 1 + 1, 0, none⟩) 1 1, .slice (some ⟨n + 1 + 1 + 1 + 1, 0, none⟩) 2 2] 25
def pairsB1 : Obj := .cells #[.string ⟨#[97]⟩, .string ⟨#[98]⟩] 9
def pairsB2 : Obj := .cells #[.string ⟨#[115]⟩] 9
def pairsB3 : Obj := .cells #[.int .i64 (-1), .int .i64 0, .int .i64 (-2)] 3
def pairsB4 (n : Nat) : Obj := .cells #[.int .i64 0, .slice (some ⟨n + 1 + 1 + 1, 0, none⟩) 3 3, .float .f64 0, .int .i64 0, .slice none 0 0, .float .f64 4611686018427387904] 52
theorem pairs_gram {w : World} {n : Nat} (h1 : w.heap[n + 1]? = some pairsB1) (h2 : w.heap[n + 1 + 1]? = some pairsB2) (h3 : w.heap[n + 1 + 1 + 1]? = some pairsB3) (h4 : w.heap[n + 1 + 1 + 1 + 1]? = some (pairsB4 n)) : GramAt w w.heap.size (pairsG n) := by
  have l1 := lt_of_block h1
  have l2 := lt_of_block h2
  have l3 := lt_of_block h3
  have l4 := lt_of_block h4
  refine ⟨fun i hi => ?_, fun i hi => ?_, fun i hi => ?_, by simp [pairsG], by simp [pairsG], by simp [pairsG], fun i hi => ?_⟩
  · refine ⟨n + 1, 0, rfl, l1, ?_⟩
    have hi2 : i < 2 := hi
    match i, hi2 with
    | 0, _ => exact ⟨cell_of_block h1, show 1 ≤ 9223372036854775807 by decide⟩
    | 1, _ => exact ⟨cell_of_block h1, show 1 ≤ 9223372036854775807 by decide⟩
  · refine ⟨n + 1 + 1, 0, rfl, l2, ?_⟩
    have hi2 : i < 1 := hi
    match i, hi2 with
    | 0, _ => exact ⟨cell_of_block h2, show 1 ≤ 9223372036854775807 by decide⟩
  · refine ⟨n + 1 + 1 + 1 + 1, 0, rfl, l4, ?_⟩
    have hi2 : i < 2 := hi
    match i, hi2 with
    | 0, _ =>
      refine ⟨cell_of_block h4, cell_of_block h4, cell_of_block h4, fun j hj => ?_, by simp [pairsG]⟩
      refine ⟨n + 1 + 1 + 1, 0, rfl, l3, ?_⟩
      have hj2 : j < 3 := hj
      match j, hj2 with
      | 0, _ => exact cell_of_block h3
      | 1, _ => exact cell_of_block h3
      | 2, _ => exact cell_of_block h3
    | 1, _ => exact ⟨cell_of_block h4, cell_of_block h4, cell_of_block h4, fun j hj => by simp [pairsG] at hj, by simp [pairsG]⟩
  · have hi2 : i < 2 := hi
    match i, hi2 with
    | 0, _ => intro h; cases h
    | 1, _ => intro _; rfl
theorem pairs_small (n : Nat) : Small (pairsG n) := by
  refine ⟨by simp [pairsG], fun i hi => ?_⟩
  have hi2 : i < 2 := hi
  match i, hi2 with
  | 0, _ => simp [pairsG]
  | 1, _ => simp [pairsG]
theorem pairs_any (w : World) : Calls Try.prog 24 #[] w fun e w' => e = .returned (GV (pairsG w.heap.size)) ∧ GramAt w' w'.heap.size (pairsG w.heap.size) ∧ Below w.heap.size w w' := by
  have HB : Hid (Below w.heap.size w (((((w.alloc (pairsB0 w.heap.size)).alloc pairsB1).alloc pairsB2).alloc pairsB3).alloc (pairsB4 w.heap.size))) :=
    (((((Below.refl _ _).alloc (Nat.le_refl _) _).alloc (by simp) _).alloc (by simp only [World.size_alloc]; omega) _).alloc (by simp only [World.size_alloc]; omega) _).alloc (by simp only [World.size_alloc]; omega) _
  have H0 : Hid ((((((w.alloc (pairsB0 w.heap.size)).alloc pairsB1).alloc pairsB2).alloc pairsB3).alloc (pairsB4 w.heap.size)).heap[w.heap.size]? = some (pairsB0 w.heap.size)) :=
    heap_alloc_keep (heap_alloc_keep (heap_alloc_keep (heap_alloc_keep (heap_alloc_this _ _))))
  have HG : Hid (GramAt (((((w.alloc (pairsB0 w.heap.size)).alloc pairsB1).alloc pairsB2).alloc pairsB3).alloc (pairsB4 w.heap.size)) (((((w.alloc (pairsB0 w.heap.size)).alloc pairsB1).alloc pairsB2).alloc pairsB3).alloc (pairsB4 w.heap.size)).heap.size (pairsG w.heap.size)) := by
    refine pairs_gram ?_ ?_ ?_ ?_
    · have := heap_alloc_keep (o := pairsB4 w.heap.size) (heap_alloc_keep (o := pairsB3) (heap_alloc_keep (o := pairsB2) (heap_alloc_this (w.alloc (pairsB0 w.heap.size)) pairsB1)))
      simpa using this
    · have := heap_alloc_keep (o := pairsB4 w.heap.size) (heap_alloc_keep (o := pairsB3) (heap_alloc_this ((w.alloc (pairsB0 w.heap.size)).alloc pairsB1) pairsB2))
      simpa using this
    · have := heap_alloc_keep (o := pairsB4 w.heap.size) (heap_alloc_this (((w.alloc (pairsB0 w.heap.size)).alloc pairsB1).alloc pairsB2) pairsB3)
      simpa using this
    · have := heap_alloc_this ((((w.alloc (pairsB0 w.heap.size)).alloc pairsB1).alloc pairsB2).alloc pairsB3) (pairsB4 w.heap.size)
      simpa using this
  go_enter Try.func24, Try.ntmps24
  go_wp2
  refine bodyPost_ret (results_cell_row (P := Try.prog) rfl _ _ w.heap.size 25 _ (0, 0) _ rfl H0.out Try.underlying25 rfl (by kernel_rfl)) rfl ⟨rfl, HG.out, HB.out⟩
end Go.Proofs.Ytekdciigiogjkaa
