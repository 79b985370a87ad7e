/- The document's example of a grammar. -/
import Derived.Test.YtfiafmhnmafnbaaYield
import Derived.Test.YtfiafmhnmafnbaaTextIn
namespace Go.Proofs.Ytfiafmhnmafnbaa
open Go.RowKit
def pairsG (n : Nat) : GramD :=
  ⟨some ⟨n + 1, 0, none⟩, [⟨#[97]⟩, ⟨#[98]⟩], 2, some ⟨n + 1 + 1, 0, none⟩, [⟨#[115]⟩], 1, some ⟨n + 1 + 1 + 1 + 1, 0, none⟩, [⟨0, some ⟨n + 1 + 1 + 1, 0, none⟩, [-1, 0, -2], 3, 0⟩, ⟨0, none, [], 0, 0⟩], 2⟩
def pairsB0 (n : Nat) : Obj := .cells #[.slice (some ⟨n + 1, 0, none⟩) 2 2, .slice (some ⟨n + 1 + 1, 0, none⟩) 1 1, .slice (some ⟨n + 1 + 1 + 1 + 1, 0, none⟩) 2 2] 25
def pairsB1 : Obj := .cells #[.string ⟨#[97]⟩, .string ⟨#[98]⟩] 9
def pairsB2 : Obj := .cells #[.string ⟨#[115]⟩] 9
def pairsB3 : Obj := .cells #[.int .i64 (-1), .int .i64 0, .int .i64 (-2)] 3
def pairsB4 (n : Nat) : Obj := .cells #[.int .i64 0, .slice (some ⟨n + 1 + 1 + 1, 0, none⟩) 3 3, .float .f64 0, .int .i64 0, .slice none 0 0, .float .f64 0] 51
theorem pairs_gram {w : World} {n : Nat} (h1 : w.heap[n + 1]? = some pairsB1) (h2 : w.heap[n + 1 + 1]? = some pairsB2) (h3 : w.heap[n + 1 + 1 + 1]? = some pairsB3) (h4 : w.heap[n + 1 + 1 + 1 + 1]? = some (pairsB4 n)) : GramAt w w.heap.size (pairsG n) := by
  have l1 := lt_of_block h1
  have l2 := lt_of_block h2
  have l3 := lt_of_block h3
  have l4 := lt_of_block h4
  refine ⟨fun i hi => ?_, fun i hi => ?_, fun i hi => ?_, by simp [pairsG], by simp [pairsG], by simp [pairsG], fun i hi => ?_⟩
  · refine ⟨n + 1, 0, rfl, l1, ?_⟩
    have hi2 : i < 2 := hi
    match i, hi2 with
    | 0, _ => exact ⟨cell_of_block h1, show 1 ≤ 9223372036854775807 by decide⟩
    | 1, _ => exact ⟨cell_of_block h1, show 1 ≤ 9223372036854775807 by decide⟩
  · refine ⟨n + 1 + 1, 0, rfl, l2, ?_⟩
    have hi2 : i < 1 := hi
    match i, hi2 with
    | 0, _ => exact ⟨cell_of_block h2, show 1 ≤ 9223372036854775807 by decide⟩
  · refine ⟨n + 1 + 1 + 1 + 1, 0, rfl, l4, ?_⟩
    have hi2 : i < 2 := hi
    match i, hi2 with
    | 0, _ =>
      refine ⟨cell_of_block h4, cell_of_block h4, cell_of_block h4, fun j hj => ?_, by simp [pairsG]⟩
      refine ⟨n + 1 + 1 + 1, 0, rfl, l3, ?_⟩
      have hj2 : j < 3 := hj
      match j, hj2 with
      | 0, _ => exact cell_of_block h3
      | 1, _ => exact cell_of_block h3
      | 2, _ => exact cell_of_block h3
    | 1, _ => exact ⟨cell_of_block h4, cell_of_block h4, cell_of_block h4, fun j hj => by simp [pairsG] at hj, by simp [pairsG]⟩
  · have hi2 : i < 2 := hi
    match i, hi2 with
    | 0, _ => intro h; cases h
    | 1, _ => intro _; rfl
theorem pairs_small (n : Nat) : Small (pairsG n) := by
  refine ⟨by simp [pairsG], fun i hi => ?_⟩
  have hi2 : i < 2 := hi
  match i, hi2 with
  | 0, _ => simp [pairsG]
  | 1, _ => simp [pairsG]
theorem pairs_any (w : World) : Calls Try.prog 22 #[] w fun e w' => e = .returned (GV (pairsG w.heap.size)) ∧ GramAt w' w'.heap.size (pairsG w.heap.size) ∧ Below w.heap.size w w' := by
  have HB : Hid (Below w.heap.size w (((((w.alloc (pairsB0 w.heap.size)).alloc pairsB1).alloc pairsB2).alloc pairsB3).alloc (pairsB4 w.heap.size))) :=
    (((((Below.refl _ _).alloc (Nat.le_refl _) _).alloc (by simp) _).alloc (by simp only [World.size_alloc]; omega) _).alloc (by simp only [World.size_alloc]; omega) _).alloc (by simp only [World.size_alloc]; omega) _
  have H0 : Hid ((((((w.alloc (pairsB0 w.heap.size)).alloc pairsB1).alloc pairsB2).alloc pairsB3).alloc (pairsB4 w.heap.size)).heap[w.heap.size]? = some (pairsB0 w.heap.size)) :=
    heap_alloc_keep (heap_alloc_keep (heap_alloc_keep (heap_alloc_keep (heap_alloc_this _ _))))
  have HG : Hid (GramAt (((((w.alloc (pairsB0 w.heap.size)).alloc pairsB1).alloc pairsB2).alloc pairsB3).alloc (pairsB4 w.heap.size)) (((((w.alloc (pairsB0 w.heap.size)).alloc pairsB1).alloc pairsB2).alloc pairsB3).alloc (pairsB4 w.heap.size)).heap.size (pairsG w.heap.size)) := by
    refine pairs_gram ?_ ?_ ?_ ?_
    · have := heap_alloc_keep (o := pairsB4 w.heap.size) (heap_alloc_keep (o := pairsB3) (heap_alloc_keep (o := pairsB2) (heap_alloc_this (w.alloc (pairsB0 w.heap.size)) pairsB1)))
      simpa using this
    · have := heap_alloc_keep (o := pairsB4 w.heap.size) (heap_alloc_keep (o := pairsB3) (heap_alloc_this ((w.alloc (pairsB0 w.heap.size)).alloc pairsB1) pairsB2))
      simpa using this
    · have := heap_alloc_keep (o := pairsB4 w.heap.size) (heap_alloc_this (((w.alloc (pairsB0 w.heap.size)).alloc pairsB1).alloc pairsB2) pairsB3)
      simpa using this
    · have := heap_alloc_this ((((w.alloc (pairsB0 w.heap.size)).alloc pairsB1).alloc pairsB2).alloc pairsB3) (pairsB4 w.heap.size)
      simpa using this
  go_enter Try.func22, Try.ntmps22
  go_wp2
  refine bodyPost_ret (results_cell_row (P := Try.prog) rfl _ _ w.heap.size 25 _ (0, 0) _ rfl H0.out Try.underlying25 rfl (by kernel_rfl)) rfl ⟨rfl, HG.out, HB.out⟩
theorem nt_1 : nt (-1) = 0 := by rfl
theorem nt_2 : nt (-2) = 1 := by rfl
theorem pairs_ok (n : Nat) : GramOk (pairsG n) := by
  intro k hk
  have hk2 : k < 2 := hk
  match k, hk2 with
  | 0, _ =>
    refine ⟨(by decide : (0 : Int) ≤ 0 ∧ (0 : Int) < ((1 : Nat) : Int)), fun j hj => ?_, fun l _ h => by omega⟩
    have hj2 : j < 3 := hj
    match j, hj2 with
    | 0, _ => exact ⟨(by decide : (-1 : Int) < ((1 : Nat) : Int)), fun _ => (by rw [nt_1]; decide : nt (-1) < ((2 : Nat) : Int))⟩
    | 1, _ => exact ⟨(by decide : (0 : Int) < ((1 : Nat) : Int)), (by decide : (0 : Int) < 0 → nt 0 < ((2 : Nat) : Int))⟩
    | 2, _ => exact ⟨(by decide : (-2 : Int) < ((1 : Nat) : Int)), fun _ => (by rw [nt_2]; decide : nt (-2) < ((2 : Nat) : Int))⟩
  | 1, _ =>
    refine ⟨(by decide : (0 : Int) ≤ 0 ∧ (0 : Int) < ((1 : Nat) : Int)), fun j hj => absurd (show j < 0 from hj) (by omega), fun l _ h => ?_⟩
    obtain rfl : l = 0 := by omega
    intro _ h
    cases h
theorem pairs_brief (n : Nat) : Brief (pairsG n) := by
  refine ⟨fun i hi => ?_, fun i hi => ?_⟩
  · have hi2 : i < 2 := hi
    match i, hi2 with
    | 0, _ => exact (by decide : (1 : Nat) ≤ 1048576)
    | 1, _ => exact (by decide : (1 : Nat) ≤ 1048576)
  · have hi2 : i < 1 := hi
    match i, hi2 with
    | 0, _ => exact (by decide : (1 : Nat) ≤ 1048576)
/-- The example's tree. -/
def pairsT : PT := .node 0 0 [.node (-1) (-1) [], .node 0 1 [], .node (-2) (-1) []]
theorem pairsT_valid (n : Nat) : pairsT.valid (pairsG n) = true := by rfl
theorem pairs_sym (n : Nat) : SymOk (pairsG n) 0 ∧ SymOk (pairsG n) (-1) ∧ SymOk (pairsG n) (-2) :=
  ⟨⟨(by decide : (0 : Int) < ((1 : Nat) : Int)), (by decide : (0 : Int) < 0 → 0 ≤ nt 0 ∧ nt 0 < ((2 : Nat) : Int))⟩,
   ⟨(by decide : (-1 : Int) < ((1 : Nat) : Int)), fun _ => (by rw [nt_1]; decide : 0 ≤ nt (-1) ∧ nt (-1) < ((2 : Nat) : Int))⟩,
   ⟨(by decide : (-2 : Int) < ((1 : Nat) : Int)), fun _ => (by rw [nt_2]; decide : 0 ≤ nt (-2) ∧ nt (-2) < ((2 : Nat) : Int))⟩⟩
theorem pairsT_named (n : Nat) : pairsT.named (pairsG n) :=
  ⟨(pairs_sym n).1, ⟨(pairs_sym n).2.1, trivial⟩, ⟨(pairs_sym n).1, trivial⟩, ⟨(pairs_sym n).2.2, trivial⟩, trivial⟩
theorem pairsT_text (n : Nat) : strOf (pairsT.text (pairsG n)) = ⟨#[40, 115, 32, 39, 97, 39, 32, 40, 115, 41, 32, 39, 98, 39, 41]⟩ := by rfl
mutual
theorem tree_unique {g : GramD} : ∀ (t u : PT) (r1 r2 : List Int), t.valid g = true → u.valid g = true → t.sym = u.sym → t.rules ++ r1 = u.rules ++ r2 → t = u ∧ r1 = r2
  | .node s r ks, .node s2 r' ls, r1, r2, hv, hu, hs, hr => by
    obtain rfl : s = s2 := hs
    by_cases h0 : 0 ≤ s
    · obtain ⟨k, rfl, hk, hl, hsy, hkv⟩ := valid_var hv h0
      obtain ⟨k2, rfl, hk2, hl2, hsy2, hkv2⟩ := valid_var hu h0
      simp only [PT.rules, if_pos h0, List.cons_append, List.nil_append, List.cons.injEq] at hr
      obtain rfl : k = k2 := by omega
      have := trees_unique ks ls r1 r2 hkv hkv2 (hsy.trans hsy2.symm) hr.2
      exact ⟨by rw [this.1], this.2⟩
    · obtain ⟨_, rfl, rfl⟩ := valid_leaf hv (by omega)
      obtain ⟨_, rfl, rfl⟩ := valid_leaf hu (by omega)
      simp only [PT.rules, PT.rulesL, if_neg h0, List.nil_append, List.append_nil] at hr
      exact ⟨rfl, hr⟩
theorem trees_unique {g : GramD} : ∀ (ks ls : List PT) (r1 r2 : List Int), (∀ k ∈ ks, k.valid g = true) → (∀ k ∈ ls, k.valid g = true) → ks.map PT.sym = ls.map PT.sym → PT.rulesL ks ++ r1 = PT.rulesL ls ++ r2 → ks = ls ∧ r1 = r2
  | [], [], r1, r2, _, _, _, hr => ⟨rfl, by simpa [PT.rulesL] using hr⟩
  | [], _ :: _, _, _, _, _, hs, _ => by simp at hs
  | _ :: _, [], _, _, _, _, hs, _ => by simp at hs
  | k :: ks, l :: ls, r1, r2, hv, hu, hs, hr => by
    simp only [List.map_cons, List.cons.injEq] at hs
    simp only [PT.rulesL, List.append_assoc] at hr
    obtain ⟨h1, h2⟩ := tree_unique k l _ _ (hv k (by simp)) (hu l (by simp)) hs.1 hr
    obtain ⟨h3, h4⟩ := trees_unique ks ls r1 r2 (fun x hx => hv x (by simp [hx])) (fun x hx => hu x (by simp [hx])) hs.2 h2
    exact ⟨by rw [h1, h3], h4⟩
end
theorem pairs_tree {n : Nat} {t : PT} (hv : t.valid (pairsG n) = true) (hs : t.sym = 0) (hr : t.rules = [0, 1]) : t = pairsT :=
  (tree_unique t pairsT [] [] hv (pairsT_valid n) hs (by rw [hr]; rfl)).1
end Go.Proofs.Ytfiafmhnmafnbaa
