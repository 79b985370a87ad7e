/- The document's example of a grammar, and its sets. -/
import Derived.Test.YtmiiolgbjicocaaOfW
import Derived.Test.YtmiiolgbjicocaaClashW
namespace Go.Proofs.Ytmiiolgbjicocaa
open Go.RowKit
def onesG (n : Nat) : GramD :=
  ⟨some ⟨n + 1, 0, none⟩, [⟨#[97]⟩], 1, some ⟨n + 1 + 1, 0, none⟩, [⟨#[115]⟩], 1, some ⟨n + 1 + 1 + 1 + 1 + 1, 0, none⟩, [⟨0, some ⟨n + 1 + 1 + 1, 0, none⟩, [-1, 0], 2, 0⟩, ⟨0, some ⟨n + 1 + 1 + 1 + 1, 0, none⟩, [-1], 1, 0⟩], 2⟩
def onesB0 (n : Nat) : Obj := .cells #[.slice (some ⟨n + 1, 0, none⟩) 1 1, .slice (some ⟨n + 1 + 1, 0, none⟩) 1 1, .slice (some ⟨n + 1 + 1 + 1 + 1 + 1, 0, none⟩) 2 2] 25
def onesB1 : Obj := .cells #[.string ⟨#[97]⟩] 9
def onesB2 : Obj := .cells #[.string ⟨#[115]⟩] 9
def onesB3 : Obj := .cells #[.int .i64 (-1), .int .i64 0] 3
def onesB4 : Obj := .cells #[.int .i64 (-1)] 3
def onesB5 (n : Nat) : Obj := .cells #[.int .i64 0, .slice (some ⟨n + 1 + 1 + 1, 0, none⟩) 2 2, .float .f64 0, .int .i64 0, .slice (some ⟨n + 1 + 1 + 1 + 1, 0, none⟩) 1 1, .float .f64 0] 64
theorem ones_gram {w : World} {n : Nat} (h1 : w.heap[n + 1]? = some onesB1) (h2 : w.heap[n + 1 + 1]? = some onesB2) (h3 : w.heap[n + 1 + 1 + 1]? = some onesB3) (h4 : w.heap[n + 1 + 1 + 1 + 1]? = some onesB4) (h5 : w.heap[n + 1 + 1 + 1 + 1 + 1]? = some (onesB5 n)) : GramAt w w.heap.size (onesG n) := by
  have l1 := lt_of_block h1
  have l2 := lt_of_block h2
  have l3 := lt_of_block h3
  have l4 := lt_of_block h4
  have l5 := lt_of_block h5
  refine ⟨fun i hi => ?_, fun i hi => ?_, fun i hi => ?_, by simp [onesG], by simp [onesG], by simp [onesG], fun i hi => ?_⟩
  · refine ⟨n + 1, 0, rfl, l1, ?_⟩
    have hi2 : i < 1 := hi
    match i, hi2 with
    | 0, _ => exact ⟨cell_of_block h1, show 1 ≤ 9223372036854775807 by decide⟩
  · refine ⟨n + 1 + 1, 0, rfl, l2, ?_⟩
    have hi2 : i < 1 := hi
    match i, hi2 with
    | 0, _ => exact ⟨cell_of_block h2, show 1 ≤ 9223372036854775807 by decide⟩
  · refine ⟨n + 1 + 1 + 1 + 1 + 1, 0, rfl, l5, ?_⟩
    have hi2 : i < 2 := hi
    match i, hi2 with
    | 0, _ =>
      refine ⟨cell_of_block h5, cell_of_block h5, cell_of_block h5, fun j hj => ?_, by simp [onesG]⟩
      refine ⟨n + 1 + 1 + 1, 0, rfl, l3, ?_⟩
      have hj2 : j < 2 := hj
      match j, hj2 with
      | 0, _ => exact cell_of_block h3
      | 1, _ => exact cell_of_block h3
    | 1, _ =>
      refine ⟨cell_of_block h5, cell_of_block h5, cell_of_block h5, fun j hj => ?_, by simp [onesG]⟩
      refine ⟨n + 1 + 1 + 1 + 1, 0, rfl, l4, ?_⟩
      have hj2 : j < 1 := hj
      match j, hj2 with
      | 0, _ => exact cell_of_block h4
  · have hi2 : i < 2 := hi
    match i, hi2 with
    | 0, _ => intro h; cases h
    | 1, _ => intro h; cases h
theorem ones_any (w : World) : Calls Try.prog 24 #[] w fun e w' => e = .returned (GV (onesG w.heap.size)) ∧ GramAt w' w'.heap.size (onesG w.heap.size) ∧ Grow w w' := by
  have HB : Hid (Grow w ((((((w.alloc (onesB0 w.heap.size)).alloc onesB1).alloc onesB2).alloc onesB3).alloc onesB4).alloc (onesB5 w.heap.size))) :=
    (((((grow_one _ _).trans (grow_one _ _)).trans (grow_one _ _)).trans (grow_one _ _)).trans (grow_one _ _)).trans (grow_one _ _)
  have H0 : Hid (((((((w.alloc (onesB0 w.heap.size)).alloc onesB1).alloc onesB2).alloc onesB3).alloc onesB4).alloc (onesB5 w.heap.size)).heap[w.heap.size]? = some (onesB0 w.heap.size)) :=
    heap_alloc_keep (heap_alloc_keep (heap_alloc_keep (heap_alloc_keep (heap_alloc_keep (heap_alloc_this _ _)))))
  have HG : Hid (GramAt ((((((w.alloc (onesB0 w.heap.size)).alloc onesB1).alloc onesB2).alloc onesB3).alloc onesB4).alloc (onesB5 w.heap.size)) ((((((w.alloc (onesB0 w.heap.size)).alloc onesB1).alloc onesB2).alloc onesB3).alloc onesB4).alloc (onesB5 w.heap.size)).heap.size (onesG w.heap.size)) := by
    refine ones_gram ?_ ?_ ?_ ?_ ?_
    · have := heap_alloc_keep (o := onesB5 w.heap.size) (heap_alloc_keep (o := onesB4) (heap_alloc_keep (o := onesB3) (heap_alloc_keep (o := onesB2) (heap_alloc_this (w.alloc (onesB0 w.heap.size)) onesB1))))
      simpa using this
    · have := heap_alloc_keep (o := onesB5 w.heap.size) (heap_alloc_keep (o := onesB4) (heap_alloc_keep (o := onesB3) (heap_alloc_this ((w.alloc (onesB0 w.heap.size)).alloc onesB1) onesB2)))
      simpa using this
    · have := heap_alloc_keep (o := onesB5 w.heap.size) (heap_alloc_keep (o := onesB4) (heap_alloc_this (((w.alloc (onesB0 w.heap.size)).alloc onesB1).alloc onesB2) onesB3))
      simpa using this
    · have := heap_alloc_keep (o := onesB5 w.heap.size) (heap_alloc_this ((((w.alloc (onesB0 w.heap.size)).alloc onesB1).alloc onesB2).alloc onesB3) onesB4)
      simpa using this
    · have := heap_alloc_this (((((w.alloc (onesB0 w.heap.size)).alloc onesB1).alloc onesB2).alloc onesB3).alloc onesB4) (onesB5 w.heap.size)
      simpa using this
  go_enter Try.func24, Try.ntmps24
  go_wp2
  refine bodyPost_ret (results_cell_row (P := Try.prog) rfl _ _ w.heap.size 25 _ (0, 0) _ rfl H0.out Try.underlying25 rfl (by kernel_rfl)) rfl ⟨rfl, HG.out, HB.out⟩
theorem ones_rules (n : Nat) : rulesOf (onesG n) = [(0, [-1, 0]), (0, [-1])] := rfl
theorem ones_good : GoodR 1 [(0, [-1, 0]), (0, [-1])] := fun r hr => by
  simp only [List.mem_cons, List.not_mem_nil, or_false] at hr
  rcases hr with rfl | rfl
  · exact ⟨by decide, fun s hs => by simp at hs; rcases hs with rfl | rfl <;> decide, by decide⟩
  · exact ⟨by decide, fun s hs => by simp at hs; subst hs; decide, by decide⟩
theorem one_list {F : List Wds} (h : F.length = 1) : F = [F.getD 0 []] := by
  match F, h with
  | [A], _ => rfl
theorem ones_few {K : Int} (hK : K ≤ 2) : ¬ Over K [(0, [-1, 0]), (0, [-1])] 1 100 := by
  rintro ⟨F, Fo, h1, h2, h3⟩
  have e1 := one_list h1.len
  have e2 := one_list h2.len
  have l1 := okW_few (h1.sorted 0) (sysF_ok hK ones_good h1 0)
  have l2 := okW_few (h2.sorted 0) (sysD_ok hK ones_good h2 0)
  rw [e1, e2] at h3
  simp only [wordsN, List.map_cons, List.map_nil, List.sum_cons, List.sum_nil] at h3
  omega
theorem ones_fol {K n : Int} {m sb : Nat} {F Fo : List Wds} {w : World} (h : GoodSets K n (onesG m) sb F Fo w) : Fo = [[[]]] := by
  obtain ⟨_, h1, h2, h3, h4, _⟩ := h
  rw [ones_rules] at h1 h2 h3 h4
  rw [one_list h2.len]
  congr 1
  refine sorted_unique (h2.sorted 0) (fun i j a b hij hi hj => ?_) (fun w => ?_)
  · have := (List.getElem?_eq_some_iff.1 hj).1
    simp at this
    omega
  · constructor
    · intro hw
      have := h2.least (fun _ _ => True) (fun v w => v = 0 → w = []) (fun _ _ _ _ => trivial) ⟨fun _ => rfl, fun r hr i x hx h0 w ht hx0 => by
        simp only [List.mem_cons, List.not_mem_nil, or_false] at hr
        rcases hr with rfl | rfl
        · match i, hx with
          | 0, hx => simp at hx; omega
          | 1, hx => exact ht rfl
          | i + 2, hx => simp at hx
        · match i, hx with
          | 0, hx => simp at hx; omega
          | i + 1, hx => simp at hx⟩ 0 w hw rfl
      simp [this]
    · intro hw
      obtain rfl : w = [] := by simpa using hw
      exact h4.1
theorem ones_first1 {n : Int} {m sb : Nat} {F Fo : List Wds} {w : World} (h : GoodSets 1 n (onesG m) sb F Fo w) : F = [[[0]]] := by
  obtain ⟨_, h1, h2, h3, h4, _⟩ := h
  rw [ones_rules] at h1 h2 h3 h4
  rw [one_list h1.len]
  congr 1
  refine sorted_unique (h1.sorted 0) (fun i j a b hij hi hj => ?_) (fun w => ?_)
  · have := (List.getElem?_eq_some_iff.1 hj).1
    simp at this
    omega
  · constructor
    · intro hw
      have := h1.least (fun v w => v = 0 → w = [0]) (fun r hr w ht hx0 => by
        simp only [List.mem_cons, List.not_mem_nil, or_false] at hr
        rcases hr with rfl | rfl
        all_goals
          obtain ⟨a, ha, b, hb, rfl⟩ := ht
          unfold xP at ha
          rw [if_neg (by decide)] at ha
          subst ha
          rfl) 0 w hw rfl
      simp [this]
    · intro hw
      obtain rfl : w = [0] := by simpa using hw
      exact h3 (0, [-1]) (by simp) [0] ⟨[0], by unfold xP; rw [if_neg (by decide)]; rfl, [], ⟨[], rfl, rfl⟩, rfl⟩
theorem ones_first2 {n : Int} {m sb : Nat} {F Fo : List Wds} {w : World} (h : GoodSets 2 n (onesG m) sb F Fo w) : F = [[[0], [0, 0]]] := by
  obtain ⟨_, h1, h2, h3, h4, _⟩ := h
  rw [ones_rules] at h1 h2 h3 h4
  rw [one_list h1.len]
  congr 1
  refine sorted_unique (h1.sorted 0) (fun i j a b hij hi hj => ?_) (fun w => ?_)
  · match i, j, hij, hi, hj with
    | 0, 1, _, hi, hj => simp at hi hj; subst hi hj; rfl
    | 0, j + 2, _, _, hj => simp at hj
    | i + 1, 1, h, _, _ => omega
    | i + 1, j + 2, _, _, hj => simp at hj
  · have hb1 : memF F 0 [0] := h3 (0, [-1]) (by simp) [0] ⟨[0], by unfold xP; rw [if_neg (by decide)]; rfl, [], ⟨[], rfl, rfl⟩, rfl⟩
    constructor
    · intro hw
      have := h1.least (fun v w => v = 0 → w = [0] ∨ w = [0, 0]) (fun r hr w ht hx0 => by
        simp only [List.mem_cons, List.not_mem_nil, or_false] at hr
        rcases hr with rfl | rfl
        · obtain ⟨a, ha, b, ⟨a2, ha2, b2, ⟨t, rfl, rfl⟩, rfl⟩, rfl⟩ := ht
          unfold xP at ha ha2
          rw [if_neg (by decide)] at ha
          rw [if_pos (by decide)] at ha2
          subst ha
          rcases ha2 rfl with rfl | rfl
          · exact .inr rfl
          · exact .inr rfl
        · obtain ⟨a, ha, b, ⟨t, rfl, rfl⟩, rfl⟩ := ht
          unfold xP at ha
          rw [if_neg (by decide)] at ha
          subst ha
          exact .inl rfl) 0 w hw rfl
      simpa using this
    · intro hw
      have hw2 : w = [0] ∨ w = [0, 0] := by simpa using hw
      rcases hw2 with rfl | rfl
      · exact hb1
      · exact h3 (0, [-1, 0]) (by simp) [0, 0] ⟨[0], by unfold xP; rw [if_neg (by decide)]; rfl, [0], ⟨[0], by unfold xP; rw [if_pos (by decide)]; exact hb1, [], ⟨[], rfl, rfl⟩, rfl⟩, rfl⟩
/-- Rows are told by what was put in. -/
theorem rows_unique {E : Adds} {v : Nat} {x y : List TRow} (hx : RowsOf E v x) (hy : RowsOf E v y) : x = y := by
  have hm : ∀ {x : List TRow}, RowsOf E v x → ∀ l, l ∈ x.map Prod.fst ↔ rulesE E v l ≠ [] := fun {x} hx l => by
    constructor
    · intro h
      obtain ⟨⟨l', rs⟩, hr, rfl⟩ := List.mem_map.1 h
      obtain ⟨h1, h2⟩ := (hx.mem _ _).1 hr
      rw [← h1]; exact h2
    · intro h
      exact List.mem_map.2 ⟨(l, rulesE E v l), (hx.mem _ _).2 ⟨rfl, h⟩, rfl⟩
  have hf : x.map Prod.fst = y.map Prod.fst := sorted_unique hx.srt hy.srt (fun l => by rw [hm hx, hm hy])
  have hg : ∀ {x : List TRow}, RowsOf E v x → x = (x.map Prod.fst).map (fun l => (l, rulesE E v l)) := fun {x} hx => by
    rw [List.map_map]
    conv => lhs; rw [← List.map_id x]
    refine List.map_congr_left (fun r hr => ?_)
    obtain ⟨h1, _⟩ := (hx.mem r.1 r.2).1 hr
    show r = (r.1, rulesE E v r.1)
    rw [← h1]
  rw [hg hx, hg hy, hf]
theorem ones_rows1 : RowsOf [(0, [0], 0), (0, [0], 1)] 0 [([0], [0, 1])] := by
  refine ⟨fun i j a b hij hi hj => ?_, fun look rs => ?_, by decide⟩
  · have := (List.getElem?_eq_some_iff.1 hj).1
    simp at this
    omega
  · by_cases h : [0] = look
    · subst h
      have e : rulesE [(0, [0], 0), (0, [0], 1)] 0 [0] = [0, 1] := by rfl
      rw [e]
      simp only [List.mem_singleton, Prod.mk.injEq, true_and]
      exact ⟨fun h => ⟨h, by rw [h]; simp⟩, fun h => h.1⟩
    · have e : rulesE [(0, [0], 0), (0, [0], 1)] 0 look = [] := by
        unfold rulesE
        simp [h]
      rw [e]
      constructor
      · intro h2
        simp at h2
        exact absurd h2.1.symm h
      · rintro ⟨h2, h3⟩
        exact absurd h2 h3
theorem ones_rows2 : RowsOf [(0, [0, 0], 0), (0, [0], 1)] 0 [([0], [1]), ([0, 0], [0])] := by
  refine ⟨fun i j a b hij hi hj => ?_, fun look rs => ?_, by decide⟩
  · match i, j, hij, hi, hj with
    | 0, 1, _, hi, hj => simp at hi hj; subst hi hj; rfl
    | 0, j + 2, _, _, hj => simp at hj
    | i + 1, 1, h, _, _ => omega
    | i + 1, j + 2, _, _, hj => simp at hj
  · by_cases h : [0] = look
    · subst h
      have e : rulesE [(0, [0, 0], 0), (0, [0], 1)] 0 [0] = [1] := by rfl
      rw [e]
      constructor
      · intro h
        simp at h
        exact ⟨h, by rw [h]; simp⟩
      · rintro ⟨h, _⟩
        simp [h]
    · by_cases h5 : [0, 0] = look
      · subst h5
        have e : rulesE [(0, [0, 0], 0), (0, [0], 1)] 0 [0, 0] = [0] := by rfl
        rw [e]
        constructor
        · intro h
          simp at h
          exact ⟨h, by rw [h]; simp⟩
        · rintro ⟨h, _⟩
          simp [h]
      · have e : rulesE [(0, [0, 0], 0), (0, [0], 1)] 0 look = [] := by
          unfold rulesE
          simp [h, h5]
        rw [e]
        constructor
        · intro h2
          simp at h2
          rcases h2 with h2 | h2
          · exact absurd h2.1.symm h
          · exact absurd h2.1.symm h5
        · rintro ⟨h2, h3⟩
          exact absurd h2 h3
theorem ones_adds1 (n : Nat) : addsOf 1 (onesG n) [[[0]]] [[[]]] 2 = [(0, [0], 0), (0, [0], 1)] := by rfl
theorem ones_adds2 (n : Nat) : addsOf 2 (onesG n) [[[0], [0, 0]]] [[[]]] 2 = [(0, [0, 0], 0), (0, [0], 1)] := by rfl
end Go.Proofs.Ytmiiolgbjicocaa
