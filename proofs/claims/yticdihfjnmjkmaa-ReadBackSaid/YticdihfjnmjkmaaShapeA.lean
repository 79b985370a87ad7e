/- The law's shape of alternatives. -/
import Derived.Test.YticdihfjnmjkmaaBackA
import Derived.Laws.OwnMore
import Derived.Test.YticdihfjnmjkmaaNumb
import Derived.Test.YticdihfjnmjkmaaSm1
namespace Go.Proofs.Yticdihfjnmjkmaa
open Go.RowKit
theorem rowC_set (sz : Nat) : ∀ (ms : List MN), (∀ m ∈ ms, m.cells.length = sz) → ∀ k (h : k < ms.length) (m' : MN) (off : Nat) (u : Value), off < sz → m'.cells = (ms[k]).cells.set off u → rowC (ms.set k m') = (rowC ms).set (k * sz + off) u
  | [], _, k, h, _, _, _, _, _ => by simp at h
  | m :: ms, hs, 0, h, m', off, u, ho, he => by
    have h0 : m.cells.length = sz := hs m (by simp)
    show m'.cells ++ rowC ms = (m.cells ++ rowC ms).set (0 * sz + off) u
    rw [Nat.zero_mul, Nat.zero_add, List.set_append_left _ _ (by omega), he]
    rfl
  | m :: ms, hs, k + 1, h, m', off, u, ho, he => by
    have h0 : m.cells.length = sz := hs m (by simp)
    show m.cells ++ rowC (ms.set k m') = (m.cells ++ rowC ms).set ((k + 1) * sz + off) u
    rw [Nat.succ_mul, List.set_append_right _ _ (by rw [h0]; omega), h0, show k * sz + sz + off - sz = k * sz + off by omega, rowC_set sz ms (fun m hm => hs m (List.mem_cons_of_mem _ hm)) k (by simpa using h) m' off u ho he]
/-- The rows of a list of alternatives: all cells known; the blocks lie apart, below S1. -/
structure Raw (w : World) (H S1 : Nat) (v0 : Value) (cur : List MN) : Prop where
  row : w.ownsRow H 81 3 v0 cur.length (rowC cur)
  sizes : ∀ m ∈ cur, m.cells.length = 3
  rows : ∀ m ∈ cur, w.ownsRow H 83 5 m.sl m.kids.length (rowC m.kids)
  szs : ∀ m ∈ cur, ∀ i ∈ m.kids, i.cells.length = 5
  apart : cur.Pairwise Apart
  low0 : ∀ g, v0.ownBlock = some g → g < S1
  low : ∀ m ∈ cur, ∀ g, m.sl.ownBlock = some g → g < S1
theorem Raw.go {w w' : World} {H S1 : Nat} {v0 : Value} {cur : List MN} (h : Raw w H S1 v0 cur) {S : Nat → Prop} (hk : Kept S w w') (hS : ∀ k, S k → S1 ≤ k) : Raw w' H S1 v0 cur :=
  ⟨row_kept h.row (fun g hg => hk.block g (row_lt h.row hg).2 (fun hs => by have := hS _ hs; have := h.low0 g hg; omega)), h.sizes,
    fun m hm => row_kept (h.rows m hm) (fun g hg => hk.block g (row_lt (h.rows m hm) hg).2 (fun hs => by have := hS _ hs; have := h.low m hm g hg; omega)), h.szs, h.apart, h.low0, h.low⟩
/-- Blocks of two types are two. -/
theorem row_type {w : World} {lo lo' : Nat} {e e' : TypeId} {sz sz' : Nat} {v v' : Value} {n n' : Nat} {xs xs' : List Value} (h : w.ownsRow lo e sz v n xs) (h' : w.ownsRow lo' e' sz' v' n' xs') (he : e ≠ e') {g : Nat} (hg : v.ownBlock = some g) : v'.ownBlock ≠ some g := fun hg' => by
  rcases h.2 with ⟨rfl, _⟩ | ⟨a, cap, cur, rfl, _, h2, _⟩
  · simp [Value.ownBlock] at hg
  rcases h'.2 with ⟨rfl, _⟩ | ⟨a', cap', cur', rfl, _, h3, _⟩
  · simp [Value.ownBlock] at hg'
  simp only [Value.ownBlock, Option.some.injEq] at hg hg'
  subst hg hg'
  rw [h2] at h3
  simp at h3
  exact he h3.2
theorem apart_set {cur : List MN} {k : Nat} {m m' : MN} (h : cur.Pairwise Apart) (hk : cur[k]? = some m) (hs : m'.sl = m.sl) : (cur.set k m').Pairwise Apart := by
  have hkl : k < cur.length := (List.getElem?_eq_some_iff.1 hk).1
  have hm : cur[k] = m := (List.getElem?_eq_some_iff.1 hk).2
  rw [List.pairwise_iff_getElem] at h ⊢
  intro i j hi hj hij
  simp only [List.length_set] at hi hj
  have h0 := h i j hi hj hij
  unfold Apart at *
  rw [List.getElem_set, List.getElem_set]
  by_cases h1 : k = i
  · subst h1
    rw [if_pos rfl, if_neg (by omega), hs, ← hm]
    exact h0
  · rw [if_neg h1]
    by_cases h2 : k = j
    · subst h2
      rw [if_pos rfl, hs, ← hm]
      exact h0
    · rw [if_neg h2]
      exact h0
theorem mem_set {α : Type} {l : List α} {k : Nat} {a x : α} (h : x ∈ l.set k a) : x = a ∨ x ∈ l := (List.mem_or_eq_of_mem_set h).symm
/-- A cell ahead of an alternative's pieces, turned. -/
theorem Raw.head {w : World} {H S1 : Nat} {cur : List MN} {g n cap : Nat} (h : Raw w H S1 (.slice (some ⟨g, 0, none⟩) n cap) cur) (hn : n = cur.length) {k : Nat} {a b : Value} {post : List Value} {v : Value} {its : List MN} (hk : cur[k]? = some (.node [a, b] post v its)) {off : Nat} {u : Value} {pre : List Value} (hp : pre = [a, b].set off u) (ho : off < 2) :
    Raw (w.setCell ⟨g, k * 3 + off, none⟩ u) H S1 (.slice (some ⟨g, 0, none⟩) n cap) (cur.set k (.node pre post v its)) ∧ Kept (· = g) w (w.setCell ⟨g, k * 3 + off, none⟩ u) := by
  subst hn
  have hkl : k < cur.length := (List.getElem?_eq_some_iff.1 hk).1
  have hm : cur[k] = .node [a, b] post v its := (List.getElem?_eq_some_iff.1 hk).2
  have hmem : MN.node [a, b] post v its ∈ cur := List.mem_of_getElem? hk
  have hk1 : Kept (· = g) w (w.setCell ⟨g, k * 3 + off, none⟩ u) := Kept.setCell (S := (· = g)) (Kept.refl _ _) (p := ⟨g, k * 3 + off, none⟩) (.inl rfl) u
  have hcs : (MN.node pre post v its).cells = (cur[k]).cells.set off u := by
    rw [hm, hp]
    simp only [MN.cells]
    rw [List.set_append_left _ _ (by simpa using ho)]
  have hr := (h.row.stored (k * 3 + off) u).1
  rw [← rowC_set 3 cur h.sizes k hkl _ off u (by omega) hcs] at hr
  have hrows : ∀ m ∈ cur, (w.setCell ⟨g, k * 3 + off, none⟩ u).ownsRow H 83 5 m.sl m.kids.length (rowC m.kids) := fun m hm => row_kept (h.rows m hm) (fun x hx => hk1.block x (row_lt (h.rows m hm) hx).2 (fun e => row_type (h.rows m hm) h.row (by decide) hx (by rw [e]; rfl)))
  refine ⟨⟨by rw [List.length_set]; exact hr, fun m hm => ?_, fun m hm => ?_, fun m hm => ?_, apart_set h.apart hk rfl, h.low0, fun m hm => ?_⟩, hk1⟩
  · rcases mem_set hm with rfl | hm
    · rw [hcs, List.length_set]; exact h.sizes _ (List.getElem_mem hkl)
    · exact h.sizes m hm
  · rcases mem_set hm with rfl | hm
    · have := hrows _ hmem
      exact this
    · exact hrows m hm
  · rcases mem_set hm with rfl | hm
    · have := h.szs _ hmem
      exact this
    · exact h.szs m hm
  · rcases mem_set hm with rfl | hm
    · have := h.low _ hmem
      exact this
    · exact h.low m hm
/-- A piece's cell, turned. -/
theorem Raw.kid {w : World} {H S1 : Nat} {v0 : Value} {cur : List MN} (h : Raw w H S1 v0 cur) {k : Nat} {pre post : List Value} {g n cap : Nat} {its : List MN} (hk : cur[k]? = some (.node pre post (.slice (some ⟨g, 0, none⟩) n cap) its)) (hn : n = its.length)
    {j : Nat} {it it' : MN} (hj : its[j]? = some it) {off : Nat} {u : Value} (ho : off < 5) (hc : it'.cells = it.cells.set off u) :
    Raw (w.setCell ⟨g, j * 5 + off, none⟩ u) H S1 v0 (cur.set k (.node pre post (.slice (some ⟨g, 0, none⟩) n cap) (its.set j it'))) ∧ Kept (· = g) w (w.setCell ⟨g, j * 5 + off, none⟩ u) ∧ g < S1 ∧ H ≤ g := by
  subst hn
  have hkl : k < cur.length := (List.getElem?_eq_some_iff.1 hk).1
  have hm0 : cur[k] = .node pre post (.slice (some ⟨g, 0, none⟩) its.length cap) its := (List.getElem?_eq_some_iff.1 hk).2
  have hmem : MN.node pre post (.slice (some ⟨g, 0, none⟩) its.length cap) its ∈ cur := List.mem_of_getElem? hk
  have hjl : j < its.length := (List.getElem?_eq_some_iff.1 hj).1
  have hjm : its[j] = it := (List.getElem?_eq_some_iff.1 hj).2
  have hk1 : Kept (· = g) w (w.setCell ⟨g, j * 5 + off, none⟩ u) := Kept.setCell (S := (· = g)) (Kept.refl _ _) (p := ⟨g, j * 5 + off, none⟩) (.inl rfl) u
  have hrw := h.rows _ hmem
  have hsz := h.szs _ hmem
  simp only [MN.sl, MN.kids] at hrw hsz
  have hr := (hrw.stored (j * 5 + off) u).1
  rw [← rowC_set 5 its hsz j hjl it' off u ho (by rw [hjm]; exact hc)] at hr
  have hnode : (MN.node pre post (.slice (some ⟨g, 0, none⟩) its.length cap) (its.set j it')).cells = (cur[k]).cells := by rw [hm0]; rfl
  have hrc : rowC (cur.set k (.node pre post (.slice (some ⟨g, 0, none⟩) its.length cap) (its.set j it'))) = rowC cur := by
    unfold rowC
    rw [List.flatMap_def, List.flatMap_def, List.map_set, hnode, ← List.getElem_map MN.cells (h := by simpa using hkl), List.set_getElem_self]
  refine ⟨⟨?_, fun m hm => ?_, fun m hm => ?_, fun m hm => ?_, apart_set h.apart hk rfl, h.low0, fun m hm => ?_⟩, hk1, h.low _ hmem g rfl, (row_lt hrw rfl).1⟩
  · rw [hrc, List.length_set]
    exact row_kept h.row (fun x hx => hk1.block x (row_lt h.row hx).2 (fun e => row_type hrw h.row (by decide) (show _ = some g from rfl) (by rw [hx, e])))
  · rcases mem_set hm with rfl | hm
    · rw [hnode]; exact h.sizes _ (List.getElem_mem hkl)
    · exact h.sizes m hm
  · obtain ⟨i, hi, rfl⟩ := List.mem_iff_getElem.1 ‹m ∈ _›
    simp only [List.length_set] at hi
    rw [List.getElem_set]
    by_cases hki : k = i
    · rw [if_pos hki]
      simp only [MN.sl, MN.kids, List.length_set]
      exact hr
    · rw [if_neg hki]
      have hmi : cur[i] ∈ cur := List.getElem_mem hi
      refine row_kept (h.rows _ hmi) (fun x hx => hk1.block x (row_lt (h.rows _ hmi) hx).2 (fun e => ?_))
      have hp := List.pairwise_iff_getElem.1 h.apart
      rcases Nat.lt_or_ge i k with hlt | hge
      · have := hp i k hi hkl hlt x hx
        rw [hm0, e] at this
        exact this rfl
      · have := hp k i hkl hi (by omega) g (by rw [hm0]; rfl)
        rw [hx, e] at this
        exact this rfl
  · rcases mem_set hm with rfl | hm
    · intro i hi
      rcases mem_set hi with rfl | hi
      · rw [hc, List.length_set]; exact hsz _ (List.mem_of_getElem? hj)
      · exact hsz i hi
    · exact h.szs m hm
  · rcases mem_set hm with rfl | hm
    · have := h.low _ hmem
      exact this
    · exact h.low m hm
end Go.Proofs.Yticdihfjnmjkmaa
namespace Go.Proofs.Yticdihfjnmjkmaa
open Go.RowKit
theorem nfL_map (b : Bool) (l : List PN) : PN.nfL b l = l.map (PN.nf b) := by
  induction l with
  | nil => rfl
  | cons x l ih => rw [PN.nfL, ih]; rfl
/-- The first k alternatives are done. -/
structure ShO (w : World) (S1 : Nat) (v0 : Value) (ms : List MN) (wr : World) (cur : List MN) (k : Nat) : Prop where
  raw : Raw wr w.heap.size S1 v0 cur
  len : cur.length = ms.length
  done : ∀ i, i < k → ∃ m mm, cur[i]? = some m ∧ ms[i]? = some mm ∧ m.pn = PN.nf true mm.pn ∧ ∀ x ∈ m.kids, MN.At wr S1 81 3 83 5 x
  todo : ∀ i, k ≤ i → cur[i]? = ms[i]?
  below : Below w.heap.size w wr
  size : S1 ≤ wr.heap.size
  low : w.heap.size ≤ S1
/-- And j pieces of the next one. -/
structure ShJ (w : World) (S1 : Nat) (v0 : Value) (ms : List MN) (wr : World) (cur : List MN) (k : Nat) (pre : List Value) (v : Value) (js its : List MN) (j : Nat) : Prop where
  raw : Raw wr w.heap.size S1 v0 cur
  len : cur.length = ms.length
  done : ∀ i, i < k → ∃ m mm, cur[i]? = some m ∧ ms[i]? = some mm ∧ m.pn = PN.nf true mm.pn ∧ ∀ x ∈ m.kids, MN.At wr S1 81 3 83 5 x
  todo : ∀ i, k < i → cur[i]? = ms[i]?
  here : cur[k]? = some (.node pre [] v js)
  klen : js.length = its.length
  kdone : ∀ i, i < j → ∃ m mm, js[i]? = some m ∧ its[i]? = some mm ∧ m.pn = PN.nf false mm.pn ∧ MN.At wr S1 81 3 83 5 m
  ktodo : ∀ i, j < i → js[i]? = its[i]?
  below : Below w.heap.size w wr
  size : S1 ≤ wr.heap.size
  low : w.heap.size ≤ S1
theorem ShO.start {w w1 : World} {v0 : Value} {ms : List MN} (h : RowOf w1 w.heap.size 81 3 83 5 v0 ms) (hb : Below w.heap.size w w1) (hs : ms.Pairwise Apart) : ShO w w1.heap.size v0 ms w1 ms 0 :=
  ⟨⟨h.row, h.sizes, fun m hm => by
      have := h.lies m hm
      obtain ⟨pre, post, v, kids⟩ := m
      exact this.1, fun m hm => by
      have := h.lies m hm
      obtain ⟨pre, post, v, kids⟩ := m
      exact this.2.1, hs, fun g hg => (row_lt h.row hg).2, fun m hm g hg => by
      have := h.lies m hm
      obtain ⟨pre, post, v, kids⟩ := m
      exact (row_lt this.1 hg).2⟩, rfl, fun i hi => by omega, fun _ _ => rfl, hb, Nat.le_refl _, hb.size⟩
theorem ShO.go {w : World} {S1 : Nat} {v0 : Value} {ms : List MN} {wr w' : World} {cur : List MN} {k : Nat} (h : ShO w S1 v0 ms wr cur k) (hb : Below wr.heap.size wr w') : ShO w S1 v0 ms w' cur k :=
  ⟨h.raw.go (S := fun _ => False) (kept_of_below hb) (fun _ h => h.elim), h.len, fun i hi => by
    obtain ⟨m, mm, h1, h2, h3, h4⟩ := h.done i hi
    exact ⟨m, mm, h1, h2, h3, fun x hx => (h4 x hx).below hb⟩, h.todo, h.below.trans (hb.mono h.below.size), by have := hb.size; have := h.size; omega, h.low⟩
theorem ShJ.go {w : World} {S1 : Nat} {v0 : Value} {ms : List MN} {wr w' : World} {cur : List MN} {k : Nat} {pre : List Value} {v : Value} {js its : List MN} {j : Nat} (h : ShJ w S1 v0 ms wr cur k pre v js its j) (hb : Below wr.heap.size wr w') : ShJ w S1 v0 ms w' cur k pre v js its j :=
  ⟨h.raw.go (S := fun _ => False) (kept_of_below hb) (fun _ h => h.elim), h.len, fun i hi => by
    obtain ⟨m, mm, h1, h2, h3, h4⟩ := h.done i hi
    exact ⟨m, mm, h1, h2, h3, fun x hx => (h4 x hx).below hb⟩, h.todo, h.here, h.klen, fun i hi => by
    obtain ⟨m, mm, h1, h2, h3, h4⟩ := h.kdone i hi
    exact ⟨m, mm, h1, h2, h3, h4.below hb⟩, h.ktodo, h.below.trans (hb.mono h.below.size), by have := hb.size; have := h.size; omega, h.low⟩
theorem ShO.open {w : World} {S1 : Nat} {v0 : Value} {ms : List MN} {wr : World} {cur : List MN} {k : Nat} (h : ShO w S1 v0 ms wr cur k) {pre : List Value} {v : Value} {its : List MN} (hk : ms[k]? = some (.node pre [] v its)) : ShJ w S1 v0 ms wr cur k pre v its its 0 :=
  ⟨h.raw, h.len, h.done, fun i hi => h.todo i (by omega), by rw [h.todo k (Nat.le_refl _)]; exact hk, rfl, fun i hi => by omega, fun _ _ => rfl, h.below, h.size, h.low⟩
theorem below_kept {w wr w' : World} {n : Nat} (hb : Below n w wr) (hn : n ≤ w.heap.size) {S : Nat → Prop} (hk : Kept S wr w') (hS : ∀ k, S k → n ≤ k) : Below n w w' :=
  hb.trans (hk.below (Nat.le_trans hn hb.size) (fun k hk hs => by have := hS k hs; omega))
theorem ShJ.head {w : World} {S1 : Nat} {g n cap : Nat} {ms : List MN} {wr : World} {cur : List MN} {k : Nat} {a b : Value} {v : Value} {js its : List MN} {j : Nat} (h : ShJ w S1 (.slice (some ⟨g, 0, none⟩) n cap) ms wr cur k [a, b] v js its j) (hn : n = ms.length)
    {off : Nat} {u : Value} {pre : List Value} (hp : pre = [a, b].set off u) (ho : off < 2) : ShJ w S1 (.slice (some ⟨g, 0, none⟩) n cap) ms (wr.setCell ⟨g, k * 3 + off, none⟩ u) (cur.set k (.node pre [] v js)) k pre v js its j := by
  obtain ⟨h1, h2⟩ := h.raw.head (by rw [h.len]; exact hn) h.here hp ho
  have hg := h.raw.low0 g rfl
  have hg2 := (row_lt h.raw.row (show _ = some g from rfl)).1
  have hkl : k < cur.length := (List.getElem?_eq_some_iff.1 h.here).1
  refine ⟨h1, by rw [List.length_set]; exact h.len, fun i hi => ?_, fun i hi => ?_, ?_, h.klen, fun i hi => ?_, h.ktodo, below_kept h.below (Nat.le_refl _) h2 (fun x hx => by have : x = g := hx; omega), by have := h2.size; have := h.size; omega, h.low⟩
  · obtain ⟨m, mm, q1, q2, q3, q4⟩ := h.done i hi
    exact ⟨m, mm, by rw [List.getElem?_set_ne (by omega)]; exact q1, q2, q3, fun x hx => (q4 x hx).go h2 (fun y hy => by have : y = g := hy; omega)⟩
  · rw [List.getElem?_set_ne (by omega)]; exact h.todo i hi
  · rw [List.getElem?_set_self hkl]
  · obtain ⟨m, mm, q1, q2, q3, q4⟩ := h.kdone i hi
    exact ⟨m, mm, q1, q2, q3, q4.go h2 (fun y hy => by have : y = g := hy; omega)⟩
theorem ShJ.item {w : World} {S1 : Nat} {v0 : Value} {ms : List MN} {wr : World} {cur : List MN} {k : Nat} {pre : List Value} {g n cap : Nat} {js its : List MN} {j : Nat} (h : ShJ w S1 v0 ms wr cur k pre (.slice (some ⟨g, 0, none⟩) n cap) js its j) (hn : n = its.length)
    {it it' : MN} (hj : js[j]? = some it) {off : Nat} {u : Value} (ho : off < 5) (hc : it'.cells = it.cells.set off u) :
    ShJ w S1 v0 ms (wr.setCell ⟨g, j * 5 + off, none⟩ u) (cur.set k (.node pre [] (.slice (some ⟨g, 0, none⟩) n cap) (js.set j it'))) k pre (.slice (some ⟨g, 0, none⟩) n cap) (js.set j it') its j ∧ (js.set j it')[j]? = some it' ∧ Kept (· = g) wr (wr.setCell ⟨g, j * 5 + off, none⟩ u) ∧ g < S1 := by
  obtain ⟨h1, h2, hg, hg2⟩ := h.raw.kid h.here (by rw [h.klen]; exact hn) hj ho hc
  have hkl : k < cur.length := (List.getElem?_eq_some_iff.1 h.here).1
  have hjl : j < js.length := (List.getElem?_eq_some_iff.1 hj).1
  refine ⟨⟨h1, by rw [List.length_set]; exact h.len, fun i hi => ?_, fun i hi => ?_, ?_, by rw [List.length_set]; exact h.klen, fun i hi => ?_, fun i hi => ?_, below_kept h.below (Nat.le_refl _) h2 (fun x hx => by have : x = g := hx; omega), by have := h2.size; have := h.size; omega, h.low⟩, by rw [List.getElem?_set_self hjl], h2, hg⟩
  · obtain ⟨m, mm, q1, q2, q3, q4⟩ := h.done i hi
    exact ⟨m, mm, by rw [List.getElem?_set_ne (by omega)]; exact q1, q2, q3, fun x hx => (q4 x hx).go h2 (fun y hy => by have : y = g := hy; omega)⟩
  · rw [List.getElem?_set_ne (by omega)]; exact h.todo i hi
  · rw [List.getElem?_set_self hkl]
  · obtain ⟨m, mm, q1, q2, q3, q4⟩ := h.kdone i hi
    exact ⟨m, mm, by rw [List.getElem?_set_ne (by omega)]; exact q1, q2, q3, q4.go h2 (fun y hy => by have : y = g := hy; omega)⟩
  · rw [List.getElem?_set_ne (by omega)]; exact h.ktodo i hi
theorem ShJ.next {w : World} {S1 : Nat} {v0 : Value} {ms : List MN} {wr : World} {cur : List MN} {k : Nat} {pre : List Value} {v : Value} {js its : List MN} {j : Nat} (h : ShJ w S1 v0 ms wr cur k pre v js its j) {m mm : MN} (h1 : js[j]? = some m) (h2 : its[j]? = some mm) (h3 : m.pn = PN.nf false mm.pn) (h4 : MN.At wr S1 81 3 83 5 m) :
    ShJ w S1 v0 ms wr cur k pre v js its (j + 1) ∧ js[j + 1]? = its[j + 1]? :=
  ⟨⟨h.raw, h.len, h.done, h.todo, h.here, h.klen, fun i hi => by
    rcases Nat.lt_or_ge i j with hlt | hge
    · exact h.kdone i hlt
    · obtain rfl : i = j := by omega
      exact ⟨m, mm, h1, h2, h3, h4⟩, fun i hi => h.ktodo i (by omega), h.below, h.size, h.low⟩, h.ktodo _ (by omega)⟩
theorem map_of_idx {f : MN → PN} {g : MN → PN} {xs ys : List MN} (hl : xs.length = ys.length) (h : ∀ i, i < ys.length → ∃ m mm, xs[i]? = some m ∧ ys[i]? = some mm ∧ f m = g mm) : xs.map f = ys.map g := by
  refine List.ext_getElem (by simpa using hl) fun i h1 h2 => ?_
  simp only [List.length_map] at h1 h2
  obtain ⟨m, mm, q1, q2, q3⟩ := h i h2
  rw [List.getElem_map, List.getElem_map, (List.getElem?_eq_some_iff.1 q1).2, (List.getElem?_eq_some_iff.1 q2).2, q3]
theorem ShJ.close {w : World} {S1 : Nat} {v0 : Value} {ms : List MN} {wr : World} {cur : List MN} {k : Nat} {pre : List Value} {v : Value} {js its : List MN} (h : ShJ w S1 v0 ms wr cur k pre v js its its.length) {pre0 : List Value} {v' : Value} (hm : ms[k]? = some (.node pre0 [] v' its)) (hp : pre = shW pre0) : ShO w S1 v0 ms wr cur (k + 1) :=
  ⟨h.raw, h.len, fun i hi => by
    rcases Nat.lt_or_ge i k with hlt | hge
    · exact h.done i hlt
    · obtain rfl : i = k := by omega
      refine ⟨_, _, h.here, hm, ?_, fun x hx => ?_⟩
      · simp only [MN.pn, PN.nf, MN.pnL_map, nfL_map, hp, List.map_map]
        congr 1
        exact map_of_idx h.klen (fun i hi => by
          obtain ⟨m, mm, q1, q2, q3, _⟩ := h.kdone i hi
          exact ⟨m, mm, q1, q2, q3⟩)
      · simp only [MN.kids] at hx
        obtain ⟨i, hi, rfl⟩ := List.mem_iff_getElem.1 hx
        obtain ⟨m, mm, q1, q2, q3, q4⟩ := h.kdone i (by rw [← h.klen]; exact hi)
        rw [(List.getElem?_eq_some_iff.1 q1).2]
        exact q4, fun i hi => h.todo i (by omega), h.below, h.size, h.low⟩
theorem ShO.end {w : World} {S1 : Nat} {v0 : Value} {ms : List MN} {wr : World} {cur : List MN} (h : ShO w S1 v0 ms wr cur ms.length) : RowOf wr w.heap.size 81 3 83 5 v0 cur ∧ cur.map MN.pn = PN.nfL true (ms.map MN.pn) := by
  have hat : ∀ m ∈ cur, ∀ x ∈ m.kids, MN.At wr S1 81 3 83 5 x := fun m hm => by
    obtain ⟨i, hi, rfl⟩ := List.mem_iff_getElem.1 hm
    obtain ⟨m, mm, q1, q2, q3, q4⟩ := h.done i (by rw [← h.len]; exact hi)
    rw [(List.getElem?_eq_some_iff.1 q1).2]
    exact q4
  refine ⟨⟨h.raw.row, h.raw.sizes, fun m hm => ?_, fun m hm g hg hx => ?_⟩, ?_⟩
  · have h1 := h.raw.rows m hm
    have h2 := h.raw.szs m hm
    have h3 := hat m hm
    obtain ⟨pre, post, v, kids⟩ := m
    exact ⟨h1, h2, MN.atL_iff.2 fun x hx => (h3 x hx).low h.low⟩
  · have h1 := h.raw.rows m hm
    have h3 := hat m hm
    have hgs := h.raw.low0 g hg
    obtain ⟨pre, post, v, kids⟩ := m
    rcases MN.mem_blocks.1 hx with hx | ⟨c, hc, hx⟩
    · exact row_type h.raw.row h1 (by decide) hg hx
    · have := ((h3 c hc).lt g hx).1
      omega
  · rw [nfL_map, List.map_map]
    exact map_of_idx h.len (fun i hi => by
      obtain ⟨m, mm, q1, q2, q3, _⟩ := h.done i hi
      exact ⟨m, mm, q1, q2, q3⟩)
end Go.Proofs.Yticdihfjnmjkmaa
namespace Go.Proofs.Yticdihfjnmjkmaa
open Go.RowKit
attribute [local go_sem] run_store_float
theorem plain_all2 : ∀ n, PlainAny n
  | 0 => fun t h => absurd h (by have : 0 < _root_.SizeOf.sizeOf t := by cases t; simp only [MN.node.sizeOf_spec]; omega
                                 omega)
  | n + 1 => plain_step (plain_all2 n)
def ShapePost (ks : List MN) (w : World) (e : Ending) (w' : World) : Prop :=
  ∃ a c ms, e = .returned (.slice a ms.length c) ∧ ms.map MN.pn = PN.nfL true (ks.map MN.pn) ∧ RowOf w' w.heap.size 81 3 83 5 (.slice a ms.length c) ms ∧ Below w.heap.size w w'
def ShapeAny (n : Nat) : Prop := ∀ (t : MN), _root_.SizeOf.sizeOf t ≤ n → PN.FormL true (t.kids.map MN.pn) → PN.Few 100001 t.pn → ∀ w, MN.At w 0 66 3 68 5 t → Calls Try.prog 25 #[t.sl] w (ShapePost t.kids w)
theorem row_some {w : World} {lo : Nat} {e : TypeId} {sz : Nat} {a : Option Addr} {n c : Nat} {xs : List Value} (h : w.ownsRow lo e sz (.slice a n c) n xs) (hn : 0 < n) : ∃ g, a = some ⟨g, 0, none⟩ := by
  rcases h.2 with ⟨_, h0⟩ | ⟨g, cap, cur, h1, _⟩
  · omega
  · simp only [Value.slice.injEq] at h1
    exact ⟨g, h1.1⟩
theorem ShJ.top {w : World} {S1 : Nat} {g n cap : Nat} {ms : List MN} {wr : World} {cur : List MN} {k : Nat} {a b v : Value} {js its : List MN} {j : Nat} (h : ShJ w S1 (.slice (some ⟨g, 0, none⟩) n cap) ms wr cur k [a, b] v js its j) (hn : n = ms.length) :
    wr.cell? ⟨g, k * 3, none⟩ = some a ∧ wr.cell? ⟨g, k * 3 + 1, none⟩ = some b ∧ wr.cell? ⟨g, k * 3 + 2, none⟩ = some v ∧ (∀ o, wr.frozen? ⟨g, o, none⟩ = false) ∧ g < wr.heap.size ∧ w.heap.size ≤ g := by
  subst hn
  rw [← h.len] at h
  have hkl : k < cur.length := (List.getElem?_eq_some_iff.1 h.here).1
  have hm : cur[k] = .node [a, b] [] v js := (List.getElem?_eq_some_iff.1 h.here).2
  have hc : ∀ o, o < 3 → wr.cell? ⟨g, k * 3 + o, none⟩ = [a, b, v][o]? := fun o ho => by
    rw [h.raw.row.cellAt _ (by have := Nat.mul_le_mul_right 3 (show k + 1 ≤ cur.length from hkl); omega), rowC_getN 3 cur h.raw.sizes k hkl o ho, hm]
    rfl
  exact ⟨hc 0 (by omega), hc 1 (by omega), hc 2 (by omega), fun o => h.raw.row.frozenAt o, (row_lt h.raw.row rfl).2, (row_lt h.raw.row rfl).1⟩
theorem ShJ.kids {w : World} {S1 : Nat} {v0 : Value} {ms : List MN} {wr : World} {cur : List MN} {k : Nat} {pre : List Value} {v : Value} {js its : List MN} {j : Nat} (h : ShJ w S1 v0 ms wr cur k pre v js its j) : wr.ownsRow w.heap.size 83 5 v its.length (rowC js) := by
  have := h.raw.rows _ (List.mem_of_getElem? h.here)
  simp only [MN.sl, MN.kids, h.klen] at this
  exact this
theorem ShJ.deep {w : World} {S1 : Nat} {v0 : Value} {ms : List MN} {wr : World} {cur : List MN} {k : Nat} {pre : List Value} {g n cap : Nat} {js its : List MN} {j : Nat} (h : ShJ w S1 v0 ms wr cur k pre (.slice (some ⟨g, 0, none⟩) n cap) js its j) (hn : n = its.length) {a b c d s : Value} {ls : List MN} (hj : js[j]? = some (.node [a, b, c] [d] s ls)) :
    wr.cell? ⟨g, j * 5, none⟩ = some a ∧ wr.cell? ⟨g, j * 5 + 1, none⟩ = some b ∧ wr.cell? ⟨g, j * 5 + 2, none⟩ = some c ∧ wr.cell? ⟨g, j * 5 + 3, none⟩ = some s ∧ wr.cell? ⟨g, j * 5 + 4, none⟩ = some d ∧ (∀ o, wr.frozen? ⟨g, o, none⟩ = false) ∧ g < wr.heap.size ∧ w.heap.size ≤ g := by
  subst hn
  have hr := h.kids
  have hz := h.raw.szs _ (List.mem_of_getElem? h.here)
  simp only [MN.kids] at hz
  have hjl : j < js.length := (List.getElem?_eq_some_iff.1 hj).1
  have hm : js[j] = .node [a, b, c] [d] s ls := (List.getElem?_eq_some_iff.1 hj).2
  have hc : ∀ o, o < 5 → wr.cell? ⟨g, j * 5 + o, none⟩ = [a, b, c, s, d][o]? := fun o ho => by
    rw [hr.cellAt _ (by rw [← h.klen]; have := Nat.mul_le_mul_right 5 (show j + 1 ≤ js.length from hjl); omega), rowC_getN 5 js hz j hjl o ho, hm]
    rfl
  exact ⟨hc 0 (by omega), hc 1 (by omega), hc 2 (by omega), hc 3 (by omega), hc 4 (by omega), fun o => hr.frozenAt o, (row_lt hr rfl).2, (row_lt hr rfl).1⟩
theorem sh_keep {w : World} {S1 : Nat} {ms : List MN} {wr : World} {cur : List MN} {k : Nat} {a b : Value} {G n0 cap B n c3 : Nat} {js its : List MN} {j : Nat} (h : ShJ w S1 (.slice (some ⟨G, 0, none⟩) n0 cap) ms wr cur k [a, b] (.slice (some ⟨B, 0, none⟩) n c3) js its j) (hn : n = its.length)
    {x y z d s : Value} {ls : List MN} (hj : js[j]? = some (.node [x, y, z] [d] s ls)) (hm : n0 = ms.length) {g g3 i i3 : Nat} (hg : g < w.heap.size) (hg3 : g3 < w.heap.size) {v1 v2 : Value} (h1 : w.cell? ⟨g, i, none⟩ = some v1) (h2 : w.cell? ⟨g3, i3, none⟩ = some v2) (u : Value) :
    (wr.setCell ⟨B, j * 5 + 3, none⟩ u).cell? ⟨G, k * 3 + 2, none⟩ = some (.slice (some ⟨B, 0, none⟩) n c3) ∧ (wr.setCell ⟨B, j * 5 + 3, none⟩ u).cell? ⟨g, i, none⟩ = some v1 ∧ (wr.setCell ⟨B, j * 5 + 3, none⟩ u).cell? ⟨g3, i3, none⟩ = some v2 := by
  have h3 := (h.item hn hj (off := 3) (u := u) (it' := .node [x, y, z] [d] u ls) (by omega) rfl).1
  exact ⟨(h3.top hm).2.2.1, (h3.below.cell (p := ⟨g, i, none⟩) hg).trans h1, (h3.below.cell (p := ⟨g3, i3, none⟩) hg3).trans h2⟩
theorem numS_size (f : Nat) : (bOf (numS f)).size ≤ 4 := by
  have : (numS f).length ≤ 4 := (by decide : ∀ x ∈ numT ++ [[49]], x.length ≤ 4) _ (numS_mem f)
  show ((numS f).toArray).size ≤ 4
  rw [List.size_toArray]; exact this
set_option maxRecDepth 100000 in
set_option maxHeartbeats 4000000 in
theorem shape_step {n : Nat} (IH : ShapeAny n) : ShapeAny (n + 1) := by
  intro t hsz hform hfew w hat
  obtain ⟨pre, post, v, ks⟩ := t
  obtain ⟨x, c, rfl⟩ := at_shape hat
  obtain ⟨hms, hfk⟩ := Few_kid hfew
  have HPL := Lib.hid (fun W (h : Below w.heap.size w W) => plain_all2 _ (.node pre post (.slice x ks.length c) ks) (Nat.le_refl _) hform hfew W (hat.below h))
  have HAT := Lib.hid hat
  have HFK := Lib.hid hfk
  have HFO := Lib.hid hform
  have HSZ := Lib.hid (fun m hm a' b' v' its hm2 i hi => Nat.lt_of_lt_of_le (rounds_lt (a' := a') (b' := b') (v' := v') (its := its) (i := i) rfl (m := m) hm hm2 hi) hsz)
  have HIH := Lib.hid IH
  simp only [MN.sl, MN.kids] at *
  clear hat hfk hform hfew hsz IH
  go_enter Try.func25, Try.ntmps25
  go_wp2_with fail
  refine (HPL.out _ (Below.refl _ _)).mono ?_
  rintro e w1 ⟨a, cap, ms, rfl, hpn, hrow, hb, hsep⟩
  have hml : ms.length = ks.length := by have := congrArg List.length hpn; simpa using this
  have HST := Lib.hid (ShO.start hrow hb hsep)
  have HPN := Lib.hid hpn
  have HS1 := Lib.hid hb.size
  rw [hml] at HST ⊢
  clear hrow hb hsep hpn HPL
  generalize hS1 : w1.heap.size = S1 at *
  clear hS1
  go_wp2_with fail
  go_loopw [12] (fun i wr => ∃ k : Nat, k ≤ ks.length ∧ i = .int .i64 k ∧ Hid (∃ cur, ShO w S1 (.slice a ks.length cap) ms wr cur k)) (fun i _ => ks.length - (intOf i).toNat)
  case atStart => exact ⟨0, by omega, rfl, _, HST.out⟩
  case round =>
    obtain ⟨k, hk, rfl, hh⟩ := hrel
    obtain ⟨cur, hI⟩ := hh.out
    have HI := Lib.hid hI
    clear hh hI
    by_cases hlt : k < ks.length
    · have hlt2 : k < ms.length := by omega
      have hmem := List.getElem_mem hlt
      obtain ⟨at', wt, v2, its, hmk, hfi⟩ := form_alt (Form_kid HFO.out hmem)
      obtain ⟨hil, hif⟩ := Few_kid (by rw [← hmk]; exact HFK.out _ hmem)
      have hka := kid_at HAT.out hmem
      obtain ⟨g, cap0, hx, hg, hc⟩ := kid_cells HAT.out hlt
      rw [hmk] at hka hc
      obtain ⟨x2, c2, rfl⟩ := at_shape hka
      simp only [Value.slice.injEq] at hx
      obtain ⟨rfl, _, rfl⟩ := hx
      have hp : (ks[k]).pn = (ms[k]).pn := by
        obtain ⟨_, h⟩ := kids_eq HPN.out hlt2
        exact h.symm
      rw [hmk] at hp
      obtain ⟨v3, its', hmk2, hie⟩ := alt_twin hp
      have hil2 : Hid (its'.length = its.length) := Lib.hid (by have := congrArg List.length hie; simp at this; omega)
      have HM2 : Hid (ms[k]? = some (.node [.int .i64 at', .float .f64 wt] [] v3 its')) := Lib.hid (by rw [List.getElem?_eq_getElem hlt2, hmk2])
      have HJ := Lib.hid (HI.out.open HM2.out)
      obtain ⟨y, c3, rfl⟩ := row_shape HJ.out.kids
      rw [hil2.out] at HJ HM2
      obtain ⟨G, rfl⟩ := row_some (by have := HI.out.raw.row; rw [HI.out.len, hml] at this; exact this) (by omega)
      have HC2 := Lib.hid (hc 2 (by omega))
      simp only [MN.cells, List.cons_append, List.nil_append, List.getElem?_cons_succ, List.getElem?_cons_zero] at HC2
      have HJ1 := Lib.hid (HJ.out.head hml.symm (off := 0) (u := .int .i64 0) rfl (by omega))
      obtain ⟨t0, t1, t2, tf, hGw, hGl⟩ := HJ.out.top hml.symm
      obtain ⟨s0, s1, s2, sf, hGw1, _⟩ := HJ1.out.top hml.symm
      have tf0 := tf (k * 3)
      simp only [Nat.add_zero] at s0 s1 s2 sf hGw1 HJ1
      have HMK := Lib.hid hmk
      have HKA := Lib.hid hka
      have HFI := Lib.hid hfi
      have HIF := Lib.hid hif
      have HIE := Lib.hid hie
      have hki : (k : Int) < ks.length := by omega
      have HNw := fun W => Lib.hid (number_any wt W)
      have HRd := fun W => Lib.hid (rread_any (bOf (numS wt)) (by have := numS_size wt; omega) W)
      have HSw := fun W => Lib.hid (fsame_val wt 0 W)
      unfold NumPost at HNw
      unfold ReadPost at HRd
      have HNW := Lib.hid (show numW wt = if sameF wt 0 = true then wt else (readL (bOf (numS wt)).data.toList).getD 0 from rfl)
      clear hmk hka hfi hif hc hie hp hmk2 tf HI
      generalize bOf (numS wt) = NS at *
      generalize (readL NS.data.toList).getD 0 = rv at *
      generalize (readL NS.data.toList).isSome = rb at *
      generalize sameF wt 0 = sfb at *
      obtain ⟨wo, hwo⟩ : ∃ x, x = wr := ⟨_, rfl⟩
      subst hwo
      cases sfb
      · simp only [Bool.false_eq_true, if_false] at HNW
        go_wp2_with (first
          | (go_at_call 18; refine (HSw _).out.mono ?_; rintro e w4 ⟨rfl, rfl⟩)
          | (go_at_call 42; refine (HRd _).out.mono ?_; rintro e w3 ⟨rfl, hb3⟩
             have HJ3 := Lib.hid (HJ2.out.go hb3)
             obtain ⟨r0, r1, r2, rf, hGw3, _⟩ := HJ3.out.top hml.symm
             have rf1 := rf (k * 3 + 1)
             clear hb3 rf)
          | (go_at_call 41; refine (HNw _).out.mono ?_; rintro e w2 ⟨rfl, hb2⟩
             have HJ2 := Lib.hid (HJ1.out.go hb2)
             clear hb2))
        have HJ4 := Lib.hid (HJ3.out.head hml.symm (off := 1) (u := .float .f64 rv) rfl (by omega))
        have t4 := (HJ4.out.top hml.symm).2.2.1
        clear t0 t1 t2 tf0 s0 s1 s2 sf r0 r1 r2 rf1 HJ HJ1 HJ2 HJ3
        go_wp2_with fail
        generalize w3.setCell ⟨G, k * 3 + 1, none⟩ (.float .f64 rv) = wb at *
        go_loopw [47] (fun i wq => ∃ (j : Nat), j ≤ its.length ∧ i = .int .i64 j ∧ Hid (∃ cur js, ShJ w S1 (.slice (some ⟨G, 0, none⟩) ks.length cap) ms wq cur k [.int .i64 0, .float .f64 rv] (.slice y its.length c3) js its' j ∧ js[j]? = its'[j]?)) (fun i _ => its.length - (intOf i).toNat)
        case atStart => exact ⟨0, by omega, rfl, _, _, HJ4.out, rfl⟩
        case round =>
          clear t4
          obtain ⟨j, hj, rfl, hh2⟩ := hrel
          obtain ⟨cur2, js, hJ, hfr⟩ := hh2.out
          have HQ := Lib.hid hJ
          have HFR := Lib.hid hfr
          clear hh2 hJ hfr
          by_cases hlj : j < its.length
          · have hlj2 : j < its'.length := by rw [hil2.out]; exact hlj
            have hmem2 := List.getElem_mem hlj
            obtain ⟨ai, kd, op, tx, v5, als, hmk3, hfi3⟩ := form_item (Form_kid HFI.out hmem2)
            have hif3 := HIF.out _ hmem2
            have hka3 := kid_at HKA.out hmem2
            obtain ⟨g3, cap3, hx3, hg3, hc3⟩ := kid_cells HKA.out hlj
            rw [hmk3] at hka3 hc3 hif3
            obtain ⟨x3, c4, rfl⟩ := at_shape hka3
            simp only [Value.slice.injEq] at hx3
            obtain ⟨rfl, _, rfl⟩ := hx3
            have hpe := (kids_eq HIE.out hlj).2
            rw [hmk3] at hpe
            obtain ⟨v6, als', hmk4, hie6⟩ := item_twin hpe
            have HIJ : Hid (its'[j]? = some (.node [.int .i64 ai, .int .i64 kd, .string tx] [.int .u8 op] v6 als')) := Lib.hid (by rw [List.getElem?_eq_getElem hlj2, hmk4])
            have HIE6 := Lib.hid hie6
            have HI0 : Hid (its.length = its'.length) := Lib.hid hil2.out.symm
            obtain ⟨B, rfl⟩ := row_some (by have := HQ.out.kids; rw [← HI0.out] at this; exact this) (by omega)
            have HC3 := Lib.hid (hc3 3 (by omega))
            simp only [MN.cells, List.cons_append, List.nil_append, List.getElem?_cons_succ, List.getElem?_cons_zero] at HC3
            obtain ⟨_, _, q2, _, hGq, _⟩ := HQ.out.top hml.symm
            obtain ⟨p0, _, _, _, _, pf, hBw, _⟩ := HQ.out.deep HI0.out (by rw [HFR.out]; exact HIJ.out)
            have pf0 := pf (j * 5)
            have HC := Lib.hid (fun W (h : Below w.heap.size w W) => HIH.out (.node [.int .i64 ai, .int .i64 kd, .string tx] [.int .u8 op] (.slice x3 als.length c4) als) (by have := HSZ.out _ hmem _ _ _ its HMK.out _ hmem2; rw [hmk3] at this; omega) hfi3 hif3 W (hka3.below h))
            simp only [MN.sl, MN.kids] at HC
            unfold ShapePost at HC
            have hI5 := HQ.out.item HI0.out (by rw [HFR.out]; exact HIJ.out) (off := 0) (u := .int .i64 0) (it' := .node [.int .i64 0, .int .i64 kd, .string tx] [.int .u8 op] v6 als') (by omega) rfl
            simp only [Nat.add_zero] at hI5
            have HJW := Lib.hid hI5.1
            have HI5 := Lib.hid hI5.2.1
            have hji : (j : Int) < its.length := by omega
            clear hmk3 hka3 hfi3 hif3 hc3 hpe hmk4 hie6 hI5 pf
            go_wp2_with fail
            clear q2 p0 pf0 hGq hBw
            generalize wr.setCell ⟨B, j * 5, none⟩ (.int .i64 0) = W1 at *
            have HJ5 := Lib.hid (HJW.out.go (below_drew (Below.refl _ _)))
            have HBD : Hid (Below w.heap.size w W1.drew) := Lib.hid HJ5.out.below
            have hS1d := HJ5.out.size
            have hSd : W1.drew.cell? ⟨G, k * 3 + 2, none⟩ = some (.slice (some ⟨B, 0, none⟩) its.length c3) ∧ W1.drew.cell? ⟨g, k * 3 + 2, none⟩ = some (.slice (some ⟨g3, 0, none⟩) its.length c2) ∧ W1.drew.cell? ⟨g3, j * 5 + 3, none⟩ = some (.slice x3 als.length c4) :=
              ⟨(HJ5.out.top hml.symm).2.2.1, (HBD.out.cell (p := ⟨g, k * 3 + 2, none⟩) hg).trans HC2.out, (HBD.out.cell (p := ⟨g3, j * 5 + 3, none⟩) hg3).trans HC3.out⟩
            clear HJW
            refine wp_region_held_drew (S := fun w' => w'.cell? ⟨G, k * 3 + 2, none⟩ = some (.slice (some ⟨B, 0, none⟩) its.length c3) ∧ w'.cell? ⟨g, k * 3 + 2, none⟩ = some (.slice (some ⟨g3, 0, none⟩) its.length c2) ∧ w'.cell? ⟨g3, j * 5 + 3, none⟩ = some (.slice x3 als.length c4)) (by kernel_rfl) (hSd) (fun hHeld => ?_)
            refine wpAnyH_take (i := 0) (v := ?_) rfl (by kernel_rfl) (by kernel_rfl) (by kernel_rfl) (fun _ _ _ h => h) (Or.inl ⟨by rfl, ?_⟩) (by with_reducible assumption) ?_
            rotate_left
            · intro w hSw
              try dsimp only at hSw
              go_simp
              try with_reducible rfl
            try simp only [Act.put, List.setIfInBounds_toArray]
            refine wpAnyH_take (i := 1) (v := ?_) rfl (by kernel_rfl) (by kernel_rfl) (by kernel_rfl) (fun _ _ _ h => h) (Or.inl ⟨by rfl, ?_⟩) (by with_reducible assumption) ?_
            rotate_left
            · intro w hSw
              try dsimp only at hSw
              go_simp
              try with_reducible rfl
            try simp only [Act.put]
            refine wpAnyH_take (i := 2) (v := ?_) rfl (by kernel_rfl) (by kernel_rfl) (by kernel_rfl) (fun _ _ _ h => h) (Or.inl ⟨by rfl, ?_⟩) (by with_reducible assumption) ?_
            rotate_left
            · intro w hSw
              try dsimp only at hSw
              go_simp
              try with_reducible rfl
            try simp only [Act.put]
            refine wpAnyH_take (i := 3) (v := ?_) rfl (by kernel_rfl) (by kernel_rfl) (by kernel_rfl) (fun _ _ _ h => h) (Or.inl ⟨by rfl, ?_⟩) (by with_reducible assumption) ?_
            rotate_left
            · intro w hSw
              try dsimp only at hSw
              go_simp
              try with_reducible rfl
            try simp only [Act.put]
            refine wpAnyH_take (i := 4) (v := ?_) rfl (by kernel_rfl) (by kernel_rfl) (by kernel_rfl) (fun _ _ _ h => h) (Or.inl ⟨by rfl, ?_⟩) (by with_reducible assumption) ?_
            rotate_left
            · intro w hSw
              try dsimp only at hSw
              go_simp
              try with_reducible rfl
            try simp only [Act.put]
            refine wpAnyH_take (i := 5) (v := ?_) rfl (by kernel_rfl) (by kernel_rfl) (by kernel_rfl) (fun _ _ _ h => h) (Or.inl ⟨by rfl, ?_⟩) (by with_reducible assumption) ?_
            rotate_left
            · intro w hSw
              try dsimp only at hSw
              go_simp
              try with_reducible rfl
            try simp only [Act.put]
            refine wpAnyH_take (i := 6) (v := ?_) rfl (by kernel_rfl) (by kernel_rfl) (by kernel_rfl) (fun _ _ _ h => h) (Or.inl ⟨by rfl, ?_⟩) (by with_reducible assumption) ?_
            rotate_left
            · intro w hSw
              try dsimp only at hSw
              go_simp
              try with_reducible rfl
            try simp only [Act.put]
            refine wpAnyH_take (i := 7) (v := ?_) rfl (by kernel_rfl) (by kernel_rfl) (by kernel_rfl) (fun _ _ _ h => h) (Or.inl ⟨by rfl, ?_⟩) (by with_reducible assumption) ?_
            rotate_left
            · intro w hSw
              try dsimp only at hSw
              go_simp
              try with_reducible rfl
            try simp only [Act.put]
            refine wpAnyH_take (i := 8) (v := ?_) rfl (by kernel_rfl) (by kernel_rfl) (by kernel_rfl) (fun _ _ _ h => h) (Or.inl ⟨by rfl, ?_⟩) (by with_reducible assumption) ?_
            rotate_left
            · intro w hSw
              try dsimp only at hSw
              go_simp
              try with_reducible rfl
            try simp only [Act.put]
            refine wpAnyH_take (i := 9) (v := ?_) rfl (by kernel_rfl) (by kernel_rfl) (by kernel_rfl) (fun _ _ _ h => h) (Or.inl ⟨by rfl, ?_⟩) (by with_reducible assumption) ?_
            rotate_left
            · intro w hSw
              try dsimp only at hSw
              go_simp
              try with_reducible rfl
            try simp only [Act.put]
            refine wpAnyH_take (i := 10) (v := ?_) rfl (by kernel_rfl) (by kernel_rfl) (by kernel_rfl) (fun _ _ _ h => h) (Or.inl ⟨by rfl, ?_⟩) (by with_reducible assumption) ?_
            rotate_left
            · intro w hSw
              try dsimp only at hSw
              go_simp
              try with_reducible rfl
            try simp only [Act.put]
            refine wpAnyH_take (i := 11) (v := ?_) rfl (by kernel_rfl) (by kernel_rfl) (by kernel_rfl) (fun _ _ _ h => h) (Or.inl ⟨by rfl, ?_⟩) (by with_reducible assumption) ?_
            rotate_left
            · intro w hSw
              try dsimp only at hSw
              go_simp
              try with_reducible rfl
            try simp only [Act.put]
            refine wpAnyH_take (i := 12) (v := ?_) rfl (by kernel_rfl) (by kernel_rfl) (by kernel_rfl) (fun _ _ _ h => h) (Or.inl ⟨by rfl, ?_⟩) (by with_reducible assumption) ?_
            rotate_left
            · intro w hSw
              try dsimp only at hSw
              go_simp
              try with_reducible rfl
            try simp only [Act.put]
            refine wpAnyH_take (i := 13) (v := ?_) rfl (by kernel_rfl) (by kernel_rfl) (by kernel_rfl) (fun _ _ _ h => h) (Or.inl ⟨by rfl, ?_⟩) (by with_reducible assumption) ?_
            rotate_left
            · intro w hSw
              try dsimp only at hSw
              go_simp
              try with_reducible rfl
            try simp only [Act.put]
            refine wpAnyH_take (i := 14) (v := ?_) rfl (by kernel_rfl) (by kernel_rfl) (by kernel_rfl) (fun _ _ _ h => h) (Or.inl ⟨by rfl, ?_⟩) (by with_reducible assumption) ?_
            rotate_left
            · intro w hSw
              try dsimp only at hSw
              go_simp
              try with_reducible rfl
            try simp only [Act.put]
            refine wpAnyH_ready (rs := [15]) (by kernel_rfl) (by simp) ?_
            refine AllReadyH.cons (o := _) rfl (fun K hK => ?_) ?_
            · go_simp
              go_at_call 25
              refine (HC.out _ HBD.out).mono ?_
              rintro e w2 ⟨a5, c5, ms5, rfl, hpn5, hrow5, hb5⟩
              have HJ6 := Lib.hid (HJ5.out.go hb5)
              have hb6 := HJ6.out.below
              have hs5 := hb5.size
              obtain ⟨_, _, _, n3, _, fB2, hBw2, _⟩ := HJ6.out.deep HI0.out HI5.out
              obtain ⟨_, _, n2, _, _, _⟩ := HJ6.out.top hml.symm
              have hS2 : w2.cell? ⟨G, k * 3 + 2, none⟩ = some (.slice (some ⟨B, 0, none⟩) its.length c3) ∧ w2.cell? ⟨g, k * 3 + 2, none⟩ = some (.slice (some ⟨g3, 0, none⟩) its.length c2) ∧ w2.cell? ⟨g3, j * 5 + 3, none⟩ = some (.slice x3 als.length c4) := ⟨n2, (hb6.cell (p := ⟨g, k * 3 + 2, none⟩) hg).trans HC2.out, (hb6.cell (p := ⟨g3, j * 5 + 3, none⟩) hg3).trans HC3.out⟩
              have fB3 := fB2 (j * 5 + 3)
              have HR5 := Lib.hid (And.intro hpn5 hrow5)
              clear hpn5 hrow5 fB2
              refine hK.out _ _ (by with_reducible assumption) (fun hHeld => ?_)
              clear hK K
              try simp only [Act.put, List.setIfInBounds_toArray, List.set_cons_zero, List.set_cons_succ]
              refine wpAnyH_take (i := 16) (v := ?_) rfl (by kernel_rfl) (by kernel_rfl) (by kernel_rfl) (fun _ _ _ h => h) (Or.inl ⟨by rfl, ?_⟩) (by with_reducible assumption) ?_
              rotate_left
              · intro w hSw
                try dsimp only at hSw
                go_simp
                try with_reducible rfl
              try simp only [Act.put, List.setIfInBounds_toArray]
              refine wpAnyH_take (i := 17) (v := ?_) rfl (by kernel_rfl) (by kernel_rfl) (by kernel_rfl) (fun _ _ _ h => h) (Or.inl ⟨by rfl, ?_⟩) (by with_reducible assumption) ?_
              rotate_left
              · intro w hSw
                try dsimp only at hSw
                go_simp
                try with_reducible rfl
              try simp only [Act.put]
              refine wpAnyH_ready (rs := [18]) (by kernel_rfl) (by simp) ?_
              refine AllReadyH.cons (o := _) rfl (fun K hK => ?_) ?_
              · go_simp
                refine hK.out _ _ ((sh_keep HJ6.out HI0.out HI5.out hml.symm hg hg3 HC2.out HC3.out _)) (fun hHeld => ?_)
                clear hK K
                try simp only [Act.put, List.setIfInBounds_toArray, List.set_cons_zero, List.set_cons_succ]
                refine wpAnyH_done (by kernel_rfl) ?_ _
                go_wp2
                go_roundw
                case rel =>
                  have HJ7 := HJ6.out.item HI0.out HI5.out (off := 3) (u := .slice a5 ms5.length c5) (it' := .node [.int .i64 0, .int .i64 kd, .string tx] [.int .u8 op] (.slice a5 ms5.length c5) ms5) (by omega) rfl
                  have HJ8 := HJ7.1.next HJ7.2.1 HIJ.out (by simp only [MN.pn, PN.nf, MN.pnL_map, shI, HR5.out.1, HIE6.out]) ((((HR5.out.2.at _ _).low hS1d).go HJ7.2.2.1 (fun y hy => by have : y = B := hy; rw [this]; exact HJ7.2.2.2)))
                  exact ⟨j + 1, by omega, by go_num, _, _, HJ8.1, HJ8.2⟩
                case measure => simp [intOf]; omega
              exact AllReadyH.nil
            exact AllReadyH.nil
          · obtain rfl : j = its.length := by omega
            go_wp2_with fail
            go_roundw
            case rel => exact ⟨k + 1, by omega, by go_num, _, (show ShJ _ _ _ _ _ _ _ _ _ _ _ _ from by have := HQ.out; rw [← hil2.out] at this; exact this).close HM2.out (by simp only [shW, HNW.out])⟩
            case measure => simp [intOf]; omega
      · simp only [if_true] at HNW
        go_wp2_with (first
          | (go_at_call 18; refine (HSw _).out.mono ?_; rintro e w4 ⟨rfl, rfl⟩)
          | (go_at_call 42; refine (HRd _).out.mono ?_; rintro e w3 ⟨rfl, hb3⟩
             have HJ3 := Lib.hid (HJ2.out.go hb3)
             obtain ⟨r0, r1, r2, rf, hGw3, _⟩ := HJ3.out.top hml.symm
             have rf1 := rf (k * 3 + 1)
             clear hb3 rf)
          | (go_at_call 41; refine (HNw _).out.mono ?_; rintro e w2 ⟨rfl, hb2⟩
             have HJ2 := Lib.hid (HJ1.out.go hb2)
             clear hb2))
        have HJ4 := HJ3
        have t4 := (HJ4.out.top hml.symm).2.2.1
        clear t0 t1 t2 tf0 s0 s1 s2 sf r0 r1 r2 rf1 HJ HJ1 HJ2 HJ3
        go_wp2_with fail
        go_loopw [47] (fun i wq => ∃ (j : Nat), j ≤ its.length ∧ i = .int .i64 j ∧ Hid (∃ cur js, ShJ w S1 (.slice (some ⟨G, 0, none⟩) ks.length cap) ms wq cur k [.int .i64 0, .float .f64 wt] (.slice y its.length c3) js its' j ∧ js[j]? = its'[j]?)) (fun i _ => its.length - (intOf i).toNat)
        case atStart => exact ⟨0, by omega, rfl, _, _, HJ4.out, rfl⟩
        case round =>
          clear t4
          obtain ⟨j, hj, rfl, hh2⟩ := hrel
          obtain ⟨cur2, js, hJ, hfr⟩ := hh2.out
          have HQ := Lib.hid hJ
          have HFR := Lib.hid hfr
          clear hh2 hJ hfr
          by_cases hlj : j < its.length
          · have hlj2 : j < its'.length := by rw [hil2.out]; exact hlj
            have hmem2 := List.getElem_mem hlj
            obtain ⟨ai, kd, op, tx, v5, als, hmk3, hfi3⟩ := form_item (Form_kid HFI.out hmem2)
            have hif3 := HIF.out _ hmem2
            have hka3 := kid_at HKA.out hmem2
            obtain ⟨g3, cap3, hx3, hg3, hc3⟩ := kid_cells HKA.out hlj
            rw [hmk3] at hka3 hc3 hif3
            obtain ⟨x3, c4, rfl⟩ := at_shape hka3
            simp only [Value.slice.injEq] at hx3
            obtain ⟨rfl, _, rfl⟩ := hx3
            have hpe := (kids_eq HIE.out hlj).2
            rw [hmk3] at hpe
            obtain ⟨v6, als', hmk4, hie6⟩ := item_twin hpe
            have HIJ : Hid (its'[j]? = some (.node [.int .i64 ai, .int .i64 kd, .string tx] [.int .u8 op] v6 als')) := Lib.hid (by rw [List.getElem?_eq_getElem hlj2, hmk4])
            have HIE6 := Lib.hid hie6
            have HI0 : Hid (its.length = its'.length) := Lib.hid hil2.out.symm
            obtain ⟨B, rfl⟩ := row_some (by have := HQ.out.kids; rw [← HI0.out] at this; exact this) (by omega)
            have HC3 := Lib.hid (hc3 3 (by omega))
            simp only [MN.cells, List.cons_append, List.nil_append, List.getElem?_cons_succ, List.getElem?_cons_zero] at HC3
            obtain ⟨_, _, q2, _, hGq, _⟩ := HQ.out.top hml.symm
            obtain ⟨p0, _, _, _, _, pf, hBw, _⟩ := HQ.out.deep HI0.out (by rw [HFR.out]; exact HIJ.out)
            have pf0 := pf (j * 5)
            have HC := Lib.hid (fun W (h : Below w.heap.size w W) => HIH.out (.node [.int .i64 ai, .int .i64 kd, .string tx] [.int .u8 op] (.slice x3 als.length c4) als) (by have := HSZ.out _ hmem _ _ _ its HMK.out _ hmem2; rw [hmk3] at this; omega) hfi3 hif3 W (hka3.below h))
            simp only [MN.sl, MN.kids] at HC
            unfold ShapePost at HC
            have hI5 := HQ.out.item HI0.out (by rw [HFR.out]; exact HIJ.out) (off := 0) (u := .int .i64 0) (it' := .node [.int .i64 0, .int .i64 kd, .string tx] [.int .u8 op] v6 als') (by omega) rfl
            simp only [Nat.add_zero] at hI5
            have HJW := Lib.hid hI5.1
            have HI5 := Lib.hid hI5.2.1
            have hji : (j : Int) < its.length := by omega
            clear hmk3 hka3 hfi3 hif3 hc3 hpe hmk4 hie6 hI5 pf
            go_wp2_with fail
            clear q2 p0 pf0 hGq hBw
            generalize wr.setCell ⟨B, j * 5, none⟩ (.int .i64 0) = W1 at *
            have HJ5 := Lib.hid (HJW.out.go (below_drew (Below.refl _ _)))
            have HBD : Hid (Below w.heap.size w W1.drew) := Lib.hid HJ5.out.below
            have hS1d := HJ5.out.size
            have hSd : W1.drew.cell? ⟨G, k * 3 + 2, none⟩ = some (.slice (some ⟨B, 0, none⟩) its.length c3) ∧ W1.drew.cell? ⟨g, k * 3 + 2, none⟩ = some (.slice (some ⟨g3, 0, none⟩) its.length c2) ∧ W1.drew.cell? ⟨g3, j * 5 + 3, none⟩ = some (.slice x3 als.length c4) :=
              ⟨(HJ5.out.top hml.symm).2.2.1, (HBD.out.cell (p := ⟨g, k * 3 + 2, none⟩) hg).trans HC2.out, (HBD.out.cell (p := ⟨g3, j * 5 + 3, none⟩) hg3).trans HC3.out⟩
            clear HJW
            refine wp_region_held_drew (S := fun w' => w'.cell? ⟨G, k * 3 + 2, none⟩ = some (.slice (some ⟨B, 0, none⟩) its.length c3) ∧ w'.cell? ⟨g, k * 3 + 2, none⟩ = some (.slice (some ⟨g3, 0, none⟩) its.length c2) ∧ w'.cell? ⟨g3, j * 5 + 3, none⟩ = some (.slice x3 als.length c4)) (by kernel_rfl) (hSd) (fun hHeld => ?_)
            refine wpAnyH_take (i := 0) (v := ?_) rfl (by kernel_rfl) (by kernel_rfl) (by kernel_rfl) (fun _ _ _ h => h) (Or.inl ⟨by rfl, ?_⟩) (by with_reducible assumption) ?_
            rotate_left
            · intro w hSw
              try dsimp only at hSw
              go_simp
              try with_reducible rfl
            try simp only [Act.put, List.setIfInBounds_toArray]
            refine wpAnyH_take (i := 1) (v := ?_) rfl (by kernel_rfl) (by kernel_rfl) (by kernel_rfl) (fun _ _ _ h => h) (Or.inl ⟨by rfl, ?_⟩) (by with_reducible assumption) ?_
            rotate_left
            · intro w hSw
              try dsimp only at hSw
              go_simp
              try with_reducible rfl
            try simp only [Act.put]
            refine wpAnyH_take (i := 2) (v := ?_) rfl (by kernel_rfl) (by kernel_rfl) (by kernel_rfl) (fun _ _ _ h => h) (Or.inl ⟨by rfl, ?_⟩) (by with_reducible assumption) ?_
            rotate_left
            · intro w hSw
              try dsimp only at hSw
              go_simp
              try with_reducible rfl
            try simp only [Act.put]
            refine wpAnyH_take (i := 3) (v := ?_) rfl (by kernel_rfl) (by kernel_rfl) (by kernel_rfl) (fun _ _ _ h => h) (Or.inl ⟨by rfl, ?_⟩) (by with_reducible assumption) ?_
            rotate_left
            · intro w hSw
              try dsimp only at hSw
              go_simp
              try with_reducible rfl
            try simp only [Act.put]
            refine wpAnyH_take (i := 4) (v := ?_) rfl (by kernel_rfl) (by kernel_rfl) (by kernel_rfl) (fun _ _ _ h => h) (Or.inl ⟨by rfl, ?_⟩) (by with_reducible assumption) ?_
            rotate_left
            · intro w hSw
              try dsimp only at hSw
              go_simp
              try with_reducible rfl
            try simp only [Act.put]
            refine wpAnyH_take (i := 5) (v := ?_) rfl (by kernel_rfl) (by kernel_rfl) (by kernel_rfl) (fun _ _ _ h => h) (Or.inl ⟨by rfl, ?_⟩) (by with_reducible assumption) ?_
            rotate_left
            · intro w hSw
              try dsimp only at hSw
              go_simp
              try with_reducible rfl
            try simp only [Act.put]
            refine wpAnyH_take (i := 6) (v := ?_) rfl (by kernel_rfl) (by kernel_rfl) (by kernel_rfl) (fun _ _ _ h => h) (Or.inl ⟨by rfl, ?_⟩) (by with_reducible assumption) ?_
            rotate_left
            · intro w hSw
              try dsimp only at hSw
              go_simp
              try with_reducible rfl
            try simp only [Act.put]
            refine wpAnyH_take (i := 7) (v := ?_) rfl (by kernel_rfl) (by kernel_rfl) (by kernel_rfl) (fun _ _ _ h => h) (Or.inl ⟨by rfl, ?_⟩) (by with_reducible assumption) ?_
            rotate_left
            · intro w hSw
              try dsimp only at hSw
              go_simp
              try with_reducible rfl
            try simp only [Act.put]
            refine wpAnyH_take (i := 8) (v := ?_) rfl (by kernel_rfl) (by kernel_rfl) (by kernel_rfl) (fun _ _ _ h => h) (Or.inl ⟨by rfl, ?_⟩) (by with_reducible assumption) ?_
            rotate_left
            · intro w hSw
              try dsimp only at hSw
              go_simp
              try with_reducible rfl
            try simp only [Act.put]
            refine wpAnyH_take (i := 9) (v := ?_) rfl (by kernel_rfl) (by kernel_rfl) (by kernel_rfl) (fun _ _ _ h => h) (Or.inl ⟨by rfl, ?_⟩) (by with_reducible assumption) ?_
            rotate_left
            · intro w hSw
              try dsimp only at hSw
              go_simp
              try with_reducible rfl
            try simp only [Act.put]
            refine wpAnyH_take (i := 10) (v := ?_) rfl (by kernel_rfl) (by kernel_rfl) (by kernel_rfl) (fun _ _ _ h => h) (Or.inl ⟨by rfl, ?_⟩) (by with_reducible assumption) ?_
            rotate_left
            · intro w hSw
              try dsimp only at hSw
              go_simp
              try with_reducible rfl
            try simp only [Act.put]
            refine wpAnyH_take (i := 11) (v := ?_) rfl (by kernel_rfl) (by kernel_rfl) (by kernel_rfl) (fun _ _ _ h => h) (Or.inl ⟨by rfl, ?_⟩) (by with_reducible assumption) ?_
            rotate_left
            · intro w hSw
              try dsimp only at hSw
              go_simp
              try with_reducible rfl
            try simp only [Act.put]
            refine wpAnyH_take (i := 12) (v := ?_) rfl (by kernel_rfl) (by kernel_rfl) (by kernel_rfl) (fun _ _ _ h => h) (Or.inl ⟨by rfl, ?_⟩) (by with_reducible assumption) ?_
            rotate_left
            · intro w hSw
              try dsimp only at hSw
              go_simp
              try with_reducible rfl
            try simp only [Act.put]
            refine wpAnyH_take (i := 13) (v := ?_) rfl (by kernel_rfl) (by kernel_rfl) (by kernel_rfl) (fun _ _ _ h => h) (Or.inl ⟨by rfl, ?_⟩) (by with_reducible assumption) ?_
            rotate_left
            · intro w hSw
              try dsimp only at hSw
              go_simp
              try with_reducible rfl
            try simp only [Act.put]
            refine wpAnyH_take (i := 14) (v := ?_) rfl (by kernel_rfl) (by kernel_rfl) (by kernel_rfl) (fun _ _ _ h => h) (Or.inl ⟨by rfl, ?_⟩) (by with_reducible assumption) ?_
            rotate_left
            · intro w hSw
              try dsimp only at hSw
              go_simp
              try with_reducible rfl
            try simp only [Act.put]
            refine wpAnyH_ready (rs := [15]) (by kernel_rfl) (by simp) ?_
            refine AllReadyH.cons (o := _) rfl (fun K hK => ?_) ?_
            · go_simp
              go_at_call 25
              refine (HC.out _ HBD.out).mono ?_
              rintro e w2 ⟨a5, c5, ms5, rfl, hpn5, hrow5, hb5⟩
              have HJ6 := Lib.hid (HJ5.out.go hb5)
              have hb6 := HJ6.out.below
              have hs5 := hb5.size
              obtain ⟨_, _, _, n3, _, fB2, hBw2, _⟩ := HJ6.out.deep HI0.out HI5.out
              obtain ⟨_, _, n2, _, _, _⟩ := HJ6.out.top hml.symm
              have hS2 : w2.cell? ⟨G, k * 3 + 2, none⟩ = some (.slice (some ⟨B, 0, none⟩) its.length c3) ∧ w2.cell? ⟨g, k * 3 + 2, none⟩ = some (.slice (some ⟨g3, 0, none⟩) its.length c2) ∧ w2.cell? ⟨g3, j * 5 + 3, none⟩ = some (.slice x3 als.length c4) := ⟨n2, (hb6.cell (p := ⟨g, k * 3 + 2, none⟩) hg).trans HC2.out, (hb6.cell (p := ⟨g3, j * 5 + 3, none⟩) hg3).trans HC3.out⟩
              have fB3 := fB2 (j * 5 + 3)
              have HR5 := Lib.hid (And.intro hpn5 hrow5)
              clear hpn5 hrow5 fB2
              refine hK.out _ _ (by with_reducible assumption) (fun hHeld => ?_)
              clear hK K
              try simp only [Act.put, List.setIfInBounds_toArray, List.set_cons_zero, List.set_cons_succ]
              refine wpAnyH_take (i := 16) (v := ?_) rfl (by kernel_rfl) (by kernel_rfl) (by kernel_rfl) (fun _ _ _ h => h) (Or.inl ⟨by rfl, ?_⟩) (by with_reducible assumption) ?_
              rotate_left
              · intro w hSw
                try dsimp only at hSw
                go_simp
                try with_reducible rfl
              try simp only [Act.put, List.setIfInBounds_toArray]
              refine wpAnyH_take (i := 17) (v := ?_) rfl (by kernel_rfl) (by kernel_rfl) (by kernel_rfl) (fun _ _ _ h => h) (Or.inl ⟨by rfl, ?_⟩) (by with_reducible assumption) ?_
              rotate_left
              · intro w hSw
                try dsimp only at hSw
                go_simp
                try with_reducible rfl
              try simp only [Act.put]
              refine wpAnyH_ready (rs := [18]) (by kernel_rfl) (by simp) ?_
              refine AllReadyH.cons (o := _) rfl (fun K hK => ?_) ?_
              · go_simp
                refine hK.out _ _ ((sh_keep HJ6.out HI0.out HI5.out hml.symm hg hg3 HC2.out HC3.out _)) (fun hHeld => ?_)
                clear hK K
                try simp only [Act.put, List.setIfInBounds_toArray, List.set_cons_zero, List.set_cons_succ]
                refine wpAnyH_done (by kernel_rfl) ?_ _
                go_wp2
                go_roundw
                case rel =>
                  have HJ7 := HJ6.out.item HI0.out HI5.out (off := 3) (u := .slice a5 ms5.length c5) (it' := .node [.int .i64 0, .int .i64 kd, .string tx] [.int .u8 op] (.slice a5 ms5.length c5) ms5) (by omega) rfl
                  have HJ8 := HJ7.1.next HJ7.2.1 HIJ.out (by simp only [MN.pn, PN.nf, MN.pnL_map, shI, HR5.out.1, HIE6.out]) ((((HR5.out.2.at _ _).low hS1d).go HJ7.2.2.1 (fun y hy => by have : y = B := hy; rw [this]; exact HJ7.2.2.2)))
                  exact ⟨j + 1, by omega, by go_num, _, _, HJ8.1, HJ8.2⟩
                case measure => simp [intOf]; omega
              exact AllReadyH.nil
            exact AllReadyH.nil
          · obtain rfl : j = its.length := by omega
            go_wp2_with fail
            go_roundw
            case rel => exact ⟨k + 1, by omega, by go_num, _, (show ShJ _ _ _ _ _ _ _ _ _ _ _ _ from by have := HQ.out; rw [← hil2.out] at this; exact this).close HM2.out (by simp only [shW, HNW.out])⟩
            case measure => simp [intOf]; omega
    · obtain rfl : k = ks.length := by omega
      go_wp2_with fail
      go_ret
      rw [← hml] at HI
      obtain ⟨h1, h2⟩ := HI.out.end
      rw [hml, ← HI.out.len.trans hml] at h1
      exact ⟨a, cap, cur, by rw [HI.out.len, hml]; rfl, by rw [h2, HPN.out], h1, HI.out.below⟩
end Go.Proofs.Yticdihfjnmjkmaa
