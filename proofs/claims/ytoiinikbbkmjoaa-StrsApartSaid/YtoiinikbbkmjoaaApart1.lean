/- Words that may be turned: each in a block of numbers, whatever they are. -/
import Derived.Test.YtoiinikbbkmjoaaApart0
namespace Go.Proofs.Ytoiinikbbkmjoaa
open Go.RowKit
/-- A word of n numbers, whatever, in a block from lo to hi. -/
def Spot (lo hi : Nat) (w : World) (v : Value) (n : Nat) : Prop :=
  (∃ c, v = .slice none n c ∧ n = 0) ∨ ∃ g c cur, v = .slice (some ⟨g, 0, none⟩) n c ∧ lo ≤ g ∧ g < hi ∧ w.heap[g]? = some (.cells cur 3 (0, 0)) ∧ ∀ j, j < n → ∃ z, cur[j]? = some (.int .i64 z)
def Loose (lo hi : Nat) (v : Value) (L : List (List Int)) (w : World) : Prop := ∃ vs, Row w lo v vs ∧ vs.length = L.length ∧ ∀ i (h : i < vs.length) (h2 : i < L.length), Spot lo hi w vs[i] L[i].length
theorem Own.spot {lo : Nat} {w : World} {v : Value} {x : List Int} (h : Own w lo v x) : Spot lo w.heap.size w v x.length := by
  rcases h.2 with ⟨rfl, h0⟩ | ⟨g, cap, cur, rfl, hg, hh, hn, hc, hsz, htk⟩
  · exact .inl ⟨0, by rw [h0], h0⟩
  · refine .inr ⟨g, cap, cur, rfl, hg, lt_of_block hh, hh, fun j hj => ⟨x[j], ?_⟩⟩
    have h3 : (cur.toList.take (x.length * 1))[j]? = (x.map (Value.int .i64))[j]? := by rw [htk]
    rw [List.getElem?_take, if_pos (by omega), List.getElem?_map, List.getElem?_eq_getElem hj] at h3
    simpa using h3
theorem Made.loose {lo : Nat} {v : Value} {L : List (List Int)} {w : World} (h : Made lo v L w) : Loose lo w.heap.size v L w := by
  obtain ⟨vs, h1, h2⟩ := h
  exact ⟨vs, h1, h2.1, fun i h3 h4 => Own.spot (h2.2 i h3 h4)⟩
theorem Spot.go {lo hi : Nat} {w w' : World} {v : Value} {n : Nat} (h : Spot lo hi w v n) (k : Grow w w') : Spot lo hi w' v n := by
  rcases h with h | ⟨g, c, cur, h1, h2, h3, h4, h5⟩
  · exact .inl h
  · exact .inr ⟨g, c, cur, h1, h2, h3, (k.block g (lt_of_block h4)).trans h4, h5⟩
theorem Loose.go {lo hi : Nat} {v : Value} {L : List (List Int)} {w w' : World} (h : Loose lo hi v L w) (k : Grow w w') : Loose lo hi v L w' := by
  obtain ⟨vs, h1, h2, h3⟩ := h
  exact ⟨vs, h1.keep (fun _ hk => k.block _ (row_ge h1 hk).1), h2, fun i h4 h5 => (h3 i h4 h5).go k⟩
theorem Spot.set {lo hi : Nat} {w : World} {v : Value} {n g j : Nat} {cur : Array Value} {z : Int} (h : Spot lo hi w v n) (hg : w.heap[g]? = some (.cells cur 3 (0, 0))) : Spot lo hi (w.setCell ⟨g, j, none⟩ (.int .i64 z)) v n := by
  rcases h with h | ⟨g2, c, cur2, h1, h2, h3, h4, h5⟩
  · exact .inl h
  · by_cases e : g2 = g
    · subst e
      rw [h4] at hg
      injection hg with hg
      injection hg with hg
      subst hg
      refine .inr ⟨g2, c, _, h1, h2, h3, heap_setCell_known h4, fun i hi => ?_⟩
      by_cases e2 : j = i
      · subst e2
        obtain ⟨z2, h6⟩ := h5 j hi
        have hlt : j < cur2.size := by
          rcases Nat.lt_or_ge j cur2.size with h | h
          · exact h
          · rw [Array.getElem?_eq_none h] at h6; cases h6
        exact ⟨z, by rw [Array.getElem?_setIfInBounds_self_of_lt hlt]⟩
      · obtain ⟨z2, h6⟩ := h5 i hi
        exact ⟨z2, by rw [Array.getElem?_setIfInBounds_ne e2]; exact h6⟩
    · exact .inr ⟨g2, c, cur2, h1, h2, h3, (Below.heap_setCell _ _ _ _ (by simpa using e)).trans h4, h5⟩
theorem Loose.set {lo hi : Nat} {v : Value} {L : List (List Int)} {w : World} {g j : Nat} {cur : Array Value} {z : Int} (h : Loose lo hi v L w) (hg : w.heap[g]? = some (.cells cur 3 (0, 0))) : Loose lo hi v L (w.setCell ⟨g, j, none⟩ (.int .i64 z)) := by
  obtain ⟨vs, h1, h2, h3⟩ := h
  refine ⟨vs, h1.keep (fun k hk => Below.heap_setCell _ _ _ _ (fun e => ?_)), h2, fun i h4 h5 => (h3 i h4 h5).set hg⟩
  obtain ⟨_, _, cs, h6⟩ := row_ge h1 hk
  simp only at e
  rw [e, hg] at h6
  injection h6 with h6
  injection h6 with _ h7
  exact absurd h7 (by decide)
theorem Loose.at {lo hi : Nat} {a : Option Addr} {n c : Nat} {L : List (List Int)} {w : World} (h : Loose lo hi (.slice a n c) L w) {i : Nat} (hil : i < L.length) :
    ∃ g ai di, a = some ⟨g, 0, none⟩ ∧ w.cell? ⟨g, i, none⟩ = some (.slice ai L[i].length di) ∧ Spot lo hi w (.slice ai L[i].length di) L[i].length := by
  obtain ⟨vs, hrow, hl, hw⟩ := h
  have hiv : i < vs.length := by omega
  obtain ⟨g, c2, hlv⟩ : ∃ g c2, Value.slice a n c = .slice (some ⟨g, 0, none⟩) vs.length c2 := by
    rcases hrow.2 with ⟨_, h0⟩ | ⟨g, cap, cur, h1, _⟩
    · omega
    · exact ⟨_, _, h1⟩
  rw [hlv] at hrow
  injection hlv with e1 _ _
  obtain ⟨_, _, _, cur, _, _, hcell⟩ := row_cells hrow
  have ho := hw i hiv hil
  obtain ⟨ai, di, hv⟩ : ∃ ai di, vs[i] = .slice ai L[i].length di := by
    rcases ho with ⟨c, h1, h2⟩ | ⟨g, c, cur, h1, _⟩
    · exact ⟨_, _, h1⟩
    · exact ⟨_, _, h1⟩
  rw [hv] at ho
  have := hcell i _ (List.getElem?_eq_getElem hiv)
  rw [hv, Nat.zero_add] at this
  exact ⟨g, ai, di, e1, this, ho⟩
theorem Spot.at {lo hi : Nat} {w : World} {a : Option Addr} {n c j : Nat} (h : Spot lo hi w (.slice a n c) n) (hj : j < n) :
    ∃ g z cur, a = some ⟨g, 0, none⟩ ∧ w.cell? ⟨g, j, none⟩ = some (.int .i64 z) ∧ w.frozen? ⟨g, j, none⟩ = false ∧ lo ≤ g ∧ g < hi ∧ w.heap[g]? = some (.cells cur 3 (0, 0)) := by
  rcases h with ⟨_, _, h0⟩ | ⟨g, c, cur, h1, h2, h3, h4, h5⟩
  · omega
  · injection h1 with e1 _ _
    obtain ⟨z, hz⟩ := h5 j hj
    exact ⟨g, z, cur, e1, by rw [cell_of_block h4]; exact hz, free_of_block h4, h2, h3, h4⟩
end Go.Proofs.Ytoiinikbbkmjoaa
