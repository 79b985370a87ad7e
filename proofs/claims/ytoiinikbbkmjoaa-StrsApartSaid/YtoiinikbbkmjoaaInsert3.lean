/- slices.Insert of one word in the midst, where there is no room: a new row. Then all roads as one. -/
import Derived.Test.YtoiinikbbkmjoaaInsert2
namespace Go.Proofs.Ytoiinikbbkmjoaa
open Go.RowKit
theorem zeros_size (n : Nat) : (Builtin.zeroCells (Value.slice none 0 0).cells n).size = n := by simp [Builtin.zeroCells, Value.cells]
set_option maxHeartbeats 4000000 in
set_option maxRecDepth 100000 in
theorem insert_grow {base nb g c i : Nat} {v : Value} {vs : List Value} {w : World} (h : Row w base (.slice (some ⟨g, 0, none⟩) vs.length c) vs) (hb : base ≤ w.heap.size) (hn : w.heap[nb]? = some (.cells #[v] 22 (0, 0))) (hv : v.oneCell' = true) (hvs1 : ∀ u ∈ vs, u.oneCell' = true)
    (hi : i < vs.length) (hroom : c < vs.length + 1) (hlen : vs.length ≤ 100000) :
    Calls Try.prog 37 #[.slice (some ⟨g, 0, none⟩) vs.length c, .int .i64 (i : Nat), .slice (some ⟨nb, 0, none⟩) 1 1] w (InsPost base (.slice (some ⟨g, 0, none⟩) vs.length c) vs i v w) := by
  obtain ⟨hbg, hlc, hcm, cur, hcur, hcs, hcell⟩ := row_cells h
  have hgw := lt_of_block hcur
  have hnw := lt_of_block hn
  obtain ⟨i0, hi0, hz0, hzs, hzb⟩ := info_parts info22
  have hc63 : c ≤ 9223372036854775807 := by simpa [maxLen] using hcm
  have hkk : (vs.length : Int) + 1 - (i : Int) = ((vs.length + 1 - i : Nat) : Int) := by omega
  have hik : i + (vs.length + 1 - i) = vs.length + 1 := by omega
  have hold : (Builtin.firstCells i0.size i (.slice (some ⟨g, 0, none⟩) i c)).run Try.prog w.drew = .ok (vs.take i).toArray w.drew := by
    rw [hzs]
    exact run_firstCells_some w.drew 1 i ⟨g, 0, none⟩ i c (vs.take i) (by rw [List.length_take]; omega) (fun j u hj => by
      rw [addr_add]
      rw [List.getElem?_take] at hj
      split at hj
      · exact hcell j u hj
      · cases hj)
  have hrz : ∀ ty, (Builtin.append_ #[29, 3] ty #[.slice (some ⟨g, 0, none⟩) i c, .int .i64 ((vs.length : Int) + 1 - (i : Int))]).run Try.prog w =
      .ok (.slice (some ⟨w.heap.size, 0, none⟩) (vs.length + 1) (grownCap w (vs.length + 1) c 22)) (w.drew.alloc (.cells ((vs.take i).toArray ++ Builtin.zeroCells (Value.slice none 0 0).cells (vs.length + 1 - i) ++ Builtin.zeroCells (Value.slice none 0 0).cells (grownCap w (vs.length + 1) c 22 - (vs.length + 1))) 22)) := fun ty => by
    have h := Lib.run_append_grow_zeros w 29 3 ty 22 i0 _ .i64 .i64 Try.underlying29 Try.underlying3 hi0 hz0 (some ⟨g, 0, none⟩) i c (vs.take i) hold (vs.length + 1 - i) (by omega) (by omega) (by omega) (by omega) (by rw [hzb]; omega) (by rw [hzb, hik]; exact growslice_fits hroom (by omega))
    rw [hik] at h
    rw [hkk]
    exact h
  obtain ⟨G, hG⟩ : ∃ G, G = grownCap w (vs.length + 1) c 22 := ⟨_, rfl⟩
  obtain ⟨ROW, hROW⟩ : ∃ ROW : Array Value, ROW = (vs.take i).toArray ++ Builtin.zeroCells (Value.slice none 0 0).cells (vs.length + 1 - i) ++ Builtin.zeroCells (Value.slice none 0 0).cells (G - (vs.length + 1)) := ⟨_, rfl⟩
  rw [← hG] at hrz
  rw [← hROW] at hrz
  have hGn : vs.length + 1 ≤ G := by rw [hG]; exact grownCap_ge w _ _ _
  have hGm : G ≤ maxLen := by rw [hG]; exact grownCap_le_maxLen w (vs.length + 1) c 22 (by unfold maxLen; omega)
  have hG63 : G ≤ 9223372036854775807 := by simpa [maxLen] using hGm
  have hRl : ROW.size = G := by
    rw [hROW, Array.size_append, Array.size_append, zeros_size, zeros_size]
    simp only [List.size_toArray, List.length_take]
    omega
  have hR0 : ∀ j, j < i → ROW[j]? = vs[j]? := fun j hj => by
    have hlt : (vs.take i).length = i := by simp; omega
    rw [hROW, Array.getElem?_append_left (by rw [Array.size_append, zeros_size]; simp only [List.size_toArray]; omega), Array.getElem?_append_left (by simp only [List.size_toArray]; omega), List.getElem?_toArray, List.getElem?_take, if_pos hj]
  obtain ⟨W1, hW1⟩ : ∃ W1, W1 = w.drew.alloc (.cells ROW 22) := ⟨_, rfl⟩
  rw [← hW1] at hrz
  have hb1 : W1.heap[w.heap.size]? = some (.cells ROW 22 (0, 0)) := by rw [hW1]; exact heap_alloc_this w.drew _
  have hOld : ∀ k, k < w.heap.size → W1.heap[k]? = w.heap[k]? := fun k hk => by rw [hW1]; exact Below.heap_alloc w.drew _ k hk
  have hcpA : ∀ (W : World), (∀ k, W.heap[k]? = W1.heap[k]?) → ∀ ty dc, (Builtin.copy_ #[29, 29] ty #[.slice (some ⟨w.heap.size, i, none⟩) (vs.length + 1 - i) dc, .slice (some ⟨nb, 0, none⟩) 1 1]).run Try.prog W = .ok (goInt [v].length) (W.setCells w.heap.size i [v]) := fun W hW ty dc =>
    run_copy_cells W _ _ ty 22 w.heap.size i (vs.length + 1 - i) dc ⟨nb, 0, none⟩ 1 1 [v] Try.underlying29 size22 (by simp only [List.length_singleton, Nat.min_def]; split <;> omega)
      (fun j u hj => by
        have hj0 : j = 0 := by have := (List.getElem?_eq_some_iff.1 hj).1; simpa using this
        subst hj0
        have hu : v = u := by simpa using hj
        subst hu
        rw [addr_add, cell_of_block ((hW nb).trans ((hOld nb hnw).trans hn))]; rfl)
      (fun j hj => by rw [cell_of_block ((hW _).trans hb1), Array.getElem?_eq_getElem (by simp at hj; omega)]; rfl) (fun j hj => free_of_block ((hW _).trans hb1)) (by simpa using hv)
  have hdl : (vs.drop i).length = vs.length - i := by simp
  obtain ⟨cur2, hcur2, hcs2⟩ := kept_row (b := w.heap.size) (c := G) (t := 22) [v] i W1 ⟨ROW, hb1, hRl⟩
  have hfar : ∀ k, k ≠ w.heap.size → (W1.setCells w.heap.size i [v]).heap[k]? = W1.heap[k]? := fun k hk => setCells_far hk _ _ _
  have hcpB : ∀ (W : World), (∀ k, W.heap[k]? = (W1.setCells w.heap.size i [v]).heap[k]?) → ∀ ty dc sc, (Builtin.copy_ #[29, 29] ty #[.slice (some ⟨w.heap.size, i + 1, none⟩) (vs.length - i) dc, .slice (some ⟨g, i, none⟩) (vs.length - i) sc]).run Try.prog W = .ok (goInt (vs.drop i).length) (W.setCells w.heap.size (i + 1) (vs.drop i)) := fun W hW ty dc sc =>
    run_copy_cells W _ _ ty 22 w.heap.size (i + 1) (vs.length - i) dc ⟨g, i, none⟩ (vs.length - i) sc (vs.drop i) Try.underlying29 size22 (by rw [hdl]; simp only [Nat.min_def]; split <;> omega)
      (fun j u hj => by
        have hcg : W.heap[g]? = some (.cells cur 22 (0, 0)) := (hW g).trans ((hfar g (by omega)).trans ((hOld g hgw).trans hcur))
        rw [addr_add, cell_of_block hcg]
        have := hcell (i + j) u (by rwa [List.getElem?_drop] at hj)
        rwa [Nat.zero_add, cell_of_block hcur] at this)
      (fun j hj => by rw [cell_of_block ((hW _).trans hcur2), Array.getElem?_eq_getElem (by rw [hdl] at hj; omega)]; rfl) (fun j hj => free_of_block ((hW _).trans hcur2)) (fun u hu => hvs1 u (List.mem_of_mem_drop hu))
  have hfin : Hid (∀ W : World, (∀ k, W.heap[k]? = (W1.setCells w.heap.size i [v]).heap[k]?) → W.heap.size = w.heap.size + 1 → W.os = w.os → W.tape = w.tape → W.output = w.output → InsPost base (.slice (some ⟨g, 0, none⟩) vs.length c) vs i v w (.returned (.slice (some ⟨w.heap.size, 0, none⟩) (vs.length + 1) G)) (W.setCells w.heap.size (i + 1) (vs.drop i))) := Lib.hid (fun W hW hWs ho ht hu => by
    refine ⟨_, rfl, ?_, ⟨?_, ?_, ?_, ?_, ?_⟩, fun k hk => .inr (by simp [Value.ownBlock] at hk; omega)⟩
    · have hl := insL_len vs i v
      rw [← hl]
      refine row_of_cells (kept_row _ _ _ ⟨cur2, (hW _).trans hcur2, hcs2⟩) (fun j u hj => ?_) (by omega) hGm hb
      rw [insL_get v (by omega) j] at hj
      have hcW : ∀ a, W.cell? ⟨w.heap.size, a, none⟩ = (W1.setCells w.heap.size i [v]).cell? ⟨w.heap.size, a, none⟩ := fun a => World.cell?_of_block (hW _)
      have hsome : ∀ j, j < [v].length → (W1.cell? ⟨w.heap.size, i + j, none⟩).isSome = true := fun j hj => by
        rw [cell_of_block hb1, Array.getElem?_eq_getElem (by simp at hj; omega)]; rfl
      by_cases h1 : j < i
      · rw [if_pos h1] at hj
        rw [World.cell?_setCells_out _ _ _ _ _ (fun _ _ => .inl (by simp only; omega)), hcW, World.cell?_setCells_out _ _ _ _ _ (fun _ _ => .inl h1), cell_of_block hb1, hR0 j h1]
        exact hj
      · rw [if_neg h1] at hj
        by_cases h2 : j = i
        · rw [if_pos h2] at hj
          rw [h2, World.cell?_setCells_out _ _ _ _ _ (fun _ _ => .inl (by simp only; omega)), hcW]
          have := World.cell?_setCells_in w.heap.size [v] i W1 hsome 0 (by simp)
          rw [Nat.add_zero] at this
          rw [this]
          simpa using hj
        · rw [if_neg h2] at hj
          have hjl : j - 1 < vs.length := (List.getElem?_eq_some_iff.1 hj).1
          have := World.cell?_setCells_in w.heap.size (vs.drop i) (i + 1) W (fun t ht => by
            rw [cell_of_block ((hW _).trans hcur2), Array.getElem?_eq_getElem (by rw [hdl] at ht; omega)]; rfl) (j - (i + 1)) (by rw [hdl]; omega)
          rw [show i + 1 + (j - (i + 1)) = j by omega] at this
          rw [this, List.getElem_drop]
          rw [List.getElem?_eq_getElem hjl] at hj
          rw [← hj]
          congr 2
          omega
    · exact (setCells_os _ _ _ _).trans ho
    · exact (setCells_tape _ _ _ _).trans ht
    · exact (setCells_out _ _ _ _).trans hu
    · rw [setCells_size, hWs]; omega
    · intro k hk _
      rw [setCells_far (by omega), hW k, hfar k (by omega)]
      exact hOld k hk)
  have hs1 : W1.heap.size = w.heap.size + 1 := by rw [hW1]; exact World.size_alloc w.drew _
  have ho1 : W1.os = w.os := by rw [hW1]; rfl
  have ht1 : W1.tape = w.tape := by rw [hW1]; rfl
  have hu1 : W1.output = w.output := by rw [hW1]; rfl
  have HF := Lib.hid (hfin.out ((W1.setCells w.heap.size i [v]).drew) (fun _ => rfl) (by show (W1.setCells w.heap.size i [v]).heap.size = _; rw [setCells_size, hs1]) ((setCells_os _ _ _ _).trans ho1) ((setCells_tape _ _ _ _).trans ht1) ((setCells_out _ _ _ _).trans hu1))
  have hcpB' := fun ty dc sc => hcpB ((W1.setCells w.heap.size i [v]).drew) (fun _ => rfl) ty dc sc
  have hcpA' := fun ty dc => hcpA W1 (fun _ => rfl) ty dc
  have hz2 : ¬ ((i : Int) = (vs.length : Int)) := by omega
  have hz2b : ((i : Int) == (vs.length : Int)) = false := by simp; omega
  have hz3 : (c : Int) < (vs.length : Int) + 1 := by omega
  have hGi : ¬ (G = i) := by omega
  have hGim : ¬ (G = i + 1) := by omega
  have hci : ¬ (c = i) := by omega
  have hw1 : IntKind.i64.wrap ((i : Int) + 1) = (i : Int) + 1 := by rw [IntKind.wrap_i64]; omega
  have hb2 : (0 : Int) ≤ (i : Int) + 1 := by omega
  have htn : ((i : Int) + 1).toNat = i + 1 := by omega
  have hb3 : (i : Int) ≤ (vs.length : Int) := by omega
  have hb4 : (i : Int) ≤ (vs.length : Int) + 1 := by omega
  have hb5 : (i : Int) + 1 ≤ (vs.length : Int) + 1 := by omega
  have hb6 : (i : Int) ≤ c := by omega
  clear hkk hik hold hROW hG hRl hR0 hW1 hb1 hOld hcpA hcpB hdl hcur2 hcs2 hfar hfin hs1 ho1 ht1 hu1 hcur hcs hcell h hn hvs1
  go_enter Try.func37, Try.ntmps37
  go_wp2_with (first
    | (at_builtin; refine Lib.wpList_append_run _ rfl _ _ _ _ rfl _ _ rfl rfl _ _ (hrz _) ?_)
    | (at_builtin; refine Go.Proofs.wpList_copy_runI _ rfl _ _ 29 29 rfl _ _ rfl rfl (hcpA' _ _) ?_))
  go_region_law (refine Go.Proofs.step_copy_runI rfl _ _ 29 29 rfl _ _ (by simp [Act.eval, Act.put]) (by simp [Act.eval, Act.put]) (hcpB' _ _ _) ?_)
  go_wp2
  go_ret
  exact HF.out
theorem insert_any {base nb i : Nat} {lv v : Value} {vs : List Value} {w : World} (h : Row w base lv vs) (hb : base ≤ w.heap.size) (hn : w.heap[nb]? = some (.cells #[v] 22 (0, 0))) (hne : lv.ownBlock ≠ some nb) (hv : v.oneCell' = true) (hvs1 : ∀ u ∈ vs, u.oneCell' = true)
    (hi : i ≤ vs.length) (hlen : vs.length ≤ 100000) : Calls Try.prog 37 #[lv, .int .i64 (i : Nat), .slice (some ⟨nb, 0, none⟩) 1 1] w (InsPost base lv vs i v w) := by
  by_cases he : i = vs.length
  · subst he
    exact insert_end h hb hn hv hlen
  · have h2 : i < vs.length := by omega
    obtain ⟨g, c, rfl⟩ : ∃ g c, lv = .slice (some ⟨g, 0, none⟩) vs.length c := by
      rcases h.2 with ⟨_, h0⟩ | ⟨g, cap, cur, rfl, _⟩
      · omega
      · exact ⟨_, _, rfl⟩
    by_cases hr : vs.length + 1 ≤ c
    · exact insert_shift h hn (fun e => hne (by rw [e]; rfl)) hv hvs1 h2 hr
    · exact insert_grow h hb hn hv hvs1 h2 (by omega) hlen
end Go.Proofs.Ytoiinikbbkmjoaa
