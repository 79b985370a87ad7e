/- slices.Insert of one word in the midst: in place, or into a new row. -/
import Derived.Test.YtoiinikbbkmjoaaInsert
namespace Go.Proofs.Ytoiinikbbkmjoaa
open Go.RowKit
theorem size22 : (Try.prog.info? 22).map (·.size) = some 1 := by
  obtain ⟨i0, hi0, h0, h1, h2⟩ := info_parts info22
  rw [hi0]; simp [h1]
set_option maxHeartbeats 4000000 in
set_option maxRecDepth 100000 in
theorem insert_shift {base nb g c i : Nat} {v : Value} {vs : List Value} {w : World} (h : Row w base (.slice (some ⟨g, 0, none⟩) vs.length c) vs) (hn : w.heap[nb]? = some (.cells #[v] 22 (0, 0))) (hne : nb ≠ g) (hv : v.oneCell' = true) (hvs1 : ∀ u ∈ vs, u.oneCell' = true)
    (hi : i < vs.length) (hroom : vs.length + 1 ≤ c) :
    Calls Try.prog 37 #[.slice (some ⟨g, 0, none⟩) vs.length c, .int .i64 (i : Nat), .slice (some ⟨nb, 0, none⟩) 1 1] w (InsPost base (.slice (some ⟨g, 0, none⟩) vs.length c) vs i v w) := by
  obtain ⟨hbg, hlc, hcm, cur, hcur, hcs, hcell⟩ := row_cells h
  have hgw := lt_of_block hcur
  have hc63 : c ≤ 9223372036854775807 := by simpa [maxLen] using hcm
  have hsp : ∀ j, j < c → (w.cell? ⟨g, 0 + j, none⟩).isSome = true := fun j hj => by
    rw [cell_of_block hcur, Nat.zero_add, Array.getElem?_eq_getElem (by omega)]; rfl
  have hfz : ∀ j, w.frozen? ⟨g, j, none⟩ = false := fun j => free_of_block hcur
  have hsa : w.shape? nb = some (22, 1) := by simp [World.shape?, hn]
  have hsb : w.shape? g = some (22, c) := by simp [World.shape?, hcur, hcs]
  have hov : ∀ lb cb, (callFunc 42 #[.slice (some ⟨nb, 0, none⟩) 1 1, .slice (some ⟨g, i + 1, none⟩) lb cb]).run Try.prog w = .ok (.value (.bool false)) w := fun lb cb => by
    rw [run_callFunc_extern Try.func42 (by kernel_rfl) (by kernel_rfl) (by kernel_rfl) (e := Extern.SlicesOverlaps.overlaps #[29, 29] #[4]) (by kernel_rfl),
      Lib.run_overlaps_apart w 29 4 22 Try.underlying29 1 (fun w => rfl) ⟨nb, 0, none⟩ ⟨g, i + 1, none⟩ 1 1 lb cb hne 22 22 1 c hsa hsb (by omega) (free_of_block hn) (free_of_block hn)]
    rfl
  have hdl : (vs.drop i).length = vs.length - i := by simp
  have hw1 : IntKind.i64.wrap ((i : Int) + 1) = (i : Int) + 1 := by rw [IntKind.wrap_i64]; omega
  have hw2 : IntKind.i64.wrap ((vs.length : Int) + 1) = (vs.length : Int) + 1 := by rw [IntKind.wrap_i64]; omega
  have hz2 : ¬ ((i : Int) = (vs.length : Int)) := by omega
  have hz2b : ((i : Int) == (vs.length : Int)) = false := by simp; omega
  have hb1 : (0 : Int) ≤ (i : Int) + 1 := by omega
  have htn : ((i : Int) + 1).toNat = i + 1 := by omega
  have htn2 : ((vs.length : Int) + 1).toNat = vs.length + 1 := by omega
  have hb2 : ¬ (c = i + 1) := by omega
  have hb3 : (i : Int) ≤ (vs.length : Int) + 1 := by omega
  have hb4 : ¬ (c = i) := by omega
  have hb5 : (i : Int) + 1 ≤ (vs.length : Int) + 1 := by omega
  have hb6 : ¬ (c : Int) < (vs.length : Int) + 1 := by omega
  have hb7 : (vs.length : Int) + 1 ≤ c := by omega
  have hb8 : (i : Int) ≤ vs.length := by omega
  have hcp1 : ∀ ty dc sc, (Builtin.copy_ #[29, 29] ty #[.slice (some ⟨g, i + 1, none⟩) (vs.length - i) dc, .slice (some ⟨g, i, none⟩) (vs.length + 1 - i) sc]).run Try.prog w.drew = .ok (goInt (vs.drop i).length) (w.drew.setCells g (i + 1) (vs.drop i)) := fun ty dc sc =>
    run_copy_cells w.drew _ _ ty 22 g (i + 1) (vs.length - i) dc ⟨g, i, none⟩ (vs.length + 1 - i) sc (vs.drop i) Try.underlying29 size22 (by rw [hdl]; simp only [Nat.min_def]; split <;> omega)
      (fun j u hj => by
        rw [addr_add]
        have := hcell (i + j) u (by rwa [List.getElem?_drop] at hj)
        rwa [Nat.zero_add] at this)
      (fun j hj => by have := hsp (i + 1 + j) (by omega); rwa [Nat.zero_add] at this) (fun j hj => hfz _) (fun u hu => hvs1 u (List.mem_of_mem_drop hu))
  obtain ⟨W1, hW1⟩ : ∃ W1, W1 = w.drew.setCells g (i + 1) (vs.drop i) := ⟨_, rfl⟩
  have hk1 := kept_row (b := g) (c := c) (t := 22) (vs.drop i) (i + 1) w.drew ⟨cur, hcur, hcs⟩
  rw [← hW1] at hk1
  obtain ⟨cur1, hcur1, hcs1⟩ := hk1
  have hcp2 : ∀ (W : World), W = W1 → ∀ ty dc, (Builtin.copy_ #[29, 29] ty #[.slice (some ⟨g, i, none⟩) (vs.length + 1 - i) dc, .slice (some ⟨nb, 0, none⟩) 1 1]).run Try.prog W = .ok (goInt [v].length) (W.setCells g i [v]) := fun W hW ty dc =>
    run_copy_cells W _ _ ty 22 g i (vs.length + 1 - i) dc ⟨nb, 0, none⟩ 1 1 [v] Try.underlying29 size22 (by simp only [List.length_singleton, Nat.min_def]; split <;> omega)
      (fun j u hj => by
        have hj0 : j = 0 := by have := (List.getElem?_eq_some_iff.1 hj).1; simpa using this
        subst hj0
        have hu : v = u := by simpa using hj
        subst hu
        rw [addr_add, hW, hW1, World.cell?_setCells_out g _ _ _ _ (fun h _ => absurd h hne)]
        rw [show w.drew.cell? ⟨nb, 0 + 0, none⟩ = w.cell? ⟨nb, 0, none⟩ from rfl, cell_of_block hn]; rfl)
      (fun j hj => by rw [hW, cell_of_block hcur1, Array.getElem?_eq_getElem (by simp at hj; omega)]; rfl) (fun j hj => by rw [hW]; exact free_of_block hcur1) (by simpa using hv)
  have hfin : Hid (InsPost base (.slice (some ⟨g, 0, none⟩) vs.length c) vs i v w (.returned (.slice (some ⟨g, 0, none⟩) (vs.length + 1) c)) (W1.setCells g i [v])) := Lib.hid (by
    refine ⟨_, rfl, ?_, ⟨?_, ?_, ?_, ?_, ?_⟩, fun k hk => .inl hk⟩
    · have hl := insL_len vs i v
      rw [← hl]
      refine row_of_cells (kept_row _ _ _ ⟨cur1, hcur1, hcs1⟩) (fun j u hj => ?_) (by omega) hcm hbg
      rw [insL_get v (by omega) j] at hj
      have hsome : ∀ j, j < [v].length → (W1.cell? ⟨g, i + j, none⟩).isSome = true := fun j hj => by
        rw [cell_of_block hcur1, Array.getElem?_eq_getElem (by simp at hj; omega)]; rfl
      by_cases h1 : j < i
      · rw [if_pos h1] at hj
        rw [World.cell?_setCells_out g _ _ _ _ (fun _ _ => .inl h1), hW1, World.cell?_setCells_out g _ _ _ _ (fun _ _ => .inl (by simp only; omega))]
        have := hcell j u hj
        rwa [Nat.zero_add] at this
      · rw [if_neg h1] at hj
        by_cases h2 : j = i
        · rw [if_pos h2] at hj
          have := World.cell?_setCells_in g [v] i W1 hsome 0 (by simp)
          rw [h2]
          rw [Nat.add_zero] at this
          rw [this]
          simpa using hj
        · rw [if_neg h2] at hj
          rw [World.cell?_setCells_out g _ _ _ _ (fun _ _ => .inr (by simp only [List.length_singleton]; omega)), hW1]
          have hjl : j - 1 < vs.length := (List.getElem?_eq_some_iff.1 hj).1
          have := World.cell?_setCells_in g (vs.drop i) (i + 1) w.drew (fun t ht => by
            have := hsp (i + 1 + t) (by rw [hdl] at ht; omega)
            rwa [Nat.zero_add] at this) (j - (i + 1)) (by rw [hdl]; omega)
          rw [show i + 1 + (j - (i + 1)) = j by omega] at this
          rw [this, List.getElem_drop]
          rw [List.getElem?_eq_getElem hjl] at hj
          rw [← hj]
          congr 2
          omega
    · rw [hW1]; exact setCells_os _ _ _ _ |>.trans (setCells_os _ _ _ _)
    · rw [hW1]; exact setCells_tape _ _ _ _ |>.trans (setCells_tape _ _ _ _)
    · rw [hW1]; exact setCells_out _ _ _ _ |>.trans (setCells_out _ _ _ _)
    · rw [hW1, setCells_size, setCells_size]; exact Nat.le_refl _
    · intro k hk hne2
      have hkg : k ≠ g := fun e => hne2 (by rw [e]; rfl)
      rw [hW1, setCells_far hkg, setCells_far hkg]
      rfl)
  rw [← hW1] at hcp1
  clear hW1 hcur1 hcs1 hcell hsp hfz hcur hcs h hn hsa hsb hvs1
  go_enter Try.func37, Try.ntmps37
  go_wp2_with (simp only [hov])
  go_region_law (refine Go.Proofs.step_copy_runI rfl _ _ 29 29 rfl _ _ (by simp [Act.eval, Act.put]) (by simp [Act.eval, Act.put]) (hcp1 _ _ _) ?_)
  go_wp2_with (at_builtin; refine Go.Proofs.wpList_copy_runI _ rfl _ _ 29 29 rfl _ _ rfl rfl (hcp2 _ rfl _ _) ?_)
  go_ret
  exact hfin.out
end Go.Proofs.Ytoiinikbbkmjoaa
