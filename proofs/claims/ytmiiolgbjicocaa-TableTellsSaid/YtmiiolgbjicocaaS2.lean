/- slices.Insert, and the place of a word -/
import Derived.Test.YtmiiolgbjicocaaS1
import Derived.Deep.AppendLies
import Derived.Deep.RegionLaw
import Derived.Shelf.Spec.SlicesInsert
import Derived.Lib.AppendZerosOnto
import Derived.Laws.NewBlocks
namespace Go.Proofs.Ytmiiolgbjicocaa
open Go.RowKit
theorem info26 : (Try.prog.info? 26).map (fun i => (i.zero, i.size, i.bytes)) = some (some (.slice none 0 0), 1, 24) := by kernel_rfl
/-- A list of words of one's own: its values. -/
def Row (w : World) (base : Nat) (v : Value) (vs : List Value) : Prop := w.ownsRow base 26 1 v vs.length vs
theorem row_ge {w : World} {base : Nat} {v : Value} {vs : List Value} (h : Row w base v vs) {g : Nat} (hg : v.ownBlock = some g) : g < w.heap.size ∧ base ≤ g ∧ ∃ cs, w.heap[g]? = some (.cells cs 26 (0, 0)) := by
  obtain ⟨h1, h2⟩ := h
  rcases h2 with ⟨rfl, _⟩ | ⟨g', cap, cur, rfl, hg', hh, r⟩
  · simp [Value.ownBlock] at hg
  · simp [Value.ownBlock] at hg
    subst hg
    exact ⟨lt_of_block hh, hg', cur, hh⟩
theorem kept_row {b c : Nat} {t : TypeId} : ∀ (us : List Value) (o : Nat) (w : World), (∃ cur : Array Value, w.heap[b]? = some (.cells cur t (0, 0)) ∧ cur.size = c) → ∃ cur : Array Value, (w.setCells b o us).heap[b]? = some (.cells cur t (0, 0)) ∧ cur.size = c
  | [], _, _, h => h
  | u :: us, o, w, ⟨cur, h, hs⟩ => kept_row us (o + 1) _ ⟨_, heap_setCell_known h, by simpa using hs⟩
theorem setCells_far {b k : Nat} (hk : k ≠ b) : ∀ (us : List Value) (o : Nat) (w : World), (w.setCells b o us).heap[k]? = w.heap[k]?
  | [], _, _ => rfl
  | u :: us, o, w => (setCells_far hk us (o + 1) _).trans (Below.heap_setCell _ _ _ _ (by simpa using hk))
theorem setCells_size (b : Nat) : ∀ (us : List Value) (o : Nat) (w : World), (w.setCells b o us).heap.size = w.heap.size
  | [], _, _ => rfl
  | u :: us, o, w => (setCells_size b us (o + 1) _).trans (by simp [World.setCell])
theorem setCells_os (b : Nat) : ∀ (us : List Value) (o : Nat) (w : World), (w.setCells b o us).os = w.os
  | [], _, _ => rfl
  | _ :: us, o, _ => setCells_os b us (o + 1) _
theorem setCells_tape (b : Nat) : ∀ (us : List Value) (o : Nat) (w : World), (w.setCells b o us).tape = w.tape
  | [], _, _ => rfl
  | _ :: us, o, _ => setCells_tape b us (o + 1) _
theorem setCells_out (b : Nat) : ∀ (us : List Value) (o : Nat) (w : World), (w.setCells b o us).output = w.output
  | [], _, _ => rfl
  | _ :: us, o, _ => setCells_out b us (o + 1) _
theorem row_of_cells {w : World} {base g cap : Nat} {ys : List Value} (h : ∃ cur : Array Value, w.heap[g]? = some (.cells cur 26 (0, 0)) ∧ cur.size = cap)
    (hc : ∀ j u, ys[j]? = some u → w.cell? ⟨g, j, none⟩ = some u) (hl : ys.length ≤ cap) (hm : cap ≤ maxLen) (hb : base ≤ g) : Row w base (.slice (some ⟨g, 0, none⟩) ys.length cap) ys := by
  obtain ⟨cur, hh, hs⟩ := h
  refine ⟨by simp, .inr ⟨g, cap, cur, rfl, hb, hh, hl, hm, by omega, ?_⟩⟩
  refine List.ext_getElem (by simp; omega) (fun j h1 h2 => ?_)
  have := hc j _ (List.getElem?_eq_getElem h2)
  rw [cell_of_block hh] at this
  rw [List.getElem_take, Array.getElem_toList]
  rw [Array.getElem?_eq_getElem (by omega)] at this
  exact Option.some.inj this
def insL (vs : List Value) (i : Nat) (v : Value) : List Value := vs.take i ++ [v] ++ vs.drop i
theorem insL_len (vs : List Value) (i : Nat) (v : Value) : (insL vs i v).length = vs.length + 1 := by unfold insL; simp; omega
theorem insL_get {vs : List Value} {i : Nat} (v : Value) (hi : i ≤ vs.length) (j : Nat) : (insL vs i v)[j]? = if j < i then vs[j]? else if j = i then some v else vs[j - 1]? := by
  unfold insL
  have hl : (vs.take i).length = i := by simp; omega
  rw [List.append_assoc]
  by_cases h1 : j < i
  · rw [if_pos h1, List.getElem?_append_left (by omega), List.getElem?_take, if_pos h1]
  · rw [if_neg h1, List.getElem?_append_right (by omega), hl]
    by_cases h2 : j = i
    · rw [if_pos h2, h2, Nat.sub_self]; rfl
    · rw [if_neg h2]
      obtain ⟨k, hk⟩ : ∃ k, j - i = k + 1 := ⟨j - i - 1, by omega⟩
      rw [hk]
      show ([v] ++ vs.drop i)[k + 1]? = _
      rw [List.singleton_append, List.getElem?_cons_succ, List.getElem?_drop]
      congr 1
      omega
/-- What an insertion leaves. -/
def InsPost (base : Nat) (lv : Value) (vs : List Value) (i : Nat) (v : Value) (w : World) (e : Ending) (w' : World) : Prop :=
  ∃ lv', e = .returned lv' ∧ Row w' base lv' (insL vs i v) ∧ w.grownBy w' lv.ownBlock ∧ ∀ k, lv'.ownBlock = some k → lv.ownBlock = some k ∨ w.heap.size ≤ k
theorem row_cells {w : World} {base g cap : Nat} {vs : List Value} (h : Row w base (.slice (some ⟨g, 0, none⟩) vs.length cap) vs) : base ≤ g ∧ vs.length ≤ cap ∧ cap ≤ maxLen ∧ ∃ cur : Array Value, w.heap[g]? = some (.cells cur 26 (0, 0)) ∧ cur.size = cap ∧ ∀ j u, vs[j]? = some u → w.cell? ⟨g, 0 + j, none⟩ = some u := by
  obtain ⟨h1, h2⟩ := h
  rcases h2 with ⟨h2, _⟩ | ⟨g', cap', cur, hv, hg, hh, hn, hc, hs, htk⟩
  · cases h2
  · injection hv with e1 e2 e3
    injection e1 with e1
    injection e1 with e1
    subst e1 e3
    refine ⟨hg, hn, hc, cur, hh, by omega, fun j u hj => ?_⟩
    rw [cell_of_block hh, Nat.zero_add]
    have hjl := (List.getElem?_eq_some_iff.1 hj).1
    rw [← htk, List.getElem?_take, if_pos (by omega)] at hj
    simpa using hj
set_option maxHeartbeats 4000000 in
set_option maxRecDepth 100000 in
theorem insert_end {base nb : Nat} {lv v : Value} {vs : List Value} {w : World} (h : Row w base lv vs) (hb : base ≤ w.heap.size) (hn : w.heap[nb]? = some (.cells #[v] 26 (0, 0))) (hv : v.oneCell' = true) (hlen : vs.length ≤ 100000) :
    Calls Try.prog 80 #[lv, .int .i64 (vs.length : Nat), .slice (some ⟨nb, 0, none⟩) 1 1] w (InsPost base lv vs vs.length v w) := by
  obtain ⟨i0, hi0, hz0, hz1, hz2⟩ := info_parts info26
  have HH := Lib.hid h
  have HN := Lib.hid hn
  have hsl : ∃ a c, lv = .slice a vs.length c := by
    rcases h.2 with ⟨rfl, h0⟩ | ⟨g, cap, cur, rfl, _⟩
    · exact ⟨none, 0, by rw [h0]⟩
    · exact ⟨_, _, rfl⟩
  obtain ⟨a, c, rfl⟩ := hsl
  have hlc : vs.length ≤ c := by
    rcases h.2 with ⟨h1, h0⟩ | ⟨g, cap, cur, h1, _, _, h2, _⟩
    · injection h1 with _ _ h3; omega
    · injection h1 with _ _ h3; omega
  clear h hn
  have hee : (((vs.length : Nat) : Int) == ((vs.length : Nat) : Int)) = true := by simp
  have hl0 : (0 : Int) ≤ (vs.length : Nat) := by omega
  by_cases hcc : c = vs.length
  · subst hcc
    go_enter Try.func80, Try.ntmps80
    go_wp2_with (first
      | (at_builtin; (refine wpList_append_lies _ rfl (.tmp 23) (.tmp 24) 39 rfl base 26 i0 _ 1 24 Try.underlying39 hi0 hz0 hz1 hz2 rfl (by omega) (.slice a vs.length vs.length) vs.length vs rfl HH.out ⟨nb, 0, none⟩ 1 1 [v] rfl rfl (World.news_of_block (cs := #[v]) (t := 26) (fr := (0, 0)) HN.out) (by simpa using hv) (by omega) (by simp only [maxLen]; omega) (by omega) hb w.heap.size rfl ?_); intro gg cap' w1 hown1 hgrow hat hlt))
    go_ret
    refine ⟨_, rfl, ?_, hgrow, ?_⟩
    · unfold Row insL
      rw [List.take_of_length_le (Nat.le_refl _), List.drop_of_length_le (Nat.le_refl _), List.append_nil, List.length_append]
      exact hown1
    · intro k hk
      have hk' : gg = k := by simpa [Value.ownBlock] using hk
      subst hk'
      rcases hat with h | h
      · exact .inl h
      · exact .inr (by omega)
  · have hcd : (c : Int) ≠ vs.length := by omega
    go_enter Try.func80, Try.ntmps80
    go_wp2_with (first
      | (at_builtin; (refine wpList_append_lies _ rfl (.tmp 23) (.tmp 24) 39 rfl base 26 i0 _ 1 24 Try.underlying39 hi0 hz0 hz1 hz2 rfl (by omega) (.slice a vs.length c) vs.length vs rfl HH.out ⟨nb, 0, none⟩ 1 1 [v] rfl rfl (World.news_of_block (cs := #[v]) (t := 26) (fr := (0, 0)) HN.out) (by simpa using hv) (by omega) (by simp only [maxLen]; omega) (by omega) hb w.heap.size rfl ?_); intro gg cap' w1 hown1 hgrow hat hlt))
    go_ret
    refine ⟨_, rfl, ?_, hgrow, ?_⟩
    · unfold Row insL
      rw [List.take_of_length_le (Nat.le_refl _), List.drop_of_length_le (Nat.le_refl _), List.append_nil, List.length_append]
      exact hown1
    · intro k hk
      have hk' : gg = k := by simpa [Value.ownBlock] using hk
      subst hk'
      rcases hat with h | h
      · exact .inl h
      · exact .inr (by omega)
end Go.Proofs.Ytmiiolgbjicocaa
namespace Go.Proofs.Ytmiiolgbjicocaa
open Go.RowKit
theorem size22 : (Try.prog.info? 26).map (·.size) = some 1 := by
  obtain ⟨i0, hi0, h0, h1, h2⟩ := info_parts info26
  rw [hi0]; simp [h1]
set_option maxHeartbeats 4000000 in
set_option maxRecDepth 100000 in
theorem insert_shift {base nb g c i : Nat} {v : Value} {vs : List Value} {w : World} (h : Row w base (.slice (some ⟨g, 0, none⟩) vs.length c) vs) (hn : w.heap[nb]? = some (.cells #[v] 26 (0, 0))) (hne : nb ≠ g) (hv : v.oneCell' = true) (hvs1 : ∀ u ∈ vs, u.oneCell' = true)
    (hi : i < vs.length) (hroom : vs.length + 1 ≤ c) :
    Calls Try.prog 80 #[.slice (some ⟨g, 0, none⟩) vs.length c, .int .i64 (i : Nat), .slice (some ⟨nb, 0, none⟩) 1 1] w (InsPost base (.slice (some ⟨g, 0, none⟩) vs.length c) vs i v w) := by
  obtain ⟨hbg, hlc, hcm, cur, hcur, hcs, hcell⟩ := row_cells h
  have hgw := lt_of_block hcur
  have hc63 : c ≤ 9223372036854775807 := by simpa [maxLen] using hcm
  have hsp : ∀ j, j < c → (w.cell? ⟨g, 0 + j, none⟩).isSome = true := fun j hj => by
    rw [cell_of_block hcur, Nat.zero_add, Array.getElem?_eq_getElem (by omega)]; rfl
  have hfz : ∀ j, w.frozen? ⟨g, j, none⟩ = false := fun j => free_of_block hcur
  have hsa : w.shape? nb = some (26, 1) := by simp [World.shape?, hn]
  have hsb : w.shape? g = some (26, c) := by simp [World.shape?, hcur, hcs]
  have hov : ∀ lb cb, (callFunc 91 #[.slice (some ⟨nb, 0, none⟩) 1 1, .slice (some ⟨g, i + 1, none⟩) lb cb]).run Try.prog w = .ok (.value (.bool false)) w := fun lb cb => by
    rw [run_callFunc_extern Try.func91 (by kernel_rfl) (by kernel_rfl) (by kernel_rfl) (e := Extern.SlicesOverlaps.overlaps #[39, 39] #[4]) (by kernel_rfl),
      Lib.run_overlaps_apart w 39 4 26 Try.underlying39 1 (fun w => rfl) ⟨nb, 0, none⟩ ⟨g, i + 1, none⟩ 1 1 lb cb hne 26 26 1 c hsa hsb (by omega) (free_of_block hn) (free_of_block hn)]
    rfl
  have hdl : (vs.drop i).length = vs.length - i := by simp
  have hw1 : IntKind.i64.wrap ((i : Int) + 1) = (i : Int) + 1 := by rw [IntKind.wrap_i64]; omega
  have hw2 : IntKind.i64.wrap ((vs.length : Int) + 1) = (vs.length : Int) + 1 := by rw [IntKind.wrap_i64]; omega
  have hz2 : ¬ ((i : Int) = (vs.length : Int)) := by omega
  have hz2b : ((i : Int) == (vs.length : Int)) = false := by simp; omega
  have hb1 : (0 : Int) ≤ (i : Int) + 1 := by omega
  have htn : ((i : Int) + 1).toNat = i + 1 := by omega
  have htn2 : ((vs.length : Int) + 1).toNat = vs.length + 1 := by omega
  have hb2 : ¬ (c = i + 1) := by omega
  have hb3 : (i : Int) ≤ (vs.length : Int) + 1 := by omega
  have hb4 : ¬ (c = i) := by omega
  have hb5 : (i : Int) + 1 ≤ (vs.length : Int) + 1 := by omega
  have hb6 : ¬ (c : Int) < (vs.length : Int) + 1 := by omega
  have hb7 : (vs.length : Int) + 1 ≤ c := by omega
  have hb8 : (i : Int) ≤ vs.length := by omega
  have hcp1 : ∀ ty dc sc, (Builtin.copy_ #[39, 39] ty #[.slice (some ⟨g, i + 1, none⟩) (vs.length - i) dc, .slice (some ⟨g, i, none⟩) (vs.length + 1 - i) sc]).run Try.prog w.drew = .ok (goInt (vs.drop i).length) (w.drew.setCells g (i + 1) (vs.drop i)) := fun ty dc sc =>
    run_copy_cells w.drew _ _ ty 26 g (i + 1) (vs.length - i) dc ⟨g, i, none⟩ (vs.length + 1 - i) sc (vs.drop i) Try.underlying39 size22 (by rw [hdl]; simp only [Nat.min_def]; split <;> omega)
      (fun j u hj => by
        rw [addr_add]
        have := hcell (i + j) u (by rwa [List.getElem?_drop] at hj)
        rwa [Nat.zero_add] at this)
      (fun j hj => by have := hsp (i + 1 + j) (by omega); rwa [Nat.zero_add] at this) (fun j hj => hfz _) (fun u hu => hvs1 u (List.mem_of_mem_drop hu))
  obtain ⟨W1, hW1⟩ : ∃ W1, W1 = w.drew.setCells g (i + 1) (vs.drop i) := ⟨_, rfl⟩
  have hk1 := kept_row (b := g) (c := c) (t := 26) (vs.drop i) (i + 1) w.drew ⟨cur, hcur, hcs⟩
  rw [← hW1] at hk1
  obtain ⟨cur1, hcur1, hcs1⟩ := hk1
  have hcp2 : ∀ (W : World), W = W1 → ∀ ty dc, (Builtin.copy_ #[39, 39] ty #[.slice (some ⟨g, i, none⟩) (vs.length + 1 - i) dc, .slice (some ⟨nb, 0, none⟩) 1 1]).run Try.prog W = .ok (goInt [v].length) (W.setCells g i [v]) := fun W hW ty dc =>
    run_copy_cells W _ _ ty 26 g i (vs.length + 1 - i) dc ⟨nb, 0, none⟩ 1 1 [v] Try.underlying39 size22 (by simp only [List.length_singleton, Nat.min_def]; split <;> omega)
      (fun j u hj => by
        have hj0 : j = 0 := by have := (List.getElem?_eq_some_iff.1 hj).1; simpa using this
        subst hj0
        have hu : v = u := by simpa using hj
        subst hu
        rw [addr_add, hW, hW1, World.cell?_setCells_out g _ _ _ _ (fun h _ => absurd h hne)]
        rw [show w.drew.cell? ⟨nb, 0 + 0, none⟩ = w.cell? ⟨nb, 0, none⟩ from rfl, cell_of_block hn]; rfl)
      (fun j hj => by rw [hW, cell_of_block hcur1, Array.getElem?_eq_getElem (by simp at hj; omega)]; rfl) (fun j hj => by rw [hW]; exact free_of_block hcur1) (by simpa using hv)
  have hfin : Hid (InsPost base (.slice (some ⟨g, 0, none⟩) vs.length c) vs i v w (.returned (.slice (some ⟨g, 0, none⟩) (vs.length + 1) c)) (W1.setCells g i [v])) := Lib.hid (by
    refine ⟨_, rfl, ?_, ⟨?_, ?_, ?_, ?_, ?_⟩, fun k hk => .inl hk⟩
    · have hl := insL_len vs i v
      rw [← hl]
      refine row_of_cells (kept_row _ _ _ ⟨cur1, hcur1, hcs1⟩) (fun j u hj => ?_) (by omega) hcm hbg
      rw [insL_get v (by omega) j] at hj
      have hsome : ∀ j, j < [v].length → (W1.cell? ⟨g, i + j, none⟩).isSome = true := fun j hj => by
        rw [cell_of_block hcur1, Array.getElem?_eq_getElem (by simp at hj; omega)]; rfl
      by_cases h1 : j < i
      · rw [if_pos h1] at hj
        rw [World.cell?_setCells_out g _ _ _ _ (fun _ _ => .inl h1), hW1, World.cell?_setCells_out g _ _ _ _ (fun _ _ => .inl (by simp only; omega))]
        have := hcell j u hj
        rwa [Nat.zero_add] at this
      · rw [if_neg h1] at hj
        by_cases h2 : j = i
        · rw [if_pos h2] at hj
          have := World.cell?_setCells_in g [v] i W1 hsome 0 (by simp)
          rw [h2]
          rw [Nat.add_zero] at this
          rw [this]
          simpa using hj
        · rw [if_neg h2] at hj
          rw [World.cell?_setCells_out g _ _ _ _ (fun _ _ => .inr (by simp only [List.length_singleton]; omega)), hW1]
          have hjl : j - 1 < vs.length := (List.getElem?_eq_some_iff.1 hj).1
          have := World.cell?_setCells_in g (vs.drop i) (i + 1) w.drew (fun t ht => by
            have := hsp (i + 1 + t) (by rw [hdl] at ht; omega)
            rwa [Nat.zero_add] at this) (j - (i + 1)) (by rw [hdl]; omega)
          rw [show i + 1 + (j - (i + 1)) = j by omega] at this
          rw [this, List.getElem_drop]
          rw [List.getElem?_eq_getElem hjl] at hj
          rw [← hj]
          congr 2
          omega
    · rw [hW1]; exact setCells_os _ _ _ _ |>.trans (setCells_os _ _ _ _)
    · rw [hW1]; exact setCells_tape _ _ _ _ |>.trans (setCells_tape _ _ _ _)
    · rw [hW1]; exact setCells_out _ _ _ _ |>.trans (setCells_out _ _ _ _)
    · rw [hW1, setCells_size, setCells_size]; exact Nat.le_refl _
    · intro k hk hne2
      have hkg : k ≠ g := fun e => hne2 (by rw [e]; rfl)
      rw [hW1, setCells_far hkg, setCells_far hkg]
      rfl)
  rw [← hW1] at hcp1
  clear hW1 hcur1 hcs1 hcell hsp hfz hcur hcs h hn hsa hsb hvs1
  go_enter Try.func80, Try.ntmps80
  go_wp2_with (simp only [hov])
  go_region_law (refine Go.Proofs.step_copy_runI rfl _ _ 39 39 rfl _ _ (by simp [Act.eval, Act.put]) (by simp [Act.eval, Act.put]) (hcp1 _ _ _) ?_)
  go_wp2_with (at_builtin; refine Go.Proofs.wpList_copy_runI _ rfl _ _ 39 39 rfl _ _ rfl rfl (hcp2 _ rfl _ _) ?_)
  go_ret
  exact hfin.out
end Go.Proofs.Ytmiiolgbjicocaa
namespace Go.Proofs.Ytmiiolgbjicocaa
open Go.RowKit
theorem zeros_size (n : Nat) : (Builtin.zeroCells (Value.slice none 0 0).cells n).size = n := by simp [Builtin.zeroCells, Value.cells]
set_option maxHeartbeats 4000000 in
set_option maxRecDepth 100000 in
theorem insert_grow {base nb g c i : Nat} {v : Value} {vs : List Value} {w : World} (h : Row w base (.slice (some ⟨g, 0, none⟩) vs.length c) vs) (hb : base ≤ w.heap.size) (hn : w.heap[nb]? = some (.cells #[v] 26 (0, 0))) (hv : v.oneCell' = true) (hvs1 : ∀ u ∈ vs, u.oneCell' = true)
    (hi : i < vs.length) (hroom : c < vs.length + 1) (hlen : vs.length ≤ 100000) :
    Calls Try.prog 80 #[.slice (some ⟨g, 0, none⟩) vs.length c, .int .i64 (i : Nat), .slice (some ⟨nb, 0, none⟩) 1 1] w (InsPost base (.slice (some ⟨g, 0, none⟩) vs.length c) vs i v w) := by
  obtain ⟨hbg, hlc, hcm, cur, hcur, hcs, hcell⟩ := row_cells h
  have hgw := lt_of_block hcur
  have hnw := lt_of_block hn
  obtain ⟨i0, hi0, hz0, hzs, hzb⟩ := info_parts info26
  have hc63 : c ≤ 9223372036854775807 := by simpa [maxLen] using hcm
  have hkk : (vs.length : Int) + 1 - (i : Int) = ((vs.length + 1 - i : Nat) : Int) := by omega
  have hik : i + (vs.length + 1 - i) = vs.length + 1 := by omega
  have hold : (Builtin.firstCells i0.size i (.slice (some ⟨g, 0, none⟩) i c)).run Try.prog w.drew = .ok (vs.take i).toArray w.drew := by
    rw [hzs]
    exact run_firstCells_some w.drew 1 i ⟨g, 0, none⟩ i c (vs.take i) (by rw [List.length_take]; omega) (fun j u hj => by
      rw [addr_add]
      rw [List.getElem?_take] at hj
      split at hj
      · exact hcell j u hj
      · cases hj)
  have hrz : ∀ ty, (Builtin.append_ #[39, 3] ty #[.slice (some ⟨g, 0, none⟩) i c, .int .i64 ((vs.length : Int) + 1 - (i : Int))]).run Try.prog w =
      .ok (.slice (some ⟨w.heap.size, 0, none⟩) (vs.length + 1) (grownCap w (vs.length + 1) c 26)) (w.drew.alloc (.cells ((vs.take i).toArray ++ Builtin.zeroCells (Value.slice none 0 0).cells (vs.length + 1 - i) ++ Builtin.zeroCells (Value.slice none 0 0).cells (grownCap w (vs.length + 1) c 26 - (vs.length + 1))) 26)) := fun ty => by
    have h := Lib.run_append_grow_zeros w 39 3 ty 26 i0 _ .i64 .i64 Try.underlying39 Try.underlying3 hi0 hz0 (some ⟨g, 0, none⟩) i c (vs.take i) hold (vs.length + 1 - i) (by omega) (by omega) (by omega) (by omega) (by rw [hzb]; omega) (by rw [hzb, hik]; exact growslice_fits hroom (by omega))
    rw [hik] at h
    rw [hkk]
    exact h
  obtain ⟨G, hG⟩ : ∃ G, G = grownCap w (vs.length + 1) c 26 := ⟨_, rfl⟩
  obtain ⟨ROW, hROW⟩ : ∃ ROW : Array Value, ROW = (vs.take i).toArray ++ Builtin.zeroCells (Value.slice none 0 0).cells (vs.length + 1 - i) ++ Builtin.zeroCells (Value.slice none 0 0).cells (G - (vs.length + 1)) := ⟨_, rfl⟩
  rw [← hG] at hrz
  rw [← hROW] at hrz
  have hGn : vs.length + 1 ≤ G := by rw [hG]; exact grownCap_ge w _ _ _
  have hGm : G ≤ maxLen := by rw [hG]; exact grownCap_le_maxLen w (vs.length + 1) c 26 (by unfold maxLen; omega)
  have hG63 : G ≤ 9223372036854775807 := by simpa [maxLen] using hGm
  have hRl : ROW.size = G := by
    rw [hROW, Array.size_append, Array.size_append, zeros_size, zeros_size]
    simp only [List.size_toArray, List.length_take]
    omega
  have hR0 : ∀ j, j < i → ROW[j]? = vs[j]? := fun j hj => by
    have hlt : (vs.take i).length = i := by simp; omega
    rw [hROW, Array.getElem?_append_left (by rw [Array.size_append, zeros_size]; simp only [List.size_toArray]; omega), Array.getElem?_append_left (by simp only [List.size_toArray]; omega), List.getElem?_toArray, List.getElem?_take, if_pos hj]
  obtain ⟨W1, hW1⟩ : ∃ W1, W1 = w.drew.alloc (.cells ROW 26) := ⟨_, rfl⟩
  rw [← hW1] at hrz
  have hb1 : W1.heap[w.heap.size]? = some (.cells ROW 26 (0, 0)) := by rw [hW1]; exact heap_alloc_this w.drew _
  have hOld : ∀ k, k < w.heap.size → W1.heap[k]? = w.heap[k]? := fun k hk => by rw [hW1]; exact Below.heap_alloc w.drew _ k hk
  have hcpA : ∀ (W : World), (∀ k, W.heap[k]? = W1.heap[k]?) → ∀ ty dc, (Builtin.copy_ #[39, 39] ty #[.slice (some ⟨w.heap.size, i, none⟩) (vs.length + 1 - i) dc, .slice (some ⟨nb, 0, none⟩) 1 1]).run Try.prog W = .ok (goInt [v].length) (W.setCells w.heap.size i [v]) := fun W hW ty dc =>
    run_copy_cells W _ _ ty 26 w.heap.size i (vs.length + 1 - i) dc ⟨nb, 0, none⟩ 1 1 [v] Try.underlying39 size22 (by simp only [List.length_singleton, Nat.min_def]; split <;> omega)
      (fun j u hj => by
        have hj0 : j = 0 := by have := (List.getElem?_eq_some_iff.1 hj).1; simpa using this
        subst hj0
        have hu : v = u := by simpa using hj
        subst hu
        rw [addr_add, cell_of_block ((hW nb).trans ((hOld nb hnw).trans hn))]; rfl)
      (fun j hj => by rw [cell_of_block ((hW _).trans hb1), Array.getElem?_eq_getElem (by simp at hj; omega)]; rfl) (fun j hj => free_of_block ((hW _).trans hb1)) (by simpa using hv)
  have hdl : (vs.drop i).length = vs.length - i := by simp
  obtain ⟨cur2, hcur2, hcs2⟩ := kept_row (b := w.heap.size) (c := G) (t := 26) [v] i W1 ⟨ROW, hb1, hRl⟩
  have hfar : ∀ k, k ≠ w.heap.size → (W1.setCells w.heap.size i [v]).heap[k]? = W1.heap[k]? := fun k hk => setCells_far hk _ _ _
  have hcpB : ∀ (W : World), (∀ k, W.heap[k]? = (W1.setCells w.heap.size i [v]).heap[k]?) → ∀ ty dc sc, (Builtin.copy_ #[39, 39] ty #[.slice (some ⟨w.heap.size, i + 1, none⟩) (vs.length - i) dc, .slice (some ⟨g, i, none⟩) (vs.length - i) sc]).run Try.prog W = .ok (goInt (vs.drop i).length) (W.setCells w.heap.size (i + 1) (vs.drop i)) := fun W hW ty dc sc =>
    run_copy_cells W _ _ ty 26 w.heap.size (i + 1) (vs.length - i) dc ⟨g, i, none⟩ (vs.length - i) sc (vs.drop i) Try.underlying39 size22 (by rw [hdl]; simp only [Nat.min_def]; split <;> omega)
      (fun j u hj => by
        have hcg : W.heap[g]? = some (.cells cur 26 (0, 0)) := (hW g).trans ((hfar g (by omega)).trans ((hOld g hgw).trans hcur))
        rw [addr_add, cell_of_block hcg]
        have := hcell (i + j) u (by rwa [List.getElem?_drop] at hj)
        rwa [Nat.zero_add, cell_of_block hcur] at this)
      (fun j hj => by rw [cell_of_block ((hW _).trans hcur2), Array.getElem?_eq_getElem (by rw [hdl] at hj; omega)]; rfl) (fun j hj => free_of_block ((hW _).trans hcur2)) (fun u hu => hvs1 u (List.mem_of_mem_drop hu))
  have hfin : Hid (∀ W : World, (∀ k, W.heap[k]? = (W1.setCells w.heap.size i [v]).heap[k]?) → W.heap.size = w.heap.size + 1 → W.os = w.os → W.tape = w.tape → W.output = w.output → InsPost base (.slice (some ⟨g, 0, none⟩) vs.length c) vs i v w (.returned (.slice (some ⟨w.heap.size, 0, none⟩) (vs.length + 1) G)) (W.setCells w.heap.size (i + 1) (vs.drop i))) := Lib.hid (fun W hW hWs ho ht hu => by
    refine ⟨_, rfl, ?_, ⟨?_, ?_, ?_, ?_, ?_⟩, fun k hk => .inr (by simp [Value.ownBlock] at hk; omega)⟩
    · have hl := insL_len vs i v
      rw [← hl]
      refine row_of_cells (kept_row _ _ _ ⟨cur2, (hW _).trans hcur2, hcs2⟩) (fun j u hj => ?_) (by omega) hGm hb
      rw [insL_get v (by omega) j] at hj
      have hcW : ∀ a, W.cell? ⟨w.heap.size, a, none⟩ = (W1.setCells w.heap.size i [v]).cell? ⟨w.heap.size, a, none⟩ := fun a => World.cell?_of_block (hW _)
      have hsome : ∀ j, j < [v].length → (W1.cell? ⟨w.heap.size, i + j, none⟩).isSome = true := fun j hj => by
        rw [cell_of_block hb1, Array.getElem?_eq_getElem (by simp at hj; omega)]; rfl
      by_cases h1 : j < i
      · rw [if_pos h1] at hj
        rw [World.cell?_setCells_out _ _ _ _ _ (fun _ _ => .inl (by simp only; omega)), hcW, World.cell?_setCells_out _ _ _ _ _ (fun _ _ => .inl h1), cell_of_block hb1, hR0 j h1]
        exact hj
      · rw [if_neg h1] at hj
        by_cases h2 : j = i
        · rw [if_pos h2] at hj
          rw [h2, World.cell?_setCells_out _ _ _ _ _ (fun _ _ => .inl (by simp only; omega)), hcW]
          have := World.cell?_setCells_in w.heap.size [v] i W1 hsome 0 (by simp)
          rw [Nat.add_zero] at this
          rw [this]
          simpa using hj
        · rw [if_neg h2] at hj
          have hjl : j - 1 < vs.length := (List.getElem?_eq_some_iff.1 hj).1
          have := World.cell?_setCells_in w.heap.size (vs.drop i) (i + 1) W (fun t ht => by
            rw [cell_of_block ((hW _).trans hcur2), Array.getElem?_eq_getElem (by rw [hdl] at ht; omega)]; rfl) (j - (i + 1)) (by rw [hdl]; omega)
          rw [show i + 1 + (j - (i + 1)) = j by omega] at this
          rw [this, List.getElem_drop]
          rw [List.getElem?_eq_getElem hjl] at hj
          rw [← hj]
          congr 2
          omega
    · exact (setCells_os _ _ _ _).trans ho
    · exact (setCells_tape _ _ _ _).trans ht
    · exact (setCells_out _ _ _ _).trans hu
    · rw [setCells_size, hWs]; omega
    · intro k hk _
      rw [setCells_far (by omega), hW k, hfar k (by omega)]
      exact hOld k hk)
  have hs1 : W1.heap.size = w.heap.size + 1 := by rw [hW1]; exact World.size_alloc w.drew _
  have ho1 : W1.os = w.os := by rw [hW1]; rfl
  have ht1 : W1.tape = w.tape := by rw [hW1]; rfl
  have hu1 : W1.output = w.output := by rw [hW1]; rfl
  have HF := Lib.hid (hfin.out ((W1.setCells w.heap.size i [v]).drew) (fun _ => rfl) (by show (W1.setCells w.heap.size i [v]).heap.size = _; rw [setCells_size, hs1]) ((setCells_os _ _ _ _).trans ho1) ((setCells_tape _ _ _ _).trans ht1) ((setCells_out _ _ _ _).trans hu1))
  have hcpB' := fun ty dc sc => hcpB ((W1.setCells w.heap.size i [v]).drew) (fun _ => rfl) ty dc sc
  have hcpA' := fun ty dc => hcpA W1 (fun _ => rfl) ty dc
  have hz2 : ¬ ((i : Int) = (vs.length : Int)) := by omega
  have hz2b : ((i : Int) == (vs.length : Int)) = false := by simp; omega
  have hz3 : (c : Int) < (vs.length : Int) + 1 := by omega
  have hGi : ¬ (G = i) := by omega
  have hGim : ¬ (G = i + 1) := by omega
  have hci : ¬ (c = i) := by omega
  have hw1 : IntKind.i64.wrap ((i : Int) + 1) = (i : Int) + 1 := by rw [IntKind.wrap_i64]; omega
  have hb2 : (0 : Int) ≤ (i : Int) + 1 := by omega
  have htn : ((i : Int) + 1).toNat = i + 1 := by omega
  have hb3 : (i : Int) ≤ (vs.length : Int) := by omega
  have hb4 : (i : Int) ≤ (vs.length : Int) + 1 := by omega
  have hb5 : (i : Int) + 1 ≤ (vs.length : Int) + 1 := by omega
  have hb6 : (i : Int) ≤ c := by omega
  clear hkk hik hold hROW hG hRl hR0 hW1 hb1 hOld hcpA hcpB hdl hcur2 hcs2 hfar hfin hs1 ho1 ht1 hu1 hcur hcs hcell h hn hvs1
  go_enter Try.func80, Try.ntmps80
  go_wp2_with (first
    | (at_builtin; refine Lib.wpList_append_run _ rfl _ _ _ _ rfl _ _ rfl rfl _ _ (hrz _) ?_)
    | (at_builtin; refine Go.Proofs.wpList_copy_runI _ rfl _ _ 39 39 rfl _ _ rfl rfl (hcpA' _ _) ?_))
  go_region_law (refine Go.Proofs.step_copy_runI rfl _ _ 39 39 rfl _ _ (by simp [Act.eval, Act.put]) (by simp [Act.eval, Act.put]) (hcpB' _ _ _) ?_)
  go_wp2
  go_ret
  exact HF.out
theorem insert_any {base nb i : Nat} {lv v : Value} {vs : List Value} {w : World} (h : Row w base lv vs) (hb : base ≤ w.heap.size) (hn : w.heap[nb]? = some (.cells #[v] 26 (0, 0))) (hne : lv.ownBlock ≠ some nb) (hv : v.oneCell' = true) (hvs1 : ∀ u ∈ vs, u.oneCell' = true)
    (hi : i ≤ vs.length) (hlen : vs.length ≤ 100000) : Calls Try.prog 80 #[lv, .int .i64 (i : Nat), .slice (some ⟨nb, 0, none⟩) 1 1] w (InsPost base lv vs i v w) := by
  by_cases he : i = vs.length
  · subst he
    exact insert_end h hb hn hv hlen
  · have h2 : i < vs.length := by omega
    obtain ⟨g, c, rfl⟩ : ∃ g c, lv = .slice (some ⟨g, 0, none⟩) vs.length c := by
      rcases h.2 with ⟨_, h0⟩ | ⟨g, cap, cur, rfl, _⟩
      · omega
      · exact ⟨_, _, rfl⟩
    by_cases hr : vs.length + 1 ≤ c
    · exact insert_shift h hn (fun e => hne (by rw [e]; rfl)) hv hvs1 h2 hr
    · exact insert_grow h hb hn hv hvs1 h2 (by omega) hlen
end Go.Proofs.Ytmiiolgbjicocaa
namespace Go.Proofs.Ytmiiolgbjicocaa
open Go.RowKit
/-- The values vs are the words L, each in a block of numbers (or nil). -/
def WordsAt (w : World) (vs : List Value) (L : List (List Int)) : Prop := vs.length = L.length ∧ ∀ i (h : i < vs.length) (h2 : i < L.length), Own w 0 vs[i] L[i]
/-- A set: a block with one list. -/
structure SetAt (sb : Nat) (lv : Value) (vs : List Value) (L : List (List Int)) (w : World) : Prop where
  blk : w.heap[sb]? = some (.cells #[lv] 108 (0, 0))
  row : Row w 0 lv vs
  words : WordsAt w vs L
theorem WordsAt.keep {w w' : World} {vs : List Value} {L : List (List Int)} (h : WordsAt w vs L) (hk : ∀ (k : Nat) (cs : Array Value), w.heap[k]? = some (Obj.cells cs 3 (0, 0)) → w'.heap[k]? = w.heap[k]?) : WordsAt w' vs L := by
  refine ⟨h.1, fun i h1 h2 => (h.2 i h1 h2).kept (fun k hkk => ?_)⟩
  obtain ⟨h3, h4⟩ := h.2 i h1 h2
  rcases h4 with ⟨h4, _⟩ | ⟨g, cap, cur, h4, _, hh, _⟩
  · rw [h4] at hkk; simp [Value.ownBlock] at hkk
  · rw [h4] at hkk
    have : g = k := by simpa [Value.ownBlock] using hkk
    subst this
    exact hk g cur hh
theorem Row.keep {w w' : World} {base : Nat} {lv : Value} {vs : List Value} (h : Row w base lv vs) (hk : ∀ k, lv.ownBlock = some k → w'.heap[k]? = w.heap[k]?) : Row w' base lv vs := by
  obtain ⟨h1, h2⟩ := h
  refine ⟨h1, ?_⟩
  rcases h2 with h2 | ⟨g, cap, cur, rfl, hg, hh, r⟩
  · exact .inl h2
  · exact .inr ⟨g, cap, cur, rfl, hg, by rw [hk g rfl]; exact hh, r⟩
theorem SetAt.grow {sb : Nat} {lv : Value} {vs : List Value} {L : List (List Int)} {w w' : World} (h : SetAt sb lv vs L w) (hb : Below w.heap.size w w') : SetAt sb lv vs L w' :=
  ⟨(hb.block _ (lt_of_block h.blk)).trans h.blk, h.row.keep (fun _ hk => hb.block _ (row_ge h.row hk).1), h.words.keep (fun _ _ hk => hb.block _ (lt_of_block hk))⟩
theorem SetAt.len {sb : Nat} {lv : Value} {vs : List Value} {L : List (List Int)} {w : World} (h : SetAt sb lv vs L w) : ∃ a c, lv = .slice a L.length c ∧ L.length ≤ c ∧ (a = none → c = 0) := by
  have hl := h.words.1
  rcases h.row.2 with ⟨rfl, h0⟩ | ⟨g, cap, cur, rfl, _, _, h2, _⟩
  · exact ⟨none, 0, by rw [← hl, h0], by omega, fun _ => rfl⟩
  · exact ⟨_, _, by rw [← hl], by omega, fun h => by cases h⟩
/-- The word at a place, as the walk asks for it. -/
theorem SetAt.at {sb : Nat} {lv : Value} {vs : List Value} {L : List (List Int)} {w : World} (h : SetAt sb lv vs L w) {i : Nat} (hi : i < L.length) :
    ∃ g c a d, lv = .slice (some ⟨g, 0, none⟩) L.length c ∧ w.cell? ⟨g, i, none⟩ = some (.slice a L[i].length d) ∧ Ints w w.heap.size a L[i] ∧ (a = none → d = 0) ∧ L[i].length ≤ d := by
  have hl := h.words.1
  have hiv : i < vs.length := by omega
  obtain ⟨g, c, hlv⟩ : ∃ g c, lv = .slice (some ⟨g, 0, none⟩) vs.length c := by
    rcases h.row.2 with ⟨_, h0⟩ | ⟨g, cap, cur, h1, _⟩
    · omega
    · exact ⟨_, _, h1⟩
  have hrow := h.row
  rw [hlv] at hrow
  obtain ⟨_, _, _, cur, _, _, hcell⟩ := row_cells hrow
  obtain ⟨a, d, hv, hn, hin, _, hle⟩ := (h.words.2 i hiv hi).shape
  have := hcell i _ (List.getElem?_eq_getElem hiv)
  rw [hv, Nat.zero_add] at this
  exact ⟨g, c, a, d, by rw [hlv, hl], this, hin, fun h => (hn h).1, hle⟩
set_option maxHeartbeats 1000000 in
theorem closure_any {sb ba bs : Nat} {lv : Value} {vs : List Value} {L : List (List Int)} {a : Option Addr} {c : Nat} {xs : List Int} {w : World} (hs : SetAt sb lv vs L w) (h1 : w.heap[ba]? = some (.cells #[.slice a xs.length c] 26 (0, 0))) (h2 : w.heap[bs]? = some (.cells #[.pointer (some ⟨sb, 0, none⟩)] 81 (0, 0)))
    (hx : Ints w w.heap.size a xs) (hxl : xs.length ≤ 100000) (hL : ∀ y ∈ L, y.length ≤ 100000) {i : Nat} (hi : i < L.length) :
    Calls Try.prog 90 #[.int .i64 (i : Nat), .pointer (some ⟨ba, 0, none⟩), .pointer (some ⟨bs, 0, none⟩)] w fun e w' => e = .returned (.int .i64 (cmpL xs L[i])) ∧ ∃ n, w' = w.drewN n := by
  obtain ⟨g, cl, ai, d, rfl, hci, hin, hdn, hdl⟩ := hs.at hi
  have HC := fun n => Lib.hid (compare_any (ca := c) (cb := d) (w := w.drewN n) (B := w.heap.size) (a := a) (b := ai) (xs := xs) (ys := L[i]) hx hin (by omega) (by have := hL _ (List.getElem_mem hi); omega))
  have g1 : w.cell? ⟨ba, 0, none⟩ = some (.slice a xs.length c) := cell_of_block h1
  have g2 : w.cell? ⟨bs, 0, none⟩ = some (.pointer (some ⟨sb, 0, none⟩)) := cell_of_block h2
  have g3 : w.cell? ⟨sb, 0, none⟩ = some (.slice (some ⟨g, 0, none⟩) L.length cl) := cell_of_block hs.blk
  have hi0 : (0 : Int) ≤ i := by omega
  have hi1 : (i : Int) < L.length := by omega
  clear hs h1 h2 hx hin
  generalize L[i] = y at *
  go_enter Try.func90, Try.ntmps90
  go_wp2
  go_quiet (first | (go_at_call 69; exact Calls.quiet_of_same ((HC _).out.mono (fun _ _ h => ⟨h.1, h.2.symm⟩))))
  go_wp2
  go_ret
  exact ⟨rfl, _, rfl⟩
/-- Where a word is, or would be. -/
def PlaceOK (L : List (List Int)) (xs : List Int) (p : Nat) : Prop := p ≤ L.length ∧ (∀ q, p = q + 1 → ∃ y, L[q]? = some y ∧ 0 < cmpL xs y) ∧ (∀ y, L[p]? = some y → cmpL xs y ≤ 0)
def FindPost (L : List (List Int)) (xs : List Int) (w : World) (e : Ending) (w' : World) : Prop :=
  ∃ p, PlaceOK L xs p ∧ e = .returned (.tuple #[.int .i64 (p : Nat), .bool (decide (L[p]? = some xs))]) ∧ ∃ n, w' = w.drewN n
theorem cmpL_zero {xs ys : List Int} : cmpL xs ys = 0 ↔ ys = xs := by
  unfold cmpL
  split
  · rename_i h
    constructor
    · intro h2; simp at h2
    · intro h2; subst h2
      have := lessL_same ys ys
      simp at this
      rw [this] at h; simp at h
  · split
    · rename_i h; exact ⟨fun _ => h.symm, fun _ => rfl⟩
    · rename_i h; exact ⟨fun h2 => by simp at h2, fun h2 => (h h2.symm).elim⟩
set_option maxHeartbeats 1000000 in
theorem find_any {sb ba bs : Nat} {lv : Value} {vs : List Value} {L : List (List Int)} {a : Option Addr} {c : Nat} {xs : List Int} {w : World} (hs : SetAt sb lv vs L w) (h1 : w.heap[ba]? = some (.cells #[.slice a xs.length c] 26 (0, 0))) (h2 : w.heap[bs]? = some (.cells #[.pointer (some ⟨sb, 0, none⟩)] 81 (0, 0)))
    (hx : Ints w w.heap.size a xs) (hxl : xs.length ≤ 100000) (hL : ∀ y ∈ L, y.length ≤ 100000) (hn : L.length ≤ 100000) :
    Calls Try.prog 67 #[.int .i64 (L.length : Nat), .func (.func 90) #[] #[.pointer (some ⟨ba, 0, none⟩), .pointer (some ⟨bs, 0, none⟩)]] w (FindPost L xs w) := by
  have HC : Hid (∀ (n i : Nat) (hi : i < L.length), Calls Try.prog 90 #[.int .i64 (i : Nat), .pointer (some ⟨ba, 0, none⟩), .pointer (some ⟨bs, 0, none⟩)] (w.drewN n) fun e w' => e = .returned (.int .i64 (cmpL xs L[i])) ∧ ∃ m, w' = (w.drewN n).drewN m) := Lib.hid (fun n i hi =>
    closure_any (w := w.drewN n) (hs.grow ⟨rfl, rfl, rfl, Nat.le_refl _, fun _ _ => rfl⟩) h1 h2 hx hxl hL hi)
  clear hs h1 h2 hx hL
  go_enter Try.func67, Try.ntmps67
  go_wp2
  go_loopw [4, 6] (fun i j wr => ∃ p q : Nat, p ≤ q ∧ q ≤ L.length ∧ i = .int .i64 p ∧ j = .int .i64 q ∧ Hid ((∀ t, p = t + 1 → ∃ y, L[t]? = some y ∧ 0 < cmpL xs y) ∧ (∀ y, L[q]? = some y → cmpL xs y ≤ 0)) ∧ ∃ n, wr = w.drewN n) (fun i j _ => (intOf j).toNat - (intOf i).toNat)
  case atStart => exact ⟨0, L.length, by omega, by omega, rfl, rfl, Lib.hid ⟨fun t h => by omega, fun y h => by simp at h⟩, 0, rfl⟩
  case round =>
    obtain ⟨p, q, hpq, hq, rfl, rfl, hf, n, rfl⟩ := hrel
    by_cases hlt : p < q
    · have hki : (p : Int) < q := by omega
      obtain ⟨m, hm⟩ : ∃ m, m = (p + q) / 2 := ⟨_, rfl⟩
      have hml : m < L.length := by omega
      have hmi : ((p : Int) + (q : Int)) / 2 = (m : Int) := by omega
      have hmp : p ≤ m := by omega
      have hmq : m < q := by omega
      have HCm := Lib.hid (HC.out n m hml)
      clear hm
      go_wp2_with fail
      refine HCm.out.mono ?_
      rintro e w1 ⟨rfl, n1, rfl⟩
      have HY := Lib.hid (List.getElem?_eq_getElem hml)
      clear hmi HCm
      generalize L[m] = y at *
      by_cases hg : 0 < cmpL xs y
      · have HG := Lib.hid hg
        go_wp2
        go_roundw
        case rel => exact ⟨m + 1, q, by omega, hq, by go_num, rfl, Lib.hid ⟨fun t ht => ⟨y, by rw [show t = m by omega]; exact HY.out, HG.out⟩, hf.out.2⟩, _, rfl⟩
        case measure => simp [intOf]; omega
      · have HG := Lib.hid (Int.not_lt.1 hg)
        go_wp2
        go_roundw
        case rel => exact ⟨p, m, by omega, by omega, rfl, rfl, Lib.hid ⟨hf.out.1, fun y' hy => by rw [HY.out] at hy; injection hy with hy; rw [← hy]; exact HG.out⟩, _, rfl⟩
        case measure => simp [intOf]; omega
    · have hpq2 : q = p := by omega
      subst hpq2
      have hki : ¬ ((q : Int) < (q : Int)) := by omega
      by_cases hl : q < L.length
      · have hli : (q : Int) < L.length := by omega
        have HCm := Lib.hid (HC.out n q hl)
        go_wp2_with fail
        refine HCm.out.mono ?_
        rintro e w1 ⟨rfl, n1, rfl⟩
        have HD : Hid ((cmpL xs L[q] == 0) = decide (L[q]? = some xs)) := Lib.hid (by
          rw [List.getElem?_eq_getElem hl, Bool.eq_iff_iff]
          simp [cmpL_zero])
        clear HCm
        generalize cmpL xs L[q] = cv at *
        go_wp2
        go_ret2
        exact ⟨q, ⟨hq, hf.out.1, hf.out.2⟩, by rw [← HD.out]; rfl, _, rfl⟩
      · have hli : ¬ (q : Int) < L.length := by omega
        have HD : Hid (decide (L[q]? = some xs) = false) := Lib.hid (by rw [List.getElem?_eq_none (by omega)]; rfl)
        go_wp2
        go_ret2
        exact ⟨q, ⟨hq, hf.out.1, hf.out.2⟩, by rw [HD.out]; rfl, n, rfl⟩
end Go.Proofs.Ytmiiolgbjicocaa
