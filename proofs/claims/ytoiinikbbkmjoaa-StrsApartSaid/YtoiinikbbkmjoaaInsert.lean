/- slices.Insert of one word into a list of words of the call's own. -/
import Derived.Test.YtoiinikbbkmjoaaJoins
import Derived.Deep.AppendLies
import Derived.Deep.RegionLaw
import Derived.Shelf.Spec.SlicesInsert
import Derived.Lib.AppendZerosOnto
import Derived.Laws.NewBlocks
namespace Go.Proofs.Ytoiinikbbkmjoaa
open Go.RowKit
theorem info22 : (Try.prog.info? 22).map (fun i => (i.zero, i.size, i.bytes)) = some (some (.slice none 0 0), 1, 24) := by kernel_rfl
/-- A list of words of one's own: its values. -/
def Row (w : World) (base : Nat) (v : Value) (vs : List Value) : Prop := w.ownsRow base 22 1 v vs.length vs
theorem row_ge {w : World} {base : Nat} {v : Value} {vs : List Value} (h : Row w base v vs) {g : Nat} (hg : v.ownBlock = some g) : g < w.heap.size ∧ base ≤ g ∧ ∃ cs, w.heap[g]? = some (.cells cs 22 (0, 0)) := by
  obtain ⟨h1, h2⟩ := h
  rcases h2 with ⟨rfl, _⟩ | ⟨g', cap, cur, rfl, hg', hh, r⟩
  · simp [Value.ownBlock] at hg
  · simp [Value.ownBlock] at hg
    subst hg
    exact ⟨lt_of_block hh, hg', cur, hh⟩
theorem kept_row {b c : Nat} {t : TypeId} : ∀ (us : List Value) (o : Nat) (w : World), (∃ cur : Array Value, w.heap[b]? = some (.cells cur t (0, 0)) ∧ cur.size = c) → ∃ cur : Array Value, (w.setCells b o us).heap[b]? = some (.cells cur t (0, 0)) ∧ cur.size = c
  | [], _, _, h => h
  | u :: us, o, w, ⟨cur, h, hs⟩ => kept_row us (o + 1) _ ⟨_, heap_setCell_known h, by simpa using hs⟩
theorem setCells_far {b k : Nat} (hk : k ≠ b) : ∀ (us : List Value) (o : Nat) (w : World), (w.setCells b o us).heap[k]? = w.heap[k]?
  | [], _, _ => rfl
  | u :: us, o, w => (setCells_far hk us (o + 1) _).trans (Below.heap_setCell _ _ _ _ (by simpa using hk))
theorem setCells_size (b : Nat) : ∀ (us : List Value) (o : Nat) (w : World), (w.setCells b o us).heap.size = w.heap.size
  | [], _, _ => rfl
  | u :: us, o, w => (setCells_size b us (o + 1) _).trans (by simp [World.setCell])
theorem setCells_os (b : Nat) : ∀ (us : List Value) (o : Nat) (w : World), (w.setCells b o us).os = w.os
  | [], _, _ => rfl
  | _ :: us, o, _ => setCells_os b us (o + 1) _
theorem setCells_tape (b : Nat) : ∀ (us : List Value) (o : Nat) (w : World), (w.setCells b o us).tape = w.tape
  | [], _, _ => rfl
  | _ :: us, o, _ => setCells_tape b us (o + 1) _
theorem setCells_out (b : Nat) : ∀ (us : List Value) (o : Nat) (w : World), (w.setCells b o us).output = w.output
  | [], _, _ => rfl
  | _ :: us, o, _ => setCells_out b us (o + 1) _
theorem row_of_cells {w : World} {base g cap : Nat} {ys : List Value} (h : ∃ cur : Array Value, w.heap[g]? = some (.cells cur 22 (0, 0)) ∧ cur.size = cap)
    (hc : ∀ j u, ys[j]? = some u → w.cell? ⟨g, j, none⟩ = some u) (hl : ys.length ≤ cap) (hm : cap ≤ maxLen) (hb : base ≤ g) : Row w base (.slice (some ⟨g, 0, none⟩) ys.length cap) ys := by
  obtain ⟨cur, hh, hs⟩ := h
  refine ⟨by simp, .inr ⟨g, cap, cur, rfl, hb, hh, hl, hm, by omega, ?_⟩⟩
  refine List.ext_getElem (by simp; omega) (fun j h1 h2 => ?_)
  have := hc j _ (List.getElem?_eq_getElem h2)
  rw [cell_of_block hh] at this
  rw [List.getElem_take, Array.getElem_toList]
  rw [Array.getElem?_eq_getElem (by omega)] at this
  exact Option.some.inj this
def insL (vs : List Value) (i : Nat) (v : Value) : List Value := vs.take i ++ [v] ++ vs.drop i
theorem insL_len (vs : List Value) (i : Nat) (v : Value) : (insL vs i v).length = vs.length + 1 := by unfold insL; simp; omega
theorem insL_get {vs : List Value} {i : Nat} (v : Value) (hi : i ≤ vs.length) (j : Nat) : (insL vs i v)[j]? = if j < i then vs[j]? else if j = i then some v else vs[j - 1]? := by
  unfold insL
  have hl : (vs.take i).length = i := by simp; omega
  rw [List.append_assoc]
  by_cases h1 : j < i
  · rw [if_pos h1, List.getElem?_append_left (by omega), List.getElem?_take, if_pos h1]
  · rw [if_neg h1, List.getElem?_append_right (by omega), hl]
    by_cases h2 : j = i
    · rw [if_pos h2, h2, Nat.sub_self]; rfl
    · rw [if_neg h2]
      obtain ⟨k, hk⟩ : ∃ k, j - i = k + 1 := ⟨j - i - 1, by omega⟩
      rw [hk]
      show ([v] ++ vs.drop i)[k + 1]? = _
      rw [List.singleton_append, List.getElem?_cons_succ, List.getElem?_drop]
      congr 1
      omega
/-- What an insertion leaves. -/
def InsPost (base : Nat) (lv : Value) (vs : List Value) (i : Nat) (v : Value) (w : World) (e : Ending) (w' : World) : Prop :=
  ∃ lv', e = .returned lv' ∧ Row w' base lv' (insL vs i v) ∧ w.grownBy w' lv.ownBlock ∧ ∀ k, lv'.ownBlock = some k → lv.ownBlock = some k ∨ w.heap.size ≤ k
theorem row_cells {w : World} {base g cap : Nat} {vs : List Value} (h : Row w base (.slice (some ⟨g, 0, none⟩) vs.length cap) vs) : base ≤ g ∧ vs.length ≤ cap ∧ cap ≤ maxLen ∧ ∃ cur : Array Value, w.heap[g]? = some (.cells cur 22 (0, 0)) ∧ cur.size = cap ∧ ∀ j u, vs[j]? = some u → w.cell? ⟨g, 0 + j, none⟩ = some u := by
  obtain ⟨h1, h2⟩ := h
  rcases h2 with ⟨h2, _⟩ | ⟨g', cap', cur, hv, hg, hh, hn, hc, hs, htk⟩
  · cases h2
  · injection hv with e1 e2 e3
    injection e1 with e1
    injection e1 with e1
    subst e1 e3
    refine ⟨hg, hn, hc, cur, hh, by omega, fun j u hj => ?_⟩
    rw [cell_of_block hh, Nat.zero_add]
    have hjl := (List.getElem?_eq_some_iff.1 hj).1
    rw [← htk, List.getElem?_take, if_pos (by omega)] at hj
    simpa using hj
set_option maxHeartbeats 4000000 in
set_option maxRecDepth 100000 in
theorem insert_end {base nb : Nat} {lv v : Value} {vs : List Value} {w : World} (h : Row w base lv vs) (hb : base ≤ w.heap.size) (hn : w.heap[nb]? = some (.cells #[v] 22 (0, 0))) (hv : v.oneCell' = true) (hlen : vs.length ≤ 100000) :
    Calls Try.prog 37 #[lv, .int .i64 (vs.length : Nat), .slice (some ⟨nb, 0, none⟩) 1 1] w (InsPost base lv vs vs.length v w) := by
  obtain ⟨i0, hi0, hz0, hz1, hz2⟩ := info_parts info22
  have HH := Lib.hid h
  have HN := Lib.hid hn
  have hsl : ∃ a c, lv = .slice a vs.length c := by
    rcases h.2 with ⟨rfl, h0⟩ | ⟨g, cap, cur, rfl, _⟩
    · exact ⟨none, 0, by rw [h0]⟩
    · exact ⟨_, _, rfl⟩
  obtain ⟨a, c, rfl⟩ := hsl
  have hlc : vs.length ≤ c := by
    rcases h.2 with ⟨h1, h0⟩ | ⟨g, cap, cur, h1, _, _, h2, _⟩
    · injection h1 with _ _ h3; omega
    · injection h1 with _ _ h3; omega
  clear h hn
  have hee : (((vs.length : Nat) : Int) == ((vs.length : Nat) : Int)) = true := by simp
  have hl0 : (0 : Int) ≤ (vs.length : Nat) := by omega
  by_cases hcc : c = vs.length
  · subst hcc
    go_enter Try.func37, Try.ntmps37
    go_wp2_with (first
      | (at_builtin; (refine wpList_append_lies _ rfl (.tmp 23) (.tmp 24) 29 rfl base 22 i0 _ 1 24 Try.underlying29 hi0 hz0 hz1 hz2 rfl (by omega) (.slice a vs.length vs.length) vs.length vs rfl HH.out ⟨nb, 0, none⟩ 1 1 [v] rfl rfl (World.news_of_block (cs := #[v]) (t := 22) (fr := (0, 0)) HN.out) (by simpa using hv) (by omega) (by simp only [maxLen]; omega) (by omega) hb w.heap.size rfl ?_); intro gg cap' w1 hown1 hgrow hat hlt))
    go_ret
    refine ⟨_, rfl, ?_, hgrow, ?_⟩
    · unfold Row insL
      rw [List.take_of_length_le (Nat.le_refl _), List.drop_of_length_le (Nat.le_refl _), List.append_nil, List.length_append]
      exact hown1
    · intro k hk
      have hk' : gg = k := by simpa [Value.ownBlock] using hk
      subst hk'
      rcases hat with h | h
      · exact .inl h
      · exact .inr (by omega)
  · have hcd : (c : Int) ≠ vs.length := by omega
    go_enter Try.func37, Try.ntmps37
    go_wp2_with (first
      | (at_builtin; (refine wpList_append_lies _ rfl (.tmp 23) (.tmp 24) 29 rfl base 22 i0 _ 1 24 Try.underlying29 hi0 hz0 hz1 hz2 rfl (by omega) (.slice a vs.length c) vs.length vs rfl HH.out ⟨nb, 0, none⟩ 1 1 [v] rfl rfl (World.news_of_block (cs := #[v]) (t := 22) (fr := (0, 0)) HN.out) (by simpa using hv) (by omega) (by simp only [maxLen]; omega) (by omega) hb w.heap.size rfl ?_); intro gg cap' w1 hown1 hgrow hat hlt))
    go_ret
    refine ⟨_, rfl, ?_, hgrow, ?_⟩
    · unfold Row insL
      rw [List.take_of_length_le (Nat.le_refl _), List.drop_of_length_le (Nat.le_refl _), List.append_nil, List.length_append]
      exact hown1
    · intro k hk
      have hk' : gg = k := by simpa [Value.ownBlock] using hk
      subst hk'
      rcases hat with h | h
      · exact .inl h
      · exact .inr (by omega)
end Go.Proofs.Ytoiinikbbkmjoaa
