/- All words of a set, each copied; whether two lists of words are alike. -/
import Derived.Test.YtoiinikbbkmjoaaTimes
import Derived.OwnWalk
namespace Go.Proofs.Ytoiinikbbkmjoaa
open Go.RowKit
/-- The values vs are the words L, each in a block of its own from base on. -/
def WordsB (w : World) (base : Nat) (vs : List Value) (L : List (List Int)) : Prop := vs.length = L.length ∧ ∀ i (h : i < vs.length) (h2 : i < L.length), Own w base vs[i] L[i]
theorem WordsB.keep {w w' : World} {base : Nat} {vs : List Value} {L : List (List Int)} (h : WordsB w base vs L) (hk : ∀ (k : Nat) (cs : Array Value), w.heap[k]? = some (Obj.cells cs 3 (0, 0)) → w'.heap[k]? = w.heap[k]?) : WordsB w' base vs L := by
  refine ⟨h.1, fun i h1 h2 => (h.2 i h1 h2).kept (fun k hkk => ?_)⟩
  obtain ⟨h3, h4⟩ := h.2 i h1 h2
  rcases h4 with ⟨h4, _⟩ | ⟨g, cap, cur, h4, _, hh, _⟩
  · rw [h4] at hkk; simp [Value.ownBlock] at hkk
  · rw [h4] at hkk
    have : g = k := by simpa [Value.ownBlock] using hkk
    subst this
    exact hk g cur hh
/-- A list of words that a call has made: its row and its words lie from base on. -/
def Made (base : Nat) (v : Value) (L : List (List Int)) (w : World) : Prop := ∃ vs, Row w base v vs ∧ WordsB w base vs L
theorem Made.go {base : Nat} {v : Value} {L : List (List Int)} {w w' : World} (h : Made base v L w) (k : Grow w w') : Made base v L w' := by
  obtain ⟨vs, h1, h2⟩ := h
  exact ⟨vs, h1.keep (fun _ hk => k.block _ (row_ge h1 hk).1), h2.keep (fun _ _ hk => k.block _ (lt_of_block hk))⟩
theorem Made.lsts {base : Nat} {v : Value} {L : List (List Int)} {w : World} (h : Made base v L w) : ∃ a c, v = .slice a L.length c ∧ Lsts w a L ∧ L.length ≤ c ∧ (a = none → c = 0) := by
  obtain ⟨vs, h1, h2⟩ := h
  rcases h1.2 with ⟨rfl, h0⟩ | ⟨g, cap, cur, rfl, hg, hh, hle, hm, hs, htk⟩
  · have hL : L = [] := List.eq_nil_of_length_eq_zero (by have := h2.1; omega)
    subst hL
    exact ⟨none, 0, rfl, fun i hi => by simp at hi, by simp, fun _ => rfl⟩
  · refine ⟨some ⟨g, 0, none⟩, cap, by rw [h2.1], fun i hi => ?_, by have := h2.1; omega, fun h => by cases h⟩
    have hiv : i < vs.length := by rw [h2.1]; exact hi
    obtain ⟨ai, ci, hv, hn, hin, _, hl⟩ := (h2.2 i hiv hi).shape
    refine ⟨g, 0, ai, ci, rfl, lt_of_block hh, ?_, hin, fun h => (hn h).1, hl⟩
    have h3 : (cur.toList.take (vs.length * 1))[i]? = vs[i]? := by rw [htk]
    rw [List.getElem?_take, if_pos (by omega), List.getElem?_eq_getElem hiv, hv] at h3
    rw [cell_of_block hh, Nat.zero_add]
    simpa using h3
theorem words_snoc {w : World} {base : Nat} {vs : List Value} {L : List (List Int)} {v : Value} {x : List Int} (h : WordsB w base vs L) (hv : Own w base v x) : WordsB w base (vs ++ [v]) (L ++ [x]) := by
  have hl := h.1
  refine ⟨by simp [hl], fun i h1 h2 => ?_⟩
  by_cases c : i < vs.length
  · rw [List.getElem_append_left c, List.getElem_append_left (by omega)]
    exact h.2 i c (by omega)
  · have hi : i = vs.length := by simp at h1; omega
    subst hi
    rw [List.getElem_append_right (by omega), List.getElem_append_right (by omega)]
    simp only [hl, Nat.sub_self, List.getElem_cons_zero]
    exact hv
theorem grown3 {w w' : World} {base : Nat} {lv : Value} {vs : List Value} (hrow : Row w base lv vs) (hg : w.grownBy w' lv.ownBlock) {k : Nat} {cs : Array Value} (hk : w.heap[k]? = some (Obj.cells cs 3 (0, 0))) : w'.heap[k]? = w.heap[k]? :=
  hg.block k (lt_of_block hk) (fun e => by
    obtain ⟨_, _, cs2, h2⟩ := row_ge hrow e.symm
    rw [hk] at h2
    injection h2 with h2
    injection h2 with _ h3
    exact absurd h3 (by decide))
theorem own_grown3 {w w' : World} {base b2 : Nat} {lv v : Value} {vs : List Value} {x : List Int} (hrow : Row w base lv vs) (hg : w.grownBy w' lv.ownBlock) (hv : Own w b2 v x) : Own w' b2 v x :=
  hv.kept (fun k hk => by
    rcases hv.2 with ⟨h1, _⟩ | ⟨g, cap, cur, h1, _, hh, _⟩
    · rw [h1] at hk; simp [Value.ownBlock] at hk
    · rw [h1] at hk
      have : g = k := by simpa [Value.ownBlock] using hk
      subst this
      exact grown3 hrow hg hh)
set_option maxHeartbeats 2000000 in
theorem all_any {bs sb : Nat} {A : List (List Int)} {w : World} (hs : SetB bs sb A w) (hA : ∀ y ∈ A, y.length ≤ 10000) (hn : A.length ≤ 10000) :
    Calls Try.prog 18 #[.pointer (some ⟨sb, 0, none⟩)] w fun e w' => ∃ v, e = .returned v ∧ Made w.heap.size v A w' ∧ Grow w w' := by
  obtain ⟨i0, hi0, hz0, hz1, hz2⟩ := info_parts info22
  obtain ⟨slv, svs, hs1, -⟩ := hs
  have HS1 := Lib.hid hs1
  obtain ⟨sla, slc, rfl, -, -⟩ := hs1.len
  have hsw := lt_of_block hs1.blk
  have gs : w.cell? ⟨sb, 0, none⟩ = some (.slice sla A.length slc) := cell_of_block hs1.blk
  clear hs1
  go_enter Try.func18, Try.ntmps18
  go_wp2_with (first
    | (at_make; (refine wpList_make_own _ rfl _ _ 29 rfl w.heap.size 22 i0 (.slice none 0 0) 1 Try.underlying29 hi0 hz0 hz1 .i64 .i64 _ A.length rfl rfl rfl (by rw [hz2]; omega) (by unfold maxLen; omega) (Nat.le_refl _) ?_); intro w0 hown0 hgrow0
       have hg0 : Grow w w0 := ⟨hgrow0.os, hgrow0.tape, hgrow0.output, hgrow0.size, fun k hk => hgrow0.block k hk (by simp)⟩
       have H0 := Lib.hid (And.intro hown0 hg0)
       have gs0 := (below_cell hg0 hsw).trans gs
       clear hown0 hgrow0 hg0))
  go_loopw [3, 17] (fun v i wr => ∃ p : Nat, p ≤ A.length ∧ i = .int .i64 p ∧ Hid (Made w.heap.size v (A.take p) wr ∧ Grow w wr)) (fun _ i _ => A.length - (intOf i).toNat)
  case atStart => exact ⟨0, by omega, rfl, ⟨[], H0.out.1, rfl, fun i h => by simp at h⟩, H0.out.2⟩
  case round =>
    obtain ⟨p, hp, rfl, hh⟩ := hrel
    clear gs0
    by_cases hlt : p < A.length
    · have hki : (p : Int) < A.length := by omega
      obtain ⟨g, c, ai, di, hlv, hc0, hin, hd, hld⟩ := HS1.out.at hlt
      injection hlv with e1 _ e3
      subst e1 e3
      have hc := (below_cell hh.out.2 (block_of_cell hc0)).trans hc0
      have HX := Lib.hid (show Lst w ai A[p] from hin)
      have hal := hA _ (List.getElem_mem hlt)
      have HT := Lib.hid (List.take_succ_eq_append_getElem hlt)
      obtain ⟨vs, hrow, hwd⟩ := hh.out.1
      have hvl : vs.length = p := by rw [hwd.1]; simp; omega
      have HM := Lib.hid (And.intro hrow hwd)
      clear hin hrow hwd hc0
      generalize A[p] = x at *
      go_wp2_with fail
      refine (clone_any (HX.out.go hh.out.2) hd (by omega)).mono ?_
      rintro e w2 ⟨v, rfl, hown, hb⟩
      obtain ⟨va, vc, rfl, -, -, -, -⟩ := hown.shape
      have hG : Grow _ (w2.alloc (.cells #[.slice va x.length vc] 22)) := Grow.trans hb ((Below.refl _ _).alloc (Nat.le_refl _) _)
      have HR := Lib.hid (HM.out.1.keep (fun _ hk => hG.block _ (row_ge HM.out.1 hk).1))
      have HW := Lib.hid (HM.out.2.keep (fun _ _ hk => hG.block _ (lt_of_block hk)))
      have HO := Lib.hid (own_mono (hown.alloc (.cells #[.slice va x.length vc] 22)) hh.out.2.size)
      have HG := Lib.hid (hh.out.2.trans hG)
      clear hown hb hG
      go_wp2_with (first
        | (at_builtin; (refine wpList_append_lies _ rfl (.tmp 21) (.tmp 24) 29 rfl w.heap.size 22 i0 _ 1 24 Try.underlying29 hi0 hz0 hz1 hz2 rfl (by omega) _ vs.length vs rfl HR.out ⟨w2.heap.size, 0, none⟩ 1 1 [.slice va x.length vc] rfl rfl (World.news_of_block (cs := #[.slice va x.length vc]) (t := 22) (fr := (0, 0)) (heap_alloc_new _ _)) (by simp [Value.oneCell']) (by omega) (by simp only [maxLen]; omega) (by omega) (by have := HG.out.size; simpa using this) (w2.heap.size + 1) (by simp) ?_); intro gg cap' w1 hown1 hgrow hat hlt2))
      go_roundw
      case rel =>
        refine ⟨p + 1, by omega, by go_num, ⟨vs ++ [.slice va x.length vc], ?_, ?_⟩, ?_⟩
        · show World.ownsRow _ _ _ _ _ _ _
          rw [List.length_append, hvl]
          have h := hown1
          rw [hvl] at h
          exact h
        · rw [HT.out]
          exact words_snoc (HW.out.keep (fun _ _ hk => grown3 HR.out hgrow hk)) (own_grown3 HR.out hgrow HO.out)
        · refine Below.trans HG.out ⟨hgrow.os, hgrow.tape, hgrow.output, hgrow.size, fun k hk => hgrow.block k (by have := HG.out.size; omega) (fun e => by have := (row_ge HR.out e.symm).2.1; omega)⟩
      case measure => simp [intOf]; omega
    · have hki : ¬ (p : Int) < A.length := by omega
      have e : A.take p = A := List.take_of_length_le (by omega)
      rw [e] at hh
      go_wp2
      go_ret
      exact ⟨_, rfl, hh.out.1, hh.out.2⟩
end Go.Proofs.Ytoiinikbbkmjoaa
