/- All words of a set, one set into another -/
import Derived.Test.YtmiiolgbjicocaaS3
import Derived.OwnWalk
import Derived.Lib.SliceRun
namespace Go.Proofs.Ytmiiolgbjicocaa
open Go.RowKit
/-- The values vs are the words L, each in a block of its own from base on. -/
def WordsB (w : World) (base : Nat) (vs : List Value) (L : List (List Int)) : Prop := vs.length = L.length ∧ ∀ i (h : i < vs.length) (h2 : i < L.length), Own w base vs[i] L[i]
theorem WordsB.keep {w w' : World} {base : Nat} {vs : List Value} {L : List (List Int)} (h : WordsB w base vs L) (hk : ∀ (k : Nat) (cs : Array Value), w.heap[k]? = some (Obj.cells cs 3 (0, 0)) → w'.heap[k]? = w.heap[k]?) : WordsB w' base vs L := by
  refine ⟨h.1, fun i h1 h2 => (h.2 i h1 h2).kept (fun k hkk => ?_)⟩
  obtain ⟨h3, h4⟩ := h.2 i h1 h2
  rcases h4 with ⟨h4, _⟩ | ⟨g, cap, cur, h4, _, hh, _⟩
  · rw [h4] at hkk; simp [Value.ownBlock] at hkk
  · rw [h4] at hkk
    have : g = k := by simpa [Value.ownBlock] using hkk
    subst this
    exact hk g cur hh
/-- A list of words that a call has made: its row and its words lie from base on. -/
def Made (base : Nat) (v : Value) (L : List (List Int)) (w : World) : Prop := ∃ vs, Row w base v vs ∧ WordsB w base vs L
theorem Made.go {base : Nat} {v : Value} {L : List (List Int)} {w w' : World} (h : Made base v L w) (k : Grow w w') : Made base v L w' := by
  obtain ⟨vs, h1, h2⟩ := h
  exact ⟨vs, h1.keep (fun _ hk => k.block _ (row_ge h1 hk).1), h2.keep (fun _ _ hk => k.block _ (lt_of_block hk))⟩
theorem Made.lsts {base : Nat} {v : Value} {L : List (List Int)} {w : World} (h : Made base v L w) : ∃ a c, v = .slice a L.length c ∧ Lsts w a L ∧ L.length ≤ c ∧ (a = none → c = 0) := by
  obtain ⟨vs, h1, h2⟩ := h
  rcases h1.2 with ⟨rfl, h0⟩ | ⟨g, cap, cur, rfl, hg, hh, hle, hm, hs, htk⟩
  · have hL : L = [] := List.eq_nil_of_length_eq_zero (by have := h2.1; omega)
    subst hL
    exact ⟨none, 0, rfl, fun i hi => by simp at hi, by simp, fun _ => rfl⟩
  · refine ⟨some ⟨g, 0, none⟩, cap, by rw [h2.1], fun i hi => ?_, by have := h2.1; omega, fun h => by cases h⟩
    have hiv : i < vs.length := by rw [h2.1]; exact hi
    obtain ⟨ai, ci, hv, hn, hin, _, hl⟩ := (h2.2 i hiv hi).shape
    refine ⟨g, 0, ai, ci, rfl, lt_of_block hh, ?_, hin, fun h => (hn h).1, hl⟩
    have h3 : (cur.toList.take (vs.length * 1))[i]? = vs[i]? := by rw [htk]
    rw [List.getElem?_take, if_pos (by omega), List.getElem?_eq_getElem hiv, hv] at h3
    rw [cell_of_block hh, Nat.zero_add]
    simpa using h3
theorem words_snoc {w : World} {base : Nat} {vs : List Value} {L : List (List Int)} {v : Value} {x : List Int} (h : WordsB w base vs L) (hv : Own w base v x) : WordsB w base (vs ++ [v]) (L ++ [x]) := by
  have hl := h.1
  refine ⟨by simp [hl], fun i h1 h2 => ?_⟩
  by_cases c : i < vs.length
  · rw [List.getElem_append_left c, List.getElem_append_left (by omega)]
    exact h.2 i c (by omega)
  · have hi : i = vs.length := by simp at h1; omega
    subst hi
    rw [List.getElem_append_right (by omega), List.getElem_append_right (by omega)]
    simp only [hl, Nat.sub_self, List.getElem_cons_zero]
    exact hv
theorem grown3 {w w' : World} {base : Nat} {lv : Value} {vs : List Value} (hrow : Row w base lv vs) (hg : w.grownBy w' lv.ownBlock) {k : Nat} {cs : Array Value} (hk : w.heap[k]? = some (Obj.cells cs 3 (0, 0))) : w'.heap[k]? = w.heap[k]? :=
  hg.block k (lt_of_block hk) (fun e => by
    obtain ⟨_, _, cs2, h2⟩ := row_ge hrow e.symm
    rw [hk] at h2
    injection h2 with h2
    injection h2 with _ h3
    exact absurd h3 (by decide))
theorem own_grown3 {w w' : World} {base b2 : Nat} {lv v : Value} {vs : List Value} {x : List Int} (hrow : Row w base lv vs) (hg : w.grownBy w' lv.ownBlock) (hv : Own w b2 v x) : Own w' b2 v x :=
  hv.kept (fun k hk => by
    rcases hv.2 with ⟨h1, _⟩ | ⟨g, cap, cur, h1, _, hh, _⟩
    · rw [h1] at hk; simp [Value.ownBlock] at hk
    · rw [h1] at hk
      have : g = k := by simpa [Value.ownBlock] using hk
      subst this
      exact grown3 hrow hg hh)
set_option maxHeartbeats 2000000 in
theorem all_any {bs sb : Nat} {A : List (List Int)} {w : World} (hs : SetB bs sb A w) (hA : ∀ y ∈ A, y.length ≤ 10000) (hn : A.length ≤ 10000) :
    Calls Try.prog 35 #[.pointer (some ⟨sb, 0, none⟩)] w fun e w' => ∃ v, e = .returned v ∧ Made w.heap.size v A w' ∧ Grow w w' := by
  obtain ⟨i0, hi0, hz0, hz1, hz2⟩ := info_parts info26
  obtain ⟨slv, svs, hs1, -⟩ := hs
  have HS1 := Lib.hid hs1
  obtain ⟨sla, slc, rfl, -, -⟩ := hs1.len
  have hsw := lt_of_block hs1.blk
  have gs : w.cell? ⟨sb, 0, none⟩ = some (.slice sla A.length slc) := cell_of_block hs1.blk
  clear hs1
  go_enter Try.func35, Try.ntmps35
  go_wp2_with (first
    | (at_make; (refine wpList_make_own _ rfl _ _ 39 rfl w.heap.size 26 i0 (.slice none 0 0) 1 Try.underlying39 hi0 hz0 hz1 .i64 .i64 _ A.length rfl rfl rfl (by rw [hz2]; omega) (by unfold maxLen; omega) (Nat.le_refl _) ?_); intro w0 hown0 hgrow0
       have hg0 : Grow w w0 := ⟨hgrow0.os, hgrow0.tape, hgrow0.output, hgrow0.size, fun k hk => hgrow0.block k hk (by simp)⟩
       have H0 := Lib.hid (And.intro hown0 hg0)
       have gs0 := (below_cell hg0 hsw).trans gs
       clear hown0 hgrow0 hg0))
  go_loopw [3, 17] (fun v i wr => ∃ p : Nat, p ≤ A.length ∧ i = .int .i64 p ∧ Hid (Made w.heap.size v (A.take p) wr ∧ Grow w wr)) (fun _ i _ => A.length - (intOf i).toNat)
  case atStart => exact ⟨0, by omega, rfl, ⟨[], H0.out.1, rfl, fun i h => by simp at h⟩, H0.out.2⟩
  case round =>
    obtain ⟨p, hp, rfl, hh⟩ := hrel
    clear gs0
    by_cases hlt : p < A.length
    · have hki : (p : Int) < A.length := by omega
      obtain ⟨g, c, ai, di, hlv, hc0, hin, hd, hld⟩ := HS1.out.at hlt
      injection hlv with e1 _ e3
      subst e1 e3
      have hc := (below_cell hh.out.2 (block_of_cell hc0)).trans hc0
      have HX := Lib.hid (show Lst w ai A[p] from hin)
      have hal := hA _ (List.getElem_mem hlt)
      have HT := Lib.hid (List.take_succ_eq_append_getElem hlt)
      obtain ⟨vs, hrow, hwd⟩ := hh.out.1
      have hvl : vs.length = p := by rw [hwd.1]; simp; omega
      have HM := Lib.hid (And.intro hrow hwd)
      clear hin hrow hwd hc0
      generalize A[p] = x at *
      go_wp2_with fail
      refine (clone_any (HX.out.go hh.out.2) hd (by omega)).mono ?_
      rintro e w2 ⟨v, rfl, hown, hb⟩
      obtain ⟨va, vc, rfl, -, -, -, -⟩ := hown.shape
      have hG : Grow _ (w2.alloc (.cells #[.slice va x.length vc] 26)) := Grow.trans hb ((Below.refl _ _).alloc (Nat.le_refl _) _)
      have HR := Lib.hid (HM.out.1.keep (fun _ hk => hG.block _ (row_ge HM.out.1 hk).1))
      have HW := Lib.hid (HM.out.2.keep (fun _ _ hk => hG.block _ (lt_of_block hk)))
      have HO := Lib.hid (own_mono (hown.alloc (.cells #[.slice va x.length vc] 26)) hh.out.2.size)
      have HG := Lib.hid (hh.out.2.trans hG)
      clear hown hb hG
      go_wp2_with (first
        | (at_builtin; (refine wpList_append_lies _ rfl (.tmp 21) (.tmp 24) 39 rfl w.heap.size 26 i0 _ 1 24 Try.underlying39 hi0 hz0 hz1 hz2 rfl (by omega) _ vs.length vs rfl HR.out ⟨w2.heap.size, 0, none⟩ 1 1 [.slice va x.length vc] rfl rfl (World.news_of_block (cs := #[.slice va x.length vc]) (t := 26) (fr := (0, 0)) (heap_alloc_new _ _)) (by simp [Value.oneCell']) (by omega) (by simp only [maxLen]; omega) (by omega) (by have := HG.out.size; simpa using this) (w2.heap.size + 1) (by simp) ?_); intro gg cap' w1 hown1 hgrow hat hlt2))
      go_roundw
      case rel =>
        refine ⟨p + 1, by omega, by go_num, ⟨vs ++ [.slice va x.length vc], ?_, ?_⟩, ?_⟩
        · show World.ownsRow _ _ _ _ _ _ _
          rw [List.length_append, hvl]
          have h := hown1
          rw [hvl] at h
          exact h
        · rw [HT.out]
          exact words_snoc (HW.out.keep (fun _ _ hk => grown3 HR.out hgrow hk)) (own_grown3 HR.out hgrow HO.out)
        · refine Below.trans HG.out ⟨hgrow.os, hgrow.tape, hgrow.output, hgrow.size, fun k hk => hgrow.block k (by have := HG.out.size; omega) (fun e => by have := (row_ge HR.out e.symm).2.1; omega)⟩
      case measure => simp [intOf]; omega
    · have hki : ¬ (p : Int) < A.length := by omega
      have e : A.take p = A := List.take_of_length_le (by omega)
      rw [e] at hh
      go_wp2
      go_ret
      exact ⟨_, rfl, hh.out.1, hh.out.2⟩
end Go.Proofs.Ytmiiolgbjicocaa
namespace Go.Proofs.Ytmiiolgbjicocaa
open Go.RowKit
theorem sorted_tail {a : List Int} {s : List (List Int)} (h : Sorted (a :: s)) : (∀ x ∈ s, lessL a x = true) ∧ Sorted s := by
  constructor
  · intro x hx
    obtain ⟨i, hi, rfl⟩ := List.getElem_of_mem hx
    exact h 0 (i + 1) a s[i] (by omega) rfl (by rw [List.getElem?_cons_succ, List.getElem?_eq_getElem hi])
  · intro i j x y hij hx hy
    exact h (i + 1) (j + 1) x y (by omega) (by rw [List.getElem?_cons_succ]; exact hx) (by rw [List.getElem?_cons_succ]; exact hy)
theorem sorted_unique : ∀ {A B : List (List Int)}, Sorted A → Sorted B → (∀ x, x ∈ A ↔ x ∈ B) → A = B
  | [], [], _, _, _ => rfl
  | [], b :: _, _, _, h => by have := (h b).2 (by simp); simp at this
  | a :: _, [], _, _, h => by have := (h a).1 (by simp); simp at this
  | a :: s, b :: t, hA, hB, h => by
    obtain ⟨ha, hs⟩ := sorted_tail hA
    obtain ⟨hb, ht⟩ := sorted_tail hB
    have e : a = b := by
      rcases List.mem_cons.1 ((h a).1 (by simp)) with h1 | h1
      · exact h1
      · rcases List.mem_cons.1 ((h b).2 (by simp)) with h2 | h2
        · exact h2.symm
        · have := lessL_trans (hb a h1) (ha b h2); rw [lessL_irr] at this; simp at this
    subst e
    have := sorted_unique hs ht (fun x => ⟨fun hx => by
      rcases List.mem_cons.1 ((h x).1 (by simp [hx])) with h1 | h1
      · subst h1; have := ha x hx; rw [lessL_irr] at this; simp at this
      · exact h1, fun hx => by
      rcases List.mem_cons.1 ((h x).2 (by simp [hx])) with h1 | h1
      · subst h1; have := hb x hx; rw [lessL_irr] at this; simp at this
      · exact h1⟩)
    rw [this]
theorem mem_timesL {A B : List (List Int)} {k : Int} {x : List Int} : x ∈ timesL A B k ↔ ∃ a ∈ A, ∃ b ∈ B, joinL a b k = x := by
  unfold timesL timesP
  rw [mem_ofL, List.mem_flatMap]
  constructor
  · rintro ⟨a, ha, h⟩
    obtain ⟨b, hb, h⟩ := List.mem_map.1 h
    exact ⟨a, ha, b, hb, h⟩
  · rintro ⟨a, ha, b, hb, h⟩
    exact ⟨a, ha, List.mem_map.2 ⟨b, hb, h⟩⟩
theorem timesL_sorted (A B : List (List Int)) (k : Int) : Sorted (timesL A B k) := ofL_sorted _
theorem timesL_len (A B : List (List Int)) (k : Int) : (timesL A B k).length ≤ A.length * B.length := by
  have := ofL_len (timesP A B k)
  rw [timesP_len] at this
  exact this
theorem joinL_le (a b : List Int) {k : Int} (h : k ≤ 15) : (joinL a b k).length ≤ 15 := by unfold joinL; simp; omega
theorem timesL_short {A B : List (List Int)} {k : Int} (h : k ≤ 15) : ∀ y ∈ timesL A B k, y.length ≤ 15 := fun y hy => by
  obtain ⟨a, _, b, _, rfl⟩ := mem_timesL.1 hy
  exact joinL_le a b h
theorem joinL_assoc (a b c : List Int) (k : Int) : joinL (joinL a b k) c k = joinL a (joinL b c k) k := by
  unfold joinL
  have h1 : ∀ (n : Nat) (X Y : List Int), (X.take n ++ Y).take n = (X ++ Y).take n := fun n X Y => by
    rw [List.take_append, List.take_append, List.take_take, Nat.min_self]
    congr 2
    simp only [List.length_take]
    omega
  have h2 : ∀ (n : Nat) (X Y : List Int), (X ++ Y.take n).take n = (X ++ Y).take n := fun n X Y => by
    rw [List.take_append, List.take_append, List.take_take]
    congr 2
    omega
  rw [h1, h2, List.append_assoc]
theorem timesL_assoc (A B C : List (List Int)) (k : Int) : timesL (timesL A B k) C k = timesL A (timesL B C k) k := by
  refine sorted_unique (timesL_sorted _ _ _) (timesL_sorted _ _ _) (fun x => ?_)
  rw [mem_timesL, mem_timesL]
  constructor
  · rintro ⟨y, hy, c, hc, rfl⟩
    obtain ⟨a, ha, b, hb, rfl⟩ := mem_timesL.1 hy
    exact ⟨a, ha, _, mem_timesL.2 ⟨b, hb, c, hc, rfl⟩, (joinL_assoc a b c k).symm⟩
  · rintro ⟨a, ha, y, hy, rfl⟩
    obtain ⟨b, hb, c, hc, rfl⟩ := mem_timesL.1 hy
    exact ⟨_, mem_timesL.2 ⟨a, ha, b, hb, rfl⟩, c, hc, joinL_assoc a b c k⟩
theorem timesL_nil (A : List (List Int)) (k : Int) : timesL A [] k = [] := by
  have h : timesP A [] k = [] := by unfold timesP; simp
  unfold timesL
  rw [h]; rfl
theorem nil_timesL (B : List (List Int)) (k : Int) : timesL [] B k = [] := rfl
theorem timesL_one (A : List (List Int)) (k : Int) : timesL A [[]] k = timesL [[]] A k := by
  refine sorted_unique (timesL_sorted _ _ _) (timesL_sorted _ _ _) (fun x => ?_)
  rw [mem_timesL, mem_timesL]
  constructor
  · rintro ⟨a, ha, b, hb, rfl⟩
    have : b = [] := by simpa using hb
    subst this
    exact ⟨[], by simp, a, ha, by unfold joinL; simp⟩
  · rintro ⟨b, hb, a, ha, rfl⟩
    have : b = [] := by simpa using hb
    subst this
    exact ⟨a, ha, [], by simp, by unfold joinL; simp⟩
theorem timesL_one_short {A : List (List Int)} {k : Int} (hk : 0 ≤ k) : ∀ y ∈ timesL A [[]] k, (y.length : Int) ≤ k := fun y hy => by
  obtain ⟨a, _, b, _, rfl⟩ := mem_timesL.1 hy
  unfold joinL
  simp only [List.length_take]
  omega
/-- A set, wherever. -/
def SetE (sb : Nat) (L : List (List Int)) (w : World) : Prop := ∃ base, SetB base sb L w
theorem SetE.go {sb : Nat} {L : List (List Int)} {w w' : World} (h : SetE sb L w) (k : Grow w w') : SetE sb L w' := by
  obtain ⟨b, h⟩ := h
  exact ⟨b, h.go k⟩
theorem SetE.sorted {sb : Nat} {L : List (List Int)} {w : World} (h : SetE sb L w) : Sorted L := by
  obtain ⟨_, _, _, _, h, _⟩ := h
  exact h
def PtrPost (L : List (List Int)) (w : World) (e : Ending) (w' : World) : Prop := ∃ ob, e = .returned (.pointer (some ⟨ob, 0, none⟩)) ∧ SetE ob L w' ∧ Grow w w'
section
variable {w : World} {sb tb : Nat} {A B : List (List Int)}
theorem of_e {a : Option Addr} {c : Nat} (h : Lsts w a A) (hn : A.length ≤ 10000) (hL : Short A) : Calls Try.prog 31 #[.slice a A.length c] w (PtrPost (ofL A) w) :=
  (of_any h hn hL).mono (fun _ _ h => by obtain ⟨sb, h1, h2, h3⟩ := h; exact ⟨sb, h1, ⟨_, h2⟩, h3⟩)
theorem times_e (hs : SetE sb A w) (ht : SetE tb B w) (hA : ∀ y ∈ A, y.length ≤ 5000) (hB : ∀ y ∈ B, y.length ≤ 5000) (hn : A.length ≤ 100) (hn2 : B.length ≤ 100) (k : Int) (hk : -9223372036854775808 ≤ k ∧ k ≤ 9223372036854775807) :
    Calls Try.prog 84 #[.pointer (some ⟨sb, 0, none⟩), .pointer (some ⟨tb, 0, none⟩), .int .i64 k] w (PtrPost (timesL A B k) w) := by
  obtain ⟨b1, hs⟩ := hs
  obtain ⟨b2, ht⟩ := ht
  exact (times_any hs ht hA hB hn hn2 k hk).mono (fun _ _ h => by obtain ⟨sb, h1, h2, h3⟩ := h; exact ⟨sb, h1, ⟨_, h2⟩, h3⟩)
theorem len_e (h : SetE sb A w) : Calls Try.prog 94 #[.pointer (some ⟨sb, 0, none⟩)] w fun e w' => e = .returned (.int .i64 (A.length : Nat)) ∧ w = w' := by
  obtain ⟨b1, h⟩ := h
  exact len_any h
theorem all_e (hs : SetE sb A w) (hA : Short A) (hn : A.length ≤ 10000) : Calls Try.prog 35 #[.pointer (some ⟨sb, 0, none⟩)] w fun e w' => ∃ a c, e = .returned (.slice a A.length c) ∧ Lsts w' a A ∧ Grow w w' := by
  obtain ⟨b1, hs⟩ := hs
  exact (all_any hs hA hn).mono (fun _ _ h => by
    obtain ⟨v, h1, h2, h3⟩ := h
    obtain ⟨a, c, rfl, h4, -, -⟩ := h2.lsts
    exact ⟨a, c, h1, h4, h3⟩)
end
end Go.Proofs.Ytmiiolgbjicocaa
namespace Go.Proofs.Ytmiiolgbjicocaa
open Go.RowKit
/-- A row of words, whichever: its values in a block of its own. -/
def ClonePost (vs : List Value) (w : World) (e : Ending) (w' : World) : Prop := ∃ v, e = .returned v ∧ Row w' w.heap.size v vs ∧ Grow w w'
set_option maxHeartbeats 1000000 in
theorem clone2_any {lv : Value} {vs : List Value} {w : World} (h : Row w 0 lv vs) (hn : vs.length ≤ 10000) (hv1 : ∀ u ∈ vs, u.oneCell' = true) :
    Calls Try.prog 93 #[lv] w (ClonePost vs w) := by
  obtain ⟨i0, hi0, hz0, hz1, hz2⟩ := info_parts info26
  have q29 : ∀ (w : World) (a : Option Addr) (n c n' c' : Nat), (binOp .eql 39 (.slice a n c) (.slice none n' c')).run Try.prog w = .ok (.bool a.isNone) w := fun w a n c n' c' => Lib.run_eql_slice_nil w _ _ a n c n' c' Try.underlying39
  rcases h.2 with ⟨rfl, h0⟩ | ⟨g, cap, cur, rfl, hg, hh, hle, hm, hs, htk⟩
  · have hvs : vs = [] := List.eq_nil_of_length_eq_zero h0
    subst hvs
    clear h
    go_enter Try.func93, Try.ntmps93
    go_wp2
    go_ret
    exact ⟨_, rfl, World.ownsRow_nil _ _ _ _, Below.refl _ _⟩
  · obtain ⟨_, _, _, _, _, _, hcell⟩ := row_cells h
    have hgw := lt_of_block hh
    have HO : Hid ((w.alloc (.cells #[] 26)).ownsRow w.heap.size 26 1 (.slice (some ⟨w.heap.size, 0, none⟩) 0 0) 0 []) :=
      Lib.hid ⟨rfl, .inr ⟨w.heap.size, 0, #[], rfl, Nat.le_refl _, heap_alloc_this _ _, Nat.le_refl _, Nat.zero_le _, rfl, rfl⟩⟩
    have HC : Hid (∀ j u, vs[j]? = some u → (w.alloc (.cells #[] 26)).cell? ((⟨g, 0, none⟩ : Addr).add j) = some u) := Lib.hid (fun j u hj => by
      rw [addr_add]
      exact cell_alloc_keep hgw (hcell j u hj))
    clear h hh hs htk hcell
    go_enter Try.func93, Try.ntmps93
    go_wp2_with (first
      | (at_builtin; (refine wpList_append_own _ rfl (.tmp 5) (.tmp 6) 39 rfl w.heap.size 26 i0 (.slice none 0 0) 1 24 Try.underlying39 hi0 hz0 hz1 hz2 rfl (by omega) (.slice (some ⟨w.heap.size, 0, none⟩) 0 0) 0 [] rfl HO.out ⟨g, 0, none⟩ vs.length cap vs rfl (by omega) HC.out hv1 (by simp only [maxLen]; omega) (by omega) (by simp) ?_); intro v' w1 hown1 hgrow _))
    go_ret
    refine ⟨_, rfl, ?_, ?_⟩
    · have h := hown1
      rw [Nat.zero_add, List.nil_append] at h
      exact h
    · exact Below.trans ((Below.refl _ _).alloc (Nat.le_refl _) _) ⟨hgrow.os, hgrow.tape, hgrow.output, hgrow.size, fun k hk => hgrow.block k (by simp; omega) (fun h => by simp [Value.ownBlock] at h; omega)⟩
theorem rw_at {lv : Value} {vs : List Value} {L : List (List Int)} {w : World} {base : Nat} (hrow : Row w base lv vs) (hw : WordsAt w vs L) {i : Nat} (hi : i < L.length) :
    ∃ g c a d, lv = .slice (some ⟨g, 0, none⟩) L.length c ∧ w.cell? ⟨g, i, none⟩ = some (.slice a L[i].length d) ∧ Lst w a L[i] ∧ (a = none → d = 0) ∧ L[i].length ≤ d := by
  have hl := hw.1
  have hiv : i < vs.length := by omega
  obtain ⟨g, c, hlv⟩ : ∃ g c, lv = .slice (some ⟨g, 0, none⟩) vs.length c := by
    rcases hrow.2 with ⟨_, h0⟩ | ⟨g, cap, cur, h1, _⟩
    · omega
    · exact ⟨_, _, h1⟩
  rw [hlv] at hrow
  obtain ⟨_, _, _, cur, _, _, hcell⟩ := row_cells hrow
  obtain ⟨a, d, hv, hn, hin, _, hle⟩ := (hw.2 i hiv hi).shape
  have := hcell i _ (List.getElem?_eq_getElem hiv)
  rw [hv, Nat.zero_add] at this
  exact ⟨g, c, a, d, by rw [hlv, hl], this, hin, fun h => (hn h).1, hle⟩
/-- What a set's turning leaves of words and of rows. -/
theorem not3 {sb : Nat} {lv : Value} {vs : List Value} {L : List (List Int)} {w : World} (h : SetAt sb lv vs L w) {k : Nat} {cs : Array Value} (hk : w.heap[k]? = some (Obj.cells cs 3 (0, 0))) : ¬ (k = sb ∨ lv.ownBlock = some k) := by
  rintro (e | e)
  · rw [e, h.blk] at hk
    injection hk with hk
    injection hk with _ h3
    exact absurd h3 (by decide)
  · obtain ⟨_, _, cs, h2⟩ := row_ge h.row e
    rw [hk] at h2
    injection h2 with h2
    injection h2 with _ h3
    exact absurd h3 (by decide)
theorem words_kept {sb : Nat} {lv : Value} {vs : List Value} {L : List (List Int)} {w w' : World} (h : SetAt sb lv vs L w) (hk : Kept (fun k => k = sb ∨ lv.ownBlock = some k) w w') {us : List Value} {M : List (List Int)} (hu : WordsAt w us M) : WordsAt w' us M :=
  hu.keep (fun k _ h3 => hk.block k (lt_of_block h3) (not3 h h3))
theorem set_kept {sb tb : Nat} {lv tlv : Value} {vs tvs : List Value} {L M : List (List Int)} {w w' : World} (h : SetAt sb lv vs L w) (ht : SetAt tb tlv tvs M w) (hk : Kept (fun k => k = sb ∨ lv.ownBlock = some k) w w') (hne : tb ≠ sb) (hdis : ∀ k, lv.ownBlock = some k → tlv.ownBlock ≠ some k) : SetAt tb tlv tvs M w' := by
  refine ⟨(hk.block tb (lt_of_block ht.blk) ?_).trans ht.blk, ht.row.keep (fun k hkk => hk.block k (row_ge ht.row hkk).1 ?_), words_kept h hk ht.words⟩
  · rintro (e | e)
    · exact hne e
    · obtain ⟨_, _, cs, h2⟩ := row_ge h.row e
      rw [ht.blk] at h2
      injection h2 with h2
      injection h2 with _ h3
      exact absurd h3 (by decide)
  · rintro (e | e)
    · rw [e] at hkk
      obtain ⟨_, _, cs, h2⟩ := row_ge ht.row hkk
      rw [h.blk] at h2
      injection h2 with h2
      injection h2 with _ h3
      exact absurd h3 (by decide)
    · exact hdis k e hkk
def TakePost (sb : Nat) (slv : Value) (A B : List (List Int)) (w : World) (e : Ending) (w' : World) : Prop :=
  ∃ slv' svs', e = .returned (.int .i64 (((B.foldl rAdd A).length : Nat) - (A.length : Nat) : Int)) ∧ SetAt sb slv' svs' (B.foldl rAdd A) w' ∧ Kept (fun k => k = sb ∨ slv.ownBlock = some k) w w' ∧ ∀ k, slv'.ownBlock = some k → slv.ownBlock = some k ∨ w.heap.size ≤ k
theorem fold_on {A B : List (List Int)} {k : Nat} (hk : k < B.length) : (B.take (k + 1)).foldl rAdd A = rAdd ((B.take k).foldl rAdd A) B[k] := by
  rw [List.take_succ_eq_append_getElem hk, List.foldl_append]
  rfl
theorem rAdd_new {L : List (List Int)} {a : List Int} (h : a ∉ L) : (rAdd L a).length = L.length + 1 := by
  have hp : spot L a ≤ L.length := List.findIdx_le_length
  unfold rAdd
  rw [if_neg h]
  simp
  omega
theorem short_fold {A B : List (List Int)} (hA : Short A) (hB : Short B) (k : Nat) : Short ((B.take k).foldl rAdd A) := fun y hy => by
  rcases (foldl_mem _ _ y).1 hy with h | h
  · exact hA y h
  · exact hB y (List.mem_of_mem_take h)
set_option maxHeartbeats 4000000 in
theorem take_any {sb tb : Nat} {slv tlv : Value} {svs tvs : List Value} {A B : List (List Int)} {w : World} (hs : SetAt sb slv svs A w) (hAs : Sorted A) (ht : SetAt tb tlv tvs B w) (hA : Short A) (hB : Short B) (hn : A.length ≤ 1000) (hn2 : B.length ≤ 1000) :
    Calls Try.prog 82 #[.pointer (some ⟨sb, 0, none⟩), .pointer (some ⟨tb, 0, none⟩)] w (TakePost sb slv A B w) := by
  have HS := Lib.hid hs
  have HW := Lib.hid ht.words
  have HCl := Lib.hid (clone2_any ht.row (by have := ht.words.1; omega) (words_one ht.words))
  have gt : w.cell? ⟨tb, 0, none⟩ = some tlv := cell_of_block ht.blk
  obtain ⟨ta, tc, rfl, -, -⟩ := ht.len
  clear hs ht
  go_enter Try.func82, Try.ntmps82
  go_wp2_with fail
  refine HCl.out.mono ?_
  rintro e w1 ⟨cv, rfl, hcr, hg⟩
  have hvl : tvs.length = B.length := HW.out.1
  obtain ⟨ca, cc, rfl⟩ : ∃ ca cc, cv = .slice ca B.length cc := row_lit hcr hvl
  have H1 := Lib.hid (And.intro hcr (And.intro hg (HW.out.keep (fun _ _ hk => hg.block _ (lt_of_block hk)))))
  have HS1 := Lib.hid (HS.out.grow hg)
  have hfr0 : Hid (∀ k, (Value.slice ca B.length cc).ownBlock = some k → w.heap.size ≤ k ∧ k < w1.heap.size) := Lib.hid (fun k hk => ⟨(row_ge hcr hk).2.1, (row_ge hcr hk).1⟩)
  clear hcr hg hvl HCl
  go_wp2
  go_loopw [5, 14] (fun n i wr => ∃ p : Nat, p ≤ B.length ∧ i = .int .i64 p ∧ n = .int .i64 ((((B.take p).foldl rAdd A).length : Nat) - (A.length : Nat) : Int) ∧ Hid (∃ slv' svs', SetAt sb slv' svs' ((B.take p).foldl rAdd A) wr ∧ Kept (fun k => k = sb ∨ slv.ownBlock = some k) w wr ∧ (∀ k, slv'.ownBlock = some k → slv.ownBlock = some k ∨ w1.heap.size ≤ k) ∧ Row wr w.heap.size (.slice ca B.length cc) tvs ∧ WordsAt wr tvs B ∧ w1.heap.size ≤ wr.heap.size)) (fun _ i _ => B.length - (intOf i).toNat)
  case atStart => exact ⟨0, by omega, rfl, by simp, slv, svs, HS1.out, kept_of_below H1.out.2.1 _, fun k hk => .inl hk, H1.out.1, H1.out.2.2, Nat.le_refl _⟩
  case round =>
    obtain ⟨p, hp, rfl, rfl, hh⟩ := hrel
    obtain ⟨slv1, svs1, hsr, hkr, hfr, hrr, hwr, hsz⟩ := hh.out
    have HH := Lib.hid (And.intro hsr (And.intro hkr (And.intro hfr (And.intro hrr (And.intro hwr hsz)))))
    clear hh hsr hkr hfr hrr hwr hsz
    have hle : A.length ≤ ((B.take p).foldl rAdd A).length := by
      have h : ∀ (Bs L : List (List Int)), L.length ≤ (Bs.foldl rAdd L).length := fun Bs => by
        induction Bs with
        | nil => intro L; exact Nat.le_refl _
        | cons b t ih =>
          intro L
          rw [List.foldl_cons]
          refine Nat.le_trans ?_ (ih _)
          by_cases hb : b ∈ L
          · unfold rAdd; rw [if_pos hb]; exact Nat.le_refl _
          · rw [rAdd_new hb]; omega
      exact h _ _
    have hul := foldl_len (B.take p) A
    simp only [List.length_take] at hul
    by_cases hlt : p < B.length
    · have hki : (p : Int) < B.length := by omega
      obtain ⟨g, c, ai, di, hlv, hc, hin, hd, hld⟩ := rw_at HH.out.2.2.2.1 HH.out.2.2.2.2.1 hlt
      injection hlv with e1 _ e3
      subst e1 e3
      have hSo : Sorted ((B.take p).foldl rAdd A) := foldl_sorted _ _ hAs
      have hSh := short_fold hA hB p
      have hbl := hB _ (List.getElem_mem hlt)
      have HA := Lib.hid (add_any (c := di) HH.out.1 hin hd (by omega) (fun y hy => by have := hSh y hy; omega) (by omega) (words_one HH.out.1.words))
      have HE := Lib.hid (fold_on (A := A) hlt)
      have HSo := Lib.hid hSo
      clear hin hSh hSo
      generalize B[p] = x at *
      generalize (B.take p).foldl rAdd A = U at *
      go_wp2_with fail
      refine HA.out.mono ?_
      rintro e w2 ⟨q, hq, rfl, slv2, svs2, hs2, hk2, hf2⟩
      have hm : decide (U[q]? = some x) = decide (x ∈ U) := by rw [Bool.eq_iff_iff]; simp [place_mem HSo.out hq]
      rw [place_spot HSo.out hq] at hs2
      rw [hm]
      have HX : Hid (∃ slv' svs', SetAt sb slv' svs' (rAdd U x) w2 ∧ Kept (fun k => k = sb ∨ slv.ownBlock = some k) w w2 ∧ (∀ k, slv'.ownBlock = some k → slv.ownBlock = some k ∨ w1.heap.size ≤ k) ∧ Row w2 w.heap.size (.slice (some ⟨g, 0, none⟩) B.length cc) tvs ∧ WordsAt w2 tvs B ∧ w1.heap.size ≤ w2.heap.size) := Lib.hid (by
        have hkc := hfr0.out g rfl
        refine ⟨slv2, svs2, hs2, HH.out.2.1.then (S'' := fun k => k = sb ∨ slv.ownBlock = some k) hk2 (fun _ _ h => h) (fun k hk h => ?_), fun k hk => ?_, HH.out.2.2.2.1.keep (fun k hk => hk2.block k (row_ge HH.out.2.2.2.1 hk).1 ?_), words_kept HH.out.1 hk2 HH.out.2.2.2.2.1, Nat.le_trans HH.out.2.2.2.2.2 hk2.size⟩
        · rcases h with h | h
          · exact .inl h
          · rcases HH.out.2.2.1 k h with h1 | h1
            · exact .inr h1
            · have := H1.out.2.1.size; omega
        · rcases hf2 k hk with h | h
          · exact HH.out.2.2.1 k h
          · exact .inr (Nat.le_trans HH.out.2.2.2.2.2 h)
        · have hkg : g = k := by simpa [Value.ownBlock] using hk
          subst hkg
          rintro (h | h)
          · have := lt_of_block HS.out.blk; omega
          · rcases HH.out.2.2.1 g h with h1 | h1
            · have := (row_ge HS.out.row h1).1; omega
            · omega)
      clear hs2 hk2 hf2 hm hq
      by_cases hxm : x ∈ U
      · simp only [hxm, decide_true, Bool.not_true]
        go_wp2
        go_round
        case rel =>
          refine ⟨p + 1, by omega, by go_num, ?_, ?_⟩
          · rw [HE.out]; unfold rAdd; rw [if_pos hxm]
          · rw [HE.out]; exact HX
        case measure => simp [intOf]; omega
      · simp only [hxm, decide_false, Bool.not_false]
        have hnl := rAdd_new hxm
        go_wp2
        go_round
        case rel =>
          refine ⟨p + 1, by omega, by go_num, ?_, ?_⟩
          · rw [HE.out, hnl]; congr 1; push_cast; omega
          · rw [HE.out]; exact HX
        case measure => simp [intOf]; omega
    · have hpe : p = B.length := by omega
      subst hpe
      have hki : ¬ ((B.length : Int) < B.length) := by omega
      rw [List.take_length] at HH hle ⊢
      go_wp2
      go_ret
      obtain ⟨hsr, hkr, hfr, _, _, hsz⟩ := HH.out
      exact ⟨_, _, rfl, hsr, hkr, fun k hk => (hfr k hk).imp id (fun h => Nat.le_trans H1.out.2.1.size h)⟩
end Go.Proofs.Ytmiiolgbjicocaa
namespace Go.Proofs.Ytmiiolgbjicocaa
open Go.RowKit
theorem sorted_cons {a : List Int} {s : List (List Int)} (h1 : ∀ x ∈ s, lessL a x = true) (h2 : Sorted s) : Sorted (a :: s) := by
  intro i j x y hij hx hy
  match i, j, hij with
  | 0, j + 1, _ =>
    simp only [List.getElem?_cons_zero, Option.some.injEq] at hx
    rw [List.getElem?_cons_succ] at hy
    subst hx
    exact h1 y (List.mem_of_getElem? hy)
  | i + 1, j + 1, h =>
    rw [List.getElem?_cons_succ] at hx hy
    exact h2 i j x y (by omega) hx hy
theorem sorted_filter (p : List Int → Bool) : ∀ {L : List (List Int)}, Sorted L → Sorted (L.filter p)
  | [], h => h
  | a :: s, h => by
    obtain ⟨h1, h2⟩ := sorted_tail h
    rw [List.filter_cons]
    split
    · exact sorted_cons (fun x hx => h1 x (List.mem_filter.1 hx).1) (sorted_filter p h2)
    · exact sorted_filter p h2
theorem sorted_nomem {a : List Int} {s : List (List Int)} (h : Sorted (a :: s)) : a ∉ s := fun hm => by
  have := (sorted_tail h).1 a hm
  rw [lessL_irr] at this
  simp at this
theorem foldl_count : ∀ {B : List (List Int)} (A : List (List Int)), Sorted B → (B.foldl rAdd A).length + (B.filter (fun x => decide (x ∈ A))).length = A.length + B.length
  | [], A, _ => by simp
  | b :: t, A, h => by
    have ht := (sorted_tail h).2
    have hn := sorted_nomem h
    have ih := foldl_count (B := t) (rAdd A b) ht
    rw [List.foldl_cons]
    have he : t.filter (fun x => decide (x ∈ rAdd A b)) = t.filter (fun x => decide (x ∈ A)) := by
      apply List.filter_congr
      intro x hx
      have hxb : x ≠ b := fun e => hn (e ▸ hx)
      simp [mem_rAdd, hxb]
    rw [he] at ih
    by_cases hb : b ∈ A
    · have hr : rAdd A b = A := by unfold rAdd; rw [if_pos hb]
      rw [hr] at ih ⊢
      rw [List.filter_cons, if_pos (by simpa using hb)]
      simp only [List.length_cons]
      omega
    · have hr := rAdd_new hb
      rw [List.filter_cons, if_neg (by simpa using hb)]
      rw [hr] at ih
      simp only [List.length_cons]
      omega
theorem has_union (A B : List (List Int)) (x : List Int) : decide (x ∈ B.foldl rAdd A) = (decide (x ∈ A) || decide (x ∈ B)) := by
  rw [Bool.eq_iff_iff]; simp [foldl_mem]
theorem short_union {A B : List (List Int)} (hA : Short A) (hB : Short B) : Short (B.foldl rAdd A) := by
  have := short_fold hA hB B.length
  rwa [List.take_length] at this
/-- Two sets in blocks of their own, and what is made of them. -/
theorem SetAt.e {sb : Nat} {lv : Value} {vs : List Value} {L : List (List Int)} {w : World} (h : SetAt sb lv vs L w) (hs : Sorted L) : SetE sb L w := ⟨0, lv, vs, h, hs, Nat.zero_le _, fun _ _ => Nat.zero_le _⟩
end Go.Proofs.Ytmiiolgbjicocaa
