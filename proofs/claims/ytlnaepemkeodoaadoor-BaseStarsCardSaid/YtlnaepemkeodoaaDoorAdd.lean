/- A line added to a base. -/
import Derived.Test.YtlnaepemkeodoaaDoorPut
namespace Go.Proofs.YtlnaepemkeodoaaDoor
open Go.RowKit
theorem cut_any (l : List UInt8) (hl : l.length ≤ 90000) (w : World) : Calls Tryd.prog 22 #[.string (bOf l), .string { data := #[32, 42] }] w fun e w' => e = .returned (.tuple #[.string (bOf (Lib.trimSuffix l starL)), .bool (Lib.hasSuffix l starL)]) ∧ w' = w :=
  strings_CutSuffix (bOf l) { data := #[32, 42] } w (by rw [bOf_size]; omega)
theorem trim_star {l : List UInt8} (h : Lib.hasSuffix l starL = true) : Lib.trimSuffix l starL = headOf l := by
  unfold Lib.trimSuffix headOf
  rw [if_pos h]
  rfl
/-- A base in memory. -/
structure BaseAt (w : World) (base bb : Nat) (m h : List (List UInt8)) (mv hv : Value) : Prop where
  blk : w.heap[bb]? = some (.cells #[mv, hv] 37 (0, 0))
  mr : Row w base mv (strV m)
  hr : Row w base hv (strV h)
  far : ∀ k, mv.ownBlock = some k → hv.ownBlock ≠ some k
theorem row_not {w : World} {base bb : Nat} {v : Value} {vs : List Value} {cs : Array Value} (h : Row w base v vs) (hb : w.heap[bb]? = some (.cells cs 37 (0, 0))) : v.ownBlock ≠ some bb := fun e => by
  obtain ⟨_, _, cs', h2⟩ := row_ge h e
  rw [hb] at h2
  cases h2
/-- What a base may touch. -/
def Mine (w : World) (base bb : Nat) (k : Nat) : Prop := k = bb ∨ (base ≤ k ∧ ∃ cs, w.heap[k]? = some (.cells cs 9 (0, 0)))
def AddPost (base bb : Nat) (m h : List (List UInt8)) (l : List UInt8) (w : World) (e : Ending) (w' : World) : Prop :=
  e = .returned (.bool (!there m h l)) ∧ (∃ mv hv, BaseAt w' base bb (if there m h l = true then m else addM m l) (if there m h l = true then h else addH h l) mv hv) ∧ Kept (Mine w base bb) w w'
theorem cells_two {w : World} {bb : Nat} {a b : Value} (h : w.heap[bb]? = some (.cells #[a, b] 37 (0, 0))) : w.cell? ⟨bb, 0, none⟩ = some a ∧ w.cell? ⟨bb, 1, none⟩ = some b ∧ w.frozen? ⟨bb, 0, none⟩ = false ∧ w.frozen? ⟨bb, 1, none⟩ = false :=
  ⟨by rw [cell_of_block h]; rfl, by rw [cell_of_block h]; rfl, free_of_block h, free_of_block h⟩
theorem BaseAt.set0 {w : World} {base bb : Nat} {m' h : List (List UInt8)} {mv mv' hv : Value} (hB : w.heap[bb]? = some (.cells #[mv, hv] 37 (0, 0))) (mr : Row w base mv' (strV m')) (hr : Row w base hv (strV h)) (far : ∀ k, mv'.ownBlock = some k → hv.ownBlock ≠ some k) :
    BaseAt (w.setCell ⟨bb, 0, none⟩ mv') base bb m' h mv' hv := by
  refine ⟨by rw [heap_setCell_known hB]; rfl, ?_, ?_, far⟩
  · exact mr.kept (fun k hk => Below.heap_setCell _ _ _ _ (fun e => row_not mr hB (by rw [hk, e])))
  · exact hr.kept (fun k hk => Below.heap_setCell _ _ _ _ (fun e => row_not hr hB (by rw [hk, e])))
theorem BaseAt.set1 {w : World} {base bb : Nat} {m h' : List (List UInt8)} {mv hv hv' : Value} (hB : w.heap[bb]? = some (.cells #[mv, hv] 37 (0, 0))) (mr : Row w base mv (strV m)) (hr : Row w base hv' (strV h')) (far : ∀ k, mv.ownBlock = some k → hv'.ownBlock ≠ some k) :
    BaseAt (w.setCell ⟨bb, 1, none⟩ hv') base bb m h' mv hv' := by
  refine ⟨by rw [heap_setCell_known hB]; rfl, ?_, ?_, far⟩
  · exact mr.kept (fun k hk => Below.heap_setCell _ _ _ _ (fun e => row_not mr hB (by rw [hk, e])))
  · exact hr.kept (fun k hk => Below.heap_setCell _ _ _ _ (fun e => row_not hr hB (by rw [hk, e])))
theorem mine_row {w : World} {base bb : Nat} {v : Value} {vs : List Value} (h : Row w base v vs) {k : Nat} (hk : v.ownBlock = some k) : Mine w base bb k := by
  obtain ⟨_, h1, cs, h2⟩ := row_ge h hk
  exact .inr ⟨h1, cs, h2⟩
theorem kept_grown {w w' : World} {base bb : Nat} {v : Value} {vs : List Value} (h : Row w base v vs) (hg : w.grownBy w' v.ownBlock) : Kept (Mine w base bb) w w' :=
  ⟨hg.os, hg.tape, hg.output, hg.size, fun k hk hn => hg.block k hk (fun e => hn (mine_row h e.symm))⟩
theorem add_any {base bb : Nat} {m h : List (List UInt8)} {l : List UInt8} {mv hv : Value} {w : World} (hB : BaseAt w base bb m h mv hv) (hb : base ≤ w.heap.size) (hm : Sorted m) (hh : Sorted h) (hml : m.length + h.length ≤ 1000) (hl : l.length ≤ 90000) :
    Calls Tryd.prog 13 #[.pointer (some ⟨bb, 0, none⟩), .string (bOf l)] w (AddPost base bb m h l w) := by
  have HC := fun W => Lib.hid (cut_any l hl W)
  have HBk := Lib.hid hB
  obtain ⟨ma, mc, rfl, _⟩ := hB.mr.shape
  obtain ⟨ha, hc, rfl, _⟩ := hB.hr.shape
  obtain ⟨c0, c1, f0, f1⟩ := cells_two hB.blk
  have hbb := lt_of_block hB.blk
  by_cases hst : Lib.hasSuffix l starL = true
  · rw [hst, trim_star hst] at HC
    by_cases hin : headOf l ∈ h
    · have HP := Lib.hid (put_in hB.hr hh (by omega) hin)
      have HT : Hid (there m h l = true) := Lib.hid (by unfold there; rw [if_pos hst]; exact decide_eq_true hin)
      have HF : Hid (AddPost base bb m h l w (.returned (.bool false)) (w.setCell ⟨bb, 1, none⟩ (.slice ha (strV h).length hc))) := Lib.hid (by
        refine ⟨by rw [HT.out]; rfl, ⟨.slice ma (strV m).length mc, .slice ha (strV h).length hc, ?_⟩, (Kept.refl _ w).setCell (.inl (.inl rfl)) _⟩
        rw [if_pos HT.out, if_pos HT.out]
        exact BaseAt.set1 hB.blk hB.mr hB.hr hB.far)
      generalize (strV h).length = hn at *
      generalize (strV m).length = mn at *
      generalize bOf (headOf l) = X at *
      generalize bOf l = Y at *
      generalize AddPost base bb m h l w = P at *
      clear hB HBk hst hin hm hh HT
      go_enter Tryd.func13, Tryd.ntmps13
      go_wp2_with (first
        | (go_at_call 23; refine HP.out.mono ?_; rintro e w' ⟨rfl, rfl⟩)
        | (go_at_call 22; refine (HC _).out.mono ?_; rintro e w' ⟨rfl, rfl⟩))
      all_goals (first | exact HF.out | (go_ret; exact HF.out))
    · have HP := Lib.hid (put_out hB.hr hh hb (by omega) hin)
      have HT : Hid (there m h l = false) := Lib.hid (by unfold there; rw [if_pos hst]; exact decide_eq_false hin)
      have HF : Hid (∀ e w', PutPost base (.slice ha (strV h).length hc) h (headOf l) w e w' → ∃ lv', e = .returned (.tuple #[lv', .bool true]) ∧ Hid (AddPost base bb m h l w (.returned (.bool true)) (w'.setCell ⟨bb, 1, none⟩ lv')) ∧ (∃ x, w'.cell? ⟨bb, 1, none⟩ = some x) ∧ w'.frozen? ⟨bb, 1, none⟩ = false ∧ bb < w'.heap.size ∧ ∃ a n c, lv' = .slice a n c) := Lib.hid (by
        rintro e w' ⟨lv', rfl, h1, h2, h3⟩
        have hK := h2.block bb hbb (fun e => row_not hB.hr hB.blk e.symm)
        have hK' := hK.trans hB.blk
        obtain ⟨_, k1, _, k2⟩ := cells_two hK'
        refine ⟨lv', rfl, Lib.hid ⟨by rw [HT.out]; rfl, ⟨.slice ma (strV m).length mc, lv', ?_⟩, (kept_grown (bb := bb) hB.hr h2).setCell (p := ⟨bb, 1, none⟩) (.inl (.inl rfl)) _⟩, ⟨_, k1⟩, k2, Nat.lt_of_lt_of_le hbb h2.size, ?_⟩
        · rw [if_neg (by rw [HT.out]; decide), if_neg (by rw [HT.out]; decide)]
          unfold addM addH
          rw [if_pos hst, if_pos hst]
          refine BaseAt.set1 hK' (hB.mr.kept (fun k hk => h2.block k (row_ge hB.mr hk).1 (fun e => hB.far k hk e.symm))) h1 (fun k hk e => ?_)
          rcases h3 k e with h4 | h4
          · exact hB.far k hk h4
          · have := (row_ge hB.mr hk).1; omega
        · obtain ⟨a, c, e, _⟩ := h1.shape
          exact ⟨a, _, c, e⟩)
      generalize hPP : PutPost base (.slice ha (strV h).length hc) h (headOf l) w = PP at *
      generalize (strV h).length = hn at *
      generalize (strV m).length = mn at *
      generalize bOf (headOf l) = X at *
      generalize bOf l = Y at *
      generalize AddPost base bb m h l w = P at *
      clear hB HBk hst hin hm hh HT hPP
      go_enter Tryd.func13, Tryd.ntmps13
      go_wp2_with (first
        | (go_at_call 23; refine HP.out.mono ?_; intro e w' hq; obtain ⟨lv', rfl, hQ, ⟨x, hx⟩, hfz, hlt, pa, pn, pc, rfl⟩ := HF.out e w' hq; clear hq)
        | (go_at_call 22; refine (HC _).out.mono ?_; rintro e w' ⟨rfl, rfl⟩))
      all_goals (first | exact hQ.out | (go_ret; exact hQ.out))
  · have hst : Lib.hasSuffix l starL = false := by simpa using hst
    rw [hst] at HC
    by_cases hin : l ∈ m
    · have HP := Lib.hid (put_in hB.mr hm (by omega) hin)
      have HT : Hid (there m h l = true) := Lib.hid (by unfold there; rw [hst]; exact decide_eq_true hin)
      have HF : Hid (AddPost base bb m h l w (.returned (.bool false)) (w.setCell ⟨bb, 0, none⟩ (.slice ma (strV m).length mc))) := Lib.hid (by
        refine ⟨by rw [HT.out]; rfl, ⟨.slice ma (strV m).length mc, .slice ha (strV h).length hc, ?_⟩, (Kept.refl _ w).setCell (.inl (.inl rfl)) _⟩
        rw [if_pos HT.out, if_pos HT.out]
        exact BaseAt.set0 hB.blk hB.mr hB.hr hB.far)
      generalize (strV h).length = hn at *
      generalize (strV m).length = mn at *
      generalize bOf (Lib.trimSuffix l starL) = X at *
      generalize bOf l = Y at *
      generalize AddPost base bb m h l w = P at *
      clear hB HBk hst hin hm hh HT
      go_enter Tryd.func13, Tryd.ntmps13
      go_wp2_with (first
        | (go_at_call 23; refine HP.out.mono ?_; rintro e w' ⟨rfl, rfl⟩)
        | (go_at_call 22; refine (HC _).out.mono ?_; rintro e w' ⟨rfl, rfl⟩))
      all_goals (first | exact HF.out | (go_ret; exact HF.out))
    · have HP := Lib.hid (put_out hB.mr hm hb (by omega) hin)
      have HT : Hid (there m h l = false) := Lib.hid (by unfold there; rw [hst]; exact decide_eq_false hin)
      have HF : Hid (∀ e w', PutPost base (.slice ma (strV m).length mc) m l w e w' → ∃ lv', e = .returned (.tuple #[lv', .bool true]) ∧ Hid (AddPost base bb m h l w (.returned (.bool true)) (w'.setCell ⟨bb, 0, none⟩ lv')) ∧ (∃ x, w'.cell? ⟨bb, 0, none⟩ = some x) ∧ w'.frozen? ⟨bb, 0, none⟩ = false ∧ bb < w'.heap.size ∧ ∃ a n c, lv' = .slice a n c) := Lib.hid (by
        rintro e w' ⟨lv', rfl, h1, h2, h3⟩
        have hK := h2.block bb hbb (fun e => row_not hB.mr hB.blk e.symm)
        have hK' := hK.trans hB.blk
        obtain ⟨k1, _, k2, _⟩ := cells_two hK'
        refine ⟨lv', rfl, Lib.hid ⟨by rw [HT.out]; rfl, ⟨lv', .slice ha (strV h).length hc, ?_⟩, (kept_grown (bb := bb) hB.mr h2).setCell (p := ⟨bb, 0, none⟩) (.inl (.inl rfl)) _⟩, ⟨_, k1⟩, k2, Nat.lt_of_lt_of_le hbb h2.size, ?_⟩
        · rw [if_neg (by rw [HT.out]; decide), if_neg (by rw [HT.out]; decide)]
          unfold addM addH
          rw [hst, if_neg (by decide), if_neg (by decide)]
          refine BaseAt.set0 hK' h1 (hB.hr.kept (fun k hk => h2.block k (row_ge hB.hr hk).1 (fun e => hB.far k e.symm hk))) (fun k hk e => ?_)
          rcases h3 k hk with h4 | h4
          · exact hB.far k h4 e
          · have := (row_ge hB.hr e).1; omega
        · obtain ⟨a, c, e, _⟩ := h1.shape
          exact ⟨a, _, c, e⟩)
      generalize hPP : PutPost base (.slice ma (strV m).length mc) m l w = PP at *
      generalize (strV h).length = hn at *
      generalize (strV m).length = mn at *
      generalize bOf (Lib.trimSuffix l starL) = X at *
      generalize bOf l = Y at *
      generalize AddPost base bb m h l w = P at *
      clear hB HBk hst hin hm hh HT hPP
      go_enter Tryd.func13, Tryd.ntmps13
      go_wp2_with (first
        | (go_at_call 23; refine HP.out.mono ?_; intro e w' hq; obtain ⟨lv', rfl, hQ, ⟨x, hx⟩, hfz, hlt, pa, pn, pc, rfl⟩ := HF.out e w' hq; clear hq)
        | (go_at_call 22; refine (HC _).out.mono ?_; rintro e w' ⟨rfl, rfl⟩))
      all_goals (first | exact hQ.out | (go_ret; exact hQ.out))
end Go.Proofs.YtlnaepemkeodoaaDoor
