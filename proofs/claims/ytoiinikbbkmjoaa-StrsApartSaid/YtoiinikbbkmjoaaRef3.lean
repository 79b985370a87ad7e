/- Lists of words behind one another; what StrsSets keeps. -/
import Derived.Test.YtoiinikbbkmjoaaRef2
namespace Go.Proofs.Ytoiinikbbkmjoaa
open Go.RowKit
theorem words_app {w : World} {base : Nat} {vs us : List Value} {L M : List (List Int)} (h : WordsB w base vs L) (k : WordsB w base us M) : WordsB w base (vs ++ us) (L ++ M) := by
  have hl := h.1
  have hk := k.1
  refine ⟨by simp [hl, hk], fun i h1 h2 => ?_⟩
  by_cases c : i < vs.length
  · rw [List.getElem_append_left c, List.getElem_append_left (by omega)]
    exact h.2 i c (by omega)
  · rw [List.getElem_append_right (by omega), List.getElem_append_right (by omega)]
    have := k.2 (i - vs.length) (by simp at h1; omega) (by simp at h1; omega)
    simp only [hl] at this ⊢
    exact this
theorem wordsB_one {w : World} {base : Nat} {vs : List Value} {L : List (List Int)} (h : WordsB w base vs L) : ∀ u ∈ vs, u.oneCell' = true := fun u hu => by
  obtain ⟨i, hi, rfl⟩ := List.getElem_of_mem hu
  obtain ⟨a, c, hv, _⟩ := (h.2 i hi (by rw [← h.1]; exact hi)).shape
  rw [hv]; rfl
theorem append_words {w : World} {ops : Array Oper} {rest : List Oper} {o : Oper} {a : Act} {Q : Exit → Act → World → Prop} (hgd : o.guard = none) (s x : Operand)
    (ho : o.op = .call { callee := .builtin .append, args := #[s, x], argTypes := #[29, 29] })
    (rb base : Nat) (v : Value) (hs : a.eval s = v) (L : List (List Int)) (hm : MadeR rb base v L w) (xa : Option Addr) (xn xc : Nat) (M : List (List Int)) (hu : Made base (.slice xa xn xc) M w) (hx : a.eval x = .slice xa xn xc)
    (hl : L.length + M.length ≤ 1000000) (hbase : rb ≤ w.heap.size)
    (h : ∀ v' w', MadeR rb base v' (L ++ M) w' → Below rb w w' → wpList Try.prog ops Q rest (a.put o.dst v') w') : wpList Try.prog ops Q (o :: rest) a w := by
  obtain ⟨i0, hi0, hz0, hz1, hz2⟩ := info_parts info22
  obtain ⟨vs, hrow, hwd⟩ := hm
  obtain ⟨us, hrow2, hwd2⟩ := hu
  have hvl := hwd.1
  have hul := hwd2.1
  rcases hrow2.2 with ⟨hnil, h0⟩ | ⟨g, cap, cur, he, hg, hh, hle, hmx, hsz, htk⟩
  · injection hnil with e1 e2 e3
    subst e1 e2 e3
    have hM : M = [] := List.eq_nil_of_length_eq_zero (by omega)
    subst hM
    refine wpList_append_own_none hgd s x 29 ho rb 22 i0 1 Try.underlying29 hi0 v vs.length vs hs hrow hx ?_
    exact h v w ⟨vs, hrow, by rw [List.append_nil]; exact hwd⟩ (Below.refl _ _)
  · injection he with e1 e2 e3
    subst e1 e2 e3
    obtain ⟨_, _, _, _, _, _, hcell⟩ := row_cells hrow2
    refine wpList_append_own w hgd s x 29 ho rb 22 i0 (.slice none 0 0) 1 24 Try.underlying29 hi0 hz0 hz1 hz2 rfl (by omega) v vs.length vs hs hrow ⟨g, 0, none⟩ us.length xc us hx (by omega) (fun j u hj => by rw [addr_add]; exact hcell j u hj) (wordsB_one hwd2) (by simp only [maxLen]; omega) (by omega) hbase ?_
    intro v' w' hown hgrow _
    refine h v' w' ⟨vs ++ us, ?_, words_app (hwd.keep (fun _ _ hk => grown3 hrow hgrow hk)) (hwd2.keep (fun _ _ hk => grown3 hrow hgrow hk))⟩ ⟨hgrow.os, hgrow.tape, hgrow.output, hgrow.size, fun k hk => hgrow.block k (by omega) (fun e => by have := (row_ge hrow e.symm).2.1; omega)⟩
    show World.ownsRow _ _ _ _ _ _ _
    rw [List.length_append]
    exact hown
theorem ofL_id {L : List (List Int)} (h : Sorted L) : ofL L = L := sorted_unique (ofL_sorted _) h (fun _ => mem_ofL)
theorem ofL_both {X Y : List (List Int)} (h : Sorted X) : ofL (X ++ Y) = Y.foldl rAdd X := by
  have h2 := ofL_id h
  unfold ofL at h2 ⊢
  rw [List.foldl_append, h2]
/-- Two sets, and the reference's lists of them. -/
structure Sts (w0 w3 : World) (xb yb : Nat) (slv tlv : Value) (svs tvs : List Value) (X Y : List (List Int)) (xv yv : Value) (w : World) : Prop where
  s : SetAt xb slv svs X w
  t : SetAt yb tlv tvs Y w
  x : Made w3.heap.size xv X w
  y : Made w3.heap.size yv Y w
  b : Below w0.heap.size w0 w
  z : w3.heap.size ≤ w.heap.size
theorem Sts.go {w0 w3 w w' : World} {xb yb : Nat} {slv tlv : Value} {svs tvs : List Value} {X Y : List (List Int)} {xv yv : Value} (h : Sts w0 w3 xb yb slv tlv svs tvs X Y xv yv w) (k : Grow w w') : Sts w0 w3 xb yb slv tlv svs tvs X Y xv yv w' :=
  ⟨h.s.grow k, h.t.grow k, h.x.go k, h.y.go k, Grow.trans h.b k, Nat.le_trans h.z k.size⟩
end Go.Proofs.Ytoiinikbbkmjoaa
