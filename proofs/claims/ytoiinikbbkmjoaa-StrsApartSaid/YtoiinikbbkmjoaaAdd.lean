/- A word put into a set; whether it is in. -/
import Derived.Test.YtoiinikbbkmjoaaPlace
namespace Go.Proofs.Ytoiinikbbkmjoaa
open Go.RowKit
def Grow (a b : World) : Prop := Below a.heap.size a b
theorem Grow.trans {a b c : World} (h : Grow a b) (k : Grow b c) : Grow a c := Below.trans h (Below.mono k h.size)
theorem Grow.refl (a : World) : Grow a a := Below.refl _ _
def Lst (w : World) (a : Option Addr) (xs : List Int) : Prop := Ints w w.heap.size a xs
theorem Lst.go {a b : World} {x : Option Addr} {xs : List Int} (h : Lst a x xs) (k : Grow a b) : Lst b x xs := fun i hi => by
  obtain ⟨b, off, h1, h2, h3⟩ := Ints.below h k i hi
  exact ⟨b, off, h1, Nat.lt_of_lt_of_le h2 k.size, h3⟩
def PlacePost (L : List (List Int)) (xs : List Int) (w : World) (e : Ending) (w' : World) : Prop :=
  ∃ p, PlaceOK L xs p ∧ e = .returned (.tuple #[.int .i64 (p : Nat), .bool (decide (L[p]? = some xs))]) ∧ Grow w w'
set_option maxHeartbeats 1000000 in
theorem place_any {sb : Nat} {lv : Value} {vs : List Value} {L : List (List Int)} {a : Option Addr} {c : Nat} {xs : List Int} {w : World} (hs : SetAt sb lv vs L w)
    (hx : Lst w a xs) (hxl : xs.length ≤ 100000) (hL : ∀ y ∈ L, y.length ≤ 100000) (hn : L.length ≤ 100000) :
    Calls Try.prog 36 #[.pointer (some ⟨sb, 0, none⟩), .slice a xs.length c] w (PlacePost L xs w) := by
  have hmf : ∀ (fn : Fn) (first cap : Array Value) (w : World), (Instr.makeFunc fn first cap).run Try.prog w = .ok (.func fn first cap) w := fun _ _ _ _ => rfl
  have hg : Grow w ((w.alloc (.cells #[.pointer (some ⟨sb, 0, none⟩)] 31)).alloc (.cells #[.slice a xs.length c] 22)) := ((Below.refl _ _).alloc (Nat.le_refl _) _).alloc (by simp) _
  have hsb := lt_of_block hs.blk
  have HS := Lib.hid (hs.grow hg)
  have HX := Lib.hid (hx.go hg)
  have HG := Lib.hid hg
  obtain ⟨la, lc, rfl, hlc, -⟩ := hs.len
  have gL : ((w.alloc (.cells #[.pointer (some ⟨sb, 0, none⟩)] 31)).alloc (.cells #[.slice a xs.length c] 22)).cell? ⟨sb, 0, none⟩ = some (.slice la L.length lc) := cell_of_block HS.out.blk
  have h1 := heap_alloc_this (w.alloc (.cells #[.pointer (some ⟨sb, 0, none⟩)] 31)) (.cells #[.slice a xs.length c] 22)
  have h2 := heap_alloc_keep (o := .cells #[.slice a xs.length c] 22) (heap_alloc_this w (.cells #[.pointer (some ⟨sb, 0, none⟩)] 31))
  have HF := Lib.hid (find_any HS.out h1 h2 HX.out hxl hL hn)
  rw [World.size_alloc] at HF
  clear hs hx hg h1 h2
  go_enter Try.func36, Try.ntmps36
  go_wp2_with fail
  refine HF.out.mono ?_
  rintro e w1 ⟨p, hp, rfl, n, rfl⟩
  have HP := Lib.hid hp
  clear hp
  go_wp2
  go_ret2
  exact ⟨p, HP.out, rfl, HG.out.trans ⟨rfl, rfl, rfl, Nat.le_refl _, fun _ _ => rfl⟩⟩
set_option maxHeartbeats 1000000 in
theorem has_any {sb : Nat} {lv : Value} {vs : List Value} {L : List (List Int)} {a : Option Addr} {c : Nat} {xs : List Int} {w : World} (hs : SetAt sb lv vs L w)
    (hx : Lst w a xs) (hxl : xs.length ≤ 100000) (hL : ∀ y ∈ L, y.length ≤ 100000) (hn : L.length ≤ 100000) :
    Calls Try.prog 25 #[.pointer (some ⟨sb, 0, none⟩), .slice a xs.length c] w fun e w' => ∃ p, PlaceOK L xs p ∧ e = .returned (.bool (decide (L[p]? = some xs))) ∧ Grow w w' := by
  have HP := Lib.hid (place_any (c := c) hs hx hxl hL hn)
  clear hs hx
  go_enter Try.func25, Try.ntmps25
  go_wp2_with fail
  refine HP.out.mono ?_
  rintro e w1 ⟨p, hp, rfl, hg⟩
  have HX := Lib.hid (And.intro hp hg)
  clear hp hg
  go_wp2
  go_ret
  exact ⟨p, HX.out.1, rfl, HX.out.2⟩
def addL (L : List (List Int)) (xs : List Int) (p : Nat) : List (List Int) := if L[p]? = some xs then L else L.take p ++ [xs] ++ L.drop p
/-- What putting in leaves. -/
def AddPost (sb : Nat) (lv : Value) (L : List (List Int)) (xs : List Int) (w : World) (e : Ending) (w' : World) : Prop :=
  ∃ p, PlaceOK L xs p ∧ e = .returned (.bool (!decide (L[p]? = some xs))) ∧ ∃ lv' vs', SetAt sb lv' vs' (addL L xs p) w' ∧ Kept (fun k => k = sb ∨ lv.ownBlock = some k) w w' ∧ ∀ k, lv'.ownBlock = some k → lv.ownBlock = some k ∨ w.heap.size ≤ k
theorem words_insert {w : World} {vs : List Value} {L : List (List Int)} {v : Value} {xs : List Int} {p : Nat} (h : WordsAt w vs L) (hp : p ≤ L.length) (hv : Own w 0 v xs) : WordsAt w (insL vs p v) (L.take p ++ [xs] ++ L.drop p) := by
  have hl := h.1
  refine ⟨by rw [insL_len]; simp; omega, fun i h1 h2 => ?_⟩
  have e1 : (insL vs p v)[i]? = some (insL vs p v)[i] := List.getElem?_eq_getElem h1
  have e2 : (L.take p ++ [xs] ++ L.drop p)[i]? = some (L.take p ++ [xs] ++ L.drop p)[i] := List.getElem?_eq_getElem h2
  have hg : (L.take p ++ [xs] ++ L.drop p)[i]? = if i < p then L[i]? else if i = p then some xs else L[i - 1]? := by
    have hlp : (L.take p).length = p := by simp; omega
    rw [List.append_assoc]
    by_cases h1 : i < p
    · rw [if_pos h1, List.getElem?_append_left (by omega), List.getElem?_take, if_pos h1]
    · rw [if_neg h1, List.getElem?_append_right (by omega), hlp]
      by_cases h2 : i = p
      · rw [if_pos h2, h2, Nat.sub_self]; rfl
      · rw [if_neg h2]
        obtain ⟨k, hk⟩ : ∃ k, i - p = k + 1 := ⟨i - p - 1, by omega⟩
        rw [hk, List.singleton_append, List.getElem?_cons_succ, List.getElem?_drop]
        congr 1
        omega
  rw [insL_get v (by omega)] at e1
  rw [hg] at e2
  rw [insL_len] at h1
  by_cases c1 : i < p
  · rw [if_pos c1] at e1 e2
    rw [List.getElem?_eq_getElem (by omega)] at e1 e2
    injection e1 with e1; injection e2 with e2
    rw [← e1, ← e2]
    exact h.2 i _ _
  · rw [if_neg c1] at e1 e2
    by_cases c2 : i = p
    · rw [if_pos c2] at e1 e2
      injection e1 with e1; injection e2 with e2
      rw [← e1, ← e2]
      exact hv
    · rw [if_neg c2] at e1 e2
      rw [List.getElem?_eq_getElem (by omega)] at e1 e2
      injection e1 with e1; injection e2 with e2
      rw [← e1, ← e2]
      exact h.2 (i - 1) _ _
theorem set_after {sb : Nat} {lv lv' v : Value} {vs : List Value} {L : List (List Int)} {xs : List Int} {p : Nat} {X X' : World} (h : SetAt sb lv vs L X) (hv : Own X 0 v xs) (hp : p ≤ L.length)
    (hrow : Row X' 0 lv' (insL vs p v)) (hg : X.grownBy X' lv.ownBlock) (hat : ∀ k, lv'.ownBlock = some k → lv.ownBlock = some k ∨ X.heap.size ≤ k) :
    SetAt sb lv' (insL vs p v) (L.take p ++ [xs] ++ L.drop p) (X'.setCell ⟨sb, 0, none⟩ lv') ∧ Kept (fun k => k = sb ∨ lv.ownBlock = some k) X (X'.setCell ⟨sb, 0, none⟩ lv') := by
  have hsb := lt_of_block h.blk
  have hne : lv.ownBlock ≠ some sb := fun e => by
    obtain ⟨_, _, cs, h2⟩ := row_ge h.row e
    rw [h.blk] at h2
    injection h2 with h2
    injection h2 with _ h3
    exact absurd h3 (by decide)
  have hk3 : ∀ (k : Nat) (cs : Array Value), X.heap[k]? = some (Obj.cells cs 3 (0, 0)) → (X'.setCell ⟨sb, 0, none⟩ lv').heap[k]? = X.heap[k]? := fun k cs hk => by
    have h1 : k ≠ sb := fun e => by
      rw [e, h.blk] at hk
      injection hk with hk
      injection hk with _ h3
      exact absurd h3 (by decide)
    have h2 : lv.ownBlock ≠ some k := fun e => by
      obtain ⟨_, _, cs, h2⟩ := row_ge h.row e
      rw [hk] at h2
      injection h2 with h2
      injection h2 with _ h3
      exact absurd h3 (by decide)
    exact (Below.heap_setCell _ _ _ _ (by simpa using h1)).trans (hg.block k (lt_of_block hk) (fun e => h2 e.symm))
  refine ⟨⟨?_, hrow.keep (fun k hk => ?_), ?_⟩, ?_⟩
  · have := heap_setCell_known (off := 0) (u := lv') ((hg.block sb hsb (fun e => hne e.symm)).trans h.blk)
    simpa using this
  · refine Below.heap_setCell _ _ _ _ ?_
    intro e
    simp only at e
    rcases hat k hk with h1 | h1
    · exact hne (by rw [h1, e])
    · omega
  · exact words_insert (h.words.keep hk3) hp (hv.kept (fun k hk => by
      rcases hv.2 with ⟨h1, _⟩ | ⟨g, cap, cur, h1, _, hh, _⟩
      · rw [h1] at hk; simp [Value.ownBlock] at hk
      · rw [h1] at hk
        have : g = k := by simpa [Value.ownBlock] using hk
        subst this
        exact hk3 g cur hh))
  · exact (Kept.setCell (S := fun k => k = sb ∨ lv.ownBlock = some k) (a := X) ⟨hg.os, hg.tape, hg.output, hg.size, fun k hk hs => hg.block k hk (fun e => hs (.inr e.symm))⟩ (.inl (.inl rfl)) lv')
theorem row_lit {w : World} {base : Nat} {lv : Value} {vs : List Value} {n : Nat} (h : Row w base lv vs) (hn : vs.length = n) : ∃ a c, lv = .slice a n c := by
  subst hn
  rcases h.2 with ⟨rfl, h0⟩ | ⟨g, cap, cur, rfl, _⟩
  · exact ⟨none, 0, by rw [h0]⟩
  · exact ⟨_, _, rfl⟩
set_option maxHeartbeats 4000000 in
theorem add_any {sb : Nat} {lv : Value} {vs : List Value} {L : List (List Int)} {a : Option Addr} {c : Nat} {xs : List Int} {w : World} (hs : SetAt sb lv vs L w)
    (hx : Lst w a xs) (hn0 : a = none → c = 0) (hxl : xs.length ≤ 100000) (hL : ∀ y ∈ L, y.length ≤ 100000) (hn : L.length ≤ 100000) (hv1 : ∀ u ∈ vs, u.oneCell' = true) :
    Calls Try.prog 29 #[.pointer (some ⟨sb, 0, none⟩), .slice a xs.length c] w (AddPost sb lv L xs w) := by
  have HP := Lib.hid (place_any (c := c) hs hx hxl hL hn)
  have HS := Lib.hid hs
  have HX := Lib.hid hx
  clear hs hx
  go_enter Try.func29, Try.ntmps29
  go_wp2_with fail
  refine HP.out.mono ?_
  rintro e w1 ⟨p, hp, rfl, hg⟩
  have HQ := Lib.hid (And.intro hp hg)
  clear hp hg HP
  by_cases hfd : L[p]? = some xs
  · rw [decide_eq_true hfd]
    have HFD := Lib.hid hfd
    clear hfd
    go_wp2
    go_ret
    exact ⟨p, HQ.out.1, by rw [decide_eq_true HFD.out]; rfl, lv, vs, by unfold addL; rw [if_pos HFD.out]; exact HS.out.grow HQ.out.2, kept_of_below HQ.out.2 _, fun k hk => .inl hk⟩
  · rw [decide_eq_false hfd]
    have HFD := Lib.hid hfd
    clear hfd
    have HS1 := Lib.hid (HS.out.grow HQ.out.2)
    have HX1 := Lib.hid (HX.out.go HQ.out.2)
    obtain ⟨la, lc, rfl, hlc, -⟩ := HS.out.len
    have gL : w1.cell? ⟨sb, 0, none⟩ = some (.slice la L.length lc) := cell_of_block HS1.out.blk
    have fL : w1.frozen? ⟨sb, 0, none⟩ = false := free_of_block HS1.out.blk
    have hsb := lt_of_block HS1.out.blk
    have HNS : Hid ((Value.slice la L.length lc).ownBlock ≠ some sb) := Lib.hid (fun e => by
      obtain ⟨_, _, cs, h2⟩ := row_ge HS1.out.row e
      rw [HS1.out.blk] at h2
      injection h2 with h2
      injection h2 with _ h3
      exact absurd h3 (by decide))
    have HC := Lib.hid (clone_any (w := w1.drew) (cap := c) HX1.out hn0 (by omega))
    go_wp2
    go_region_law (first
      | (go_simp; go_at_call 37; refine (insert_any (nb := w2.heap.size) (i := p) HR3.out (Nat.zero_le _) HN3.out HNE.out rfl hv1 HPL.out HVL.out).mono ?_; rintro e x3 ⟨lv', rfl, hrow, hgr, hat⟩
         have HI := Lib.hid (And.intro hrow (And.intro hgr hat))
         have hA := set_after HS3.out HO3.out HQ.out.1.1 hrow hgr hat
         have HA := Lib.hid hA
         have gL3 : x3.cell? ⟨sb, 0, none⟩ = some (.slice la L.length lc) := (World.cell?_of_block (hgr.block sb (by simp; omega) (fun e => HNS.out e.symm))).trans ((below_cell ((Below.refl w2.heap.size w2).alloc (Nat.le_refl _) _) hsb2).trans gL2)
         have fL3 : x3.frozen? ⟨sb, 0, none⟩ = false := (World.frozen?_of_block (hgr.block sb (by simp; omega) (fun e => HNS.out e.symm))).trans ((World.frozen?_of_block (Below.heap_alloc _ _ _ hsb2)).trans fL2)
         obtain ⟨la', lc', rfl⟩ : ∃ la' lc', lv' = .slice la' (vs.length + 1) lc' := row_lit hrow (insL_len _ _ _)
         clear hrow hgr hat hA)
      | (go_simp; go_at_call 33; refine HC.out.mono ?_; rintro e w2 ⟨v, rfl, hown, hb⟩
         obtain ⟨va, vc, rfl, -, -, -, -⟩ := hown.shape
         have hg2 : Grow w1 w2 := ⟨hb.os, hb.tape, hb.output, hb.size, hb.block⟩
         have hg3 : Grow w1 (w2.alloc (.cells #[.slice va xs.length vc] 22)) := hg2.trans ((Below.refl _ _).alloc (Nat.le_refl _) _)
         have HS3 := Lib.hid (HS1.out.grow hg3)
         have HR3 := Lib.hid HS3.out.row
         have HN3 := Lib.hid (heap_alloc_this w2 (.cells #[.slice va xs.length vc] 22))
         have HNE : Hid ((Value.slice la L.length lc).ownBlock ≠ some w2.heap.size) := Lib.hid (fun e => by have h1 := (row_ge (HS1.out.grow hg2).row e).1; omega)
         have HPL : Hid (p ≤ vs.length) := Lib.hid (by have := HQ.out.1.1; have := HS.out.words.1; omega)
         have HVL : Hid (vs.length ≤ 100000) := Lib.hid (by have := HS.out.words.1; omega)
         have HO3 := Lib.hid (own_mono (hown.alloc (.cells #[.slice va xs.length vc] 22)) (Nat.zero_le _))
         have HG3 := Lib.hid hg3
         have gL2 : w2.cell? ⟨sb, 0, none⟩ = some (.slice la L.length lc) := (below_cell hg2 hsb).trans gL
         have fL2 : w2.frozen? ⟨sb, 0, none⟩ = false := free_of_block (HS1.out.grow hg2).blk
         have hsb2 : sb < w2.heap.size := Nat.lt_of_lt_of_le hsb hg2.size
         clear hown hb hg2 hg3))
    all_goals
      go_wp2
      go_ret
      have e1 : addL L xs p = L.take p ++ [xs] ++ L.drop p := by unfold addL; rw [if_neg HFD.out]
      refine ⟨p, HQ.out.1, by rw [decide_eq_false HFD.out]; rfl, _, _, by rw [e1]; exact HA.out.1, ?_, fun k hk => ?_⟩
      · exact (kept_of_below (HQ.out.2.trans HG3.out) _).trans HA.out.2
      · rcases HI.out.2.2 k hk with h | h
        · exact .inl h
        · have := HQ.out.2.size
          have := HG3.out.size
          exact .inr (by omega)
end Go.Proofs.Ytoiinikbbkmjoaa
