/- Sets of words: put in, in order, times -/
import Derived.Test.YtmiiolgbjicocaaS2
namespace Go.Proofs.Ytmiiolgbjicocaa
open Go.RowKit
def Grow (a b : World) : Prop := Below a.heap.size a b
theorem Grow.trans {a b c : World} (h : Grow a b) (k : Grow b c) : Grow a c := Below.trans h (Below.mono k h.size)
theorem Grow.refl (a : World) : Grow a a := Below.refl _ _
def Lst (w : World) (a : Option Addr) (xs : List Int) : Prop := Ints w w.heap.size a xs
theorem Lst.go {a b : World} {x : Option Addr} {xs : List Int} (h : Lst a x xs) (k : Grow a b) : Lst b x xs := fun i hi => by
  obtain ⟨b, off, h1, h2, h3⟩ := Ints.below h k i hi
  exact ⟨b, off, h1, Nat.lt_of_lt_of_le h2 k.size, h3⟩
def PlacePost (L : List (List Int)) (xs : List Int) (w : World) (e : Ending) (w' : World) : Prop :=
  ∃ p, PlaceOK L xs p ∧ e = .returned (.tuple #[.int .i64 (p : Nat), .bool (decide (L[p]? = some xs))]) ∧ Grow w w'
set_option maxHeartbeats 1000000 in
theorem place_any {sb : Nat} {lv : Value} {vs : List Value} {L : List (List Int)} {a : Option Addr} {c : Nat} {xs : List Int} {w : World} (hs : SetAt sb lv vs L w)
    (hx : Lst w a xs) (hxl : xs.length ≤ 100000) (hL : ∀ y ∈ L, y.length ≤ 100000) (hn : L.length ≤ 100000) :
    Calls Try.prog 79 #[.pointer (some ⟨sb, 0, none⟩), .slice a xs.length c] w (PlacePost L xs w) := by
  have hmf : ∀ (fn : Fn) (first cap : Array Value) (w : World), (Instr.makeFunc fn first cap).run Try.prog w = .ok (.func fn first cap) w := fun _ _ _ _ => rfl
  have hg : Grow w ((w.alloc (.cells #[.pointer (some ⟨sb, 0, none⟩)] 81)).alloc (.cells #[.slice a xs.length c] 26)) := ((Below.refl _ _).alloc (Nat.le_refl _) _).alloc (by simp) _
  have hsb := lt_of_block hs.blk
  have HS := Lib.hid (hs.grow hg)
  have HX := Lib.hid (hx.go hg)
  have HG := Lib.hid hg
  obtain ⟨la, lc, rfl, hlc, -⟩ := hs.len
  have gL : ((w.alloc (.cells #[.pointer (some ⟨sb, 0, none⟩)] 81)).alloc (.cells #[.slice a xs.length c] 26)).cell? ⟨sb, 0, none⟩ = some (.slice la L.length lc) := cell_of_block HS.out.blk
  have h1 := heap_alloc_this (w.alloc (.cells #[.pointer (some ⟨sb, 0, none⟩)] 81)) (.cells #[.slice a xs.length c] 26)
  have h2 := heap_alloc_keep (o := .cells #[.slice a xs.length c] 26) (heap_alloc_this w (.cells #[.pointer (some ⟨sb, 0, none⟩)] 81))
  have HF := Lib.hid (find_any HS.out h1 h2 HX.out hxl hL hn)
  rw [World.size_alloc] at HF
  clear hs hx hg h1 h2
  go_enter Try.func79, Try.ntmps79
  go_wp2_with fail
  refine HF.out.mono ?_
  rintro e w1 ⟨p, hp, rfl, n, rfl⟩
  have HP := Lib.hid hp
  clear hp
  go_wp2
  go_ret2
  exact ⟨p, HP.out, rfl, HG.out.trans ⟨rfl, rfl, rfl, Nat.le_refl _, fun _ _ => rfl⟩⟩
set_option maxHeartbeats 1000000 in
def addL (L : List (List Int)) (xs : List Int) (p : Nat) : List (List Int) := if L[p]? = some xs then L else L.take p ++ [xs] ++ L.drop p
/-- What putting in leaves. -/
def AddPost (sb : Nat) (lv : Value) (L : List (List Int)) (xs : List Int) (w : World) (e : Ending) (w' : World) : Prop :=
  ∃ p, PlaceOK L xs p ∧ e = .returned (.bool (!decide (L[p]? = some xs))) ∧ ∃ lv' vs', SetAt sb lv' vs' (addL L xs p) w' ∧ Kept (fun k => k = sb ∨ lv.ownBlock = some k) w w' ∧ ∀ k, lv'.ownBlock = some k → lv.ownBlock = some k ∨ w.heap.size ≤ k
theorem words_insert {w : World} {vs : List Value} {L : List (List Int)} {v : Value} {xs : List Int} {p : Nat} (h : WordsAt w vs L) (hp : p ≤ L.length) (hv : Own w 0 v xs) : WordsAt w (insL vs p v) (L.take p ++ [xs] ++ L.drop p) := by
  have hl := h.1
  refine ⟨by rw [insL_len]; simp; omega, fun i h1 h2 => ?_⟩
  have e1 : (insL vs p v)[i]? = some (insL vs p v)[i] := List.getElem?_eq_getElem h1
  have e2 : (L.take p ++ [xs] ++ L.drop p)[i]? = some (L.take p ++ [xs] ++ L.drop p)[i] := List.getElem?_eq_getElem h2
  have hg : (L.take p ++ [xs] ++ L.drop p)[i]? = if i < p then L[i]? else if i = p then some xs else L[i - 1]? := by
    have hlp : (L.take p).length = p := by simp; omega
    rw [List.append_assoc]
    by_cases h1 : i < p
    · rw [if_pos h1, List.getElem?_append_left (by omega), List.getElem?_take, if_pos h1]
    · rw [if_neg h1, List.getElem?_append_right (by omega), hlp]
      by_cases h2 : i = p
      · rw [if_pos h2, h2, Nat.sub_self]; rfl
      · rw [if_neg h2]
        obtain ⟨k, hk⟩ : ∃ k, i - p = k + 1 := ⟨i - p - 1, by omega⟩
        rw [hk, List.singleton_append, List.getElem?_cons_succ, List.getElem?_drop]
        congr 1
        omega
  rw [insL_get v (by omega)] at e1
  rw [hg] at e2
  rw [insL_len] at h1
  by_cases c1 : i < p
  · rw [if_pos c1] at e1 e2
    rw [List.getElem?_eq_getElem (by omega)] at e1 e2
    injection e1 with e1; injection e2 with e2
    rw [← e1, ← e2]
    exact h.2 i _ _
  · rw [if_neg c1] at e1 e2
    by_cases c2 : i = p
    · rw [if_pos c2] at e1 e2
      injection e1 with e1; injection e2 with e2
      rw [← e1, ← e2]
      exact hv
    · rw [if_neg c2] at e1 e2
      rw [List.getElem?_eq_getElem (by omega)] at e1 e2
      injection e1 with e1; injection e2 with e2
      rw [← e1, ← e2]
      exact h.2 (i - 1) _ _
theorem set_after {sb : Nat} {lv lv' v : Value} {vs : List Value} {L : List (List Int)} {xs : List Int} {p : Nat} {X X' : World} (h : SetAt sb lv vs L X) (hv : Own X 0 v xs) (hp : p ≤ L.length)
    (hrow : Row X' 0 lv' (insL vs p v)) (hg : X.grownBy X' lv.ownBlock) (hat : ∀ k, lv'.ownBlock = some k → lv.ownBlock = some k ∨ X.heap.size ≤ k) :
    SetAt sb lv' (insL vs p v) (L.take p ++ [xs] ++ L.drop p) (X'.setCell ⟨sb, 0, none⟩ lv') ∧ Kept (fun k => k = sb ∨ lv.ownBlock = some k) X (X'.setCell ⟨sb, 0, none⟩ lv') := by
  have hsb := lt_of_block h.blk
  have hne : lv.ownBlock ≠ some sb := fun e => by
    obtain ⟨_, _, cs, h2⟩ := row_ge h.row e
    rw [h.blk] at h2
    injection h2 with h2
    injection h2 with _ h3
    exact absurd h3 (by decide)
  have hk3 : ∀ (k : Nat) (cs : Array Value), X.heap[k]? = some (Obj.cells cs 3 (0, 0)) → (X'.setCell ⟨sb, 0, none⟩ lv').heap[k]? = X.heap[k]? := fun k cs hk => by
    have h1 : k ≠ sb := fun e => by
      rw [e, h.blk] at hk
      injection hk with hk
      injection hk with _ h3
      exact absurd h3 (by decide)
    have h2 : lv.ownBlock ≠ some k := fun e => by
      obtain ⟨_, _, cs, h2⟩ := row_ge h.row e
      rw [hk] at h2
      injection h2 with h2
      injection h2 with _ h3
      exact absurd h3 (by decide)
    exact (Below.heap_setCell _ _ _ _ (by simpa using h1)).trans (hg.block k (lt_of_block hk) (fun e => h2 e.symm))
  refine ⟨⟨?_, hrow.keep (fun k hk => ?_), ?_⟩, ?_⟩
  · have := heap_setCell_known (off := 0) (u := lv') ((hg.block sb hsb (fun e => hne e.symm)).trans h.blk)
    simpa using this
  · refine Below.heap_setCell _ _ _ _ ?_
    intro e
    simp only at e
    rcases hat k hk with h1 | h1
    · exact hne (by rw [h1, e])
    · omega
  · exact words_insert (h.words.keep hk3) hp (hv.kept (fun k hk => by
      rcases hv.2 with ⟨h1, _⟩ | ⟨g, cap, cur, h1, _, hh, _⟩
      · rw [h1] at hk; simp [Value.ownBlock] at hk
      · rw [h1] at hk
        have : g = k := by simpa [Value.ownBlock] using hk
        subst this
        exact hk3 g cur hh))
  · exact (Kept.setCell (S := fun k => k = sb ∨ lv.ownBlock = some k) (a := X) ⟨hg.os, hg.tape, hg.output, hg.size, fun k hk hs => hg.block k hk (fun e => hs (.inr e.symm))⟩ (.inl (.inl rfl)) lv')
theorem row_lit {w : World} {base : Nat} {lv : Value} {vs : List Value} {n : Nat} (h : Row w base lv vs) (hn : vs.length = n) : ∃ a c, lv = .slice a n c := by
  subst hn
  rcases h.2 with ⟨rfl, h0⟩ | ⟨g, cap, cur, rfl, _⟩
  · exact ⟨none, 0, by rw [h0]⟩
  · exact ⟨_, _, rfl⟩
set_option maxHeartbeats 4000000 in
theorem add_any {sb : Nat} {lv : Value} {vs : List Value} {L : List (List Int)} {a : Option Addr} {c : Nat} {xs : List Int} {w : World} (hs : SetAt sb lv vs L w)
    (hx : Lst w a xs) (hn0 : a = none → c = 0) (hxl : xs.length ≤ 100000) (hL : ∀ y ∈ L, y.length ≤ 100000) (hn : L.length ≤ 100000) (hv1 : ∀ u ∈ vs, u.oneCell' = true) :
    Calls Try.prog 60 #[.pointer (some ⟨sb, 0, none⟩), .slice a xs.length c] w (AddPost sb lv L xs w) := by
  have HP := Lib.hid (place_any (c := c) hs hx hxl hL hn)
  have HS := Lib.hid hs
  have HX := Lib.hid hx
  clear hs hx
  go_enter Try.func60, Try.ntmps60
  go_wp2_with fail
  refine HP.out.mono ?_
  rintro e w1 ⟨p, hp, rfl, hg⟩
  have HQ := Lib.hid (And.intro hp hg)
  clear hp hg HP
  by_cases hfd : L[p]? = some xs
  · rw [decide_eq_true hfd]
    have HFD := Lib.hid hfd
    clear hfd
    go_wp2
    go_ret
    exact ⟨p, HQ.out.1, by rw [decide_eq_true HFD.out]; rfl, lv, vs, by unfold addL; rw [if_pos HFD.out]; exact HS.out.grow HQ.out.2, kept_of_below HQ.out.2 _, fun k hk => .inl hk⟩
  · rw [decide_eq_false hfd]
    have HFD := Lib.hid hfd
    clear hfd
    have HS1 := Lib.hid (HS.out.grow HQ.out.2)
    have HX1 := Lib.hid (HX.out.go HQ.out.2)
    obtain ⟨la, lc, rfl, hlc, -⟩ := HS.out.len
    have gL : w1.cell? ⟨sb, 0, none⟩ = some (.slice la L.length lc) := cell_of_block HS1.out.blk
    have fL : w1.frozen? ⟨sb, 0, none⟩ = false := free_of_block HS1.out.blk
    have hsb := lt_of_block HS1.out.blk
    have HNS : Hid ((Value.slice la L.length lc).ownBlock ≠ some sb) := Lib.hid (fun e => by
      obtain ⟨_, _, cs, h2⟩ := row_ge HS1.out.row e
      rw [HS1.out.blk] at h2
      injection h2 with h2
      injection h2 with _ h3
      exact absurd h3 (by decide))
    have HC := Lib.hid (clone_any (w := w1.drew) (cap := c) HX1.out hn0 (by omega))
    go_wp2
    go_region_law (first
      | (go_simp; go_at_call 80; refine (insert_any (nb := w2.heap.size) (i := p) HR3.out (Nat.zero_le _) HN3.out HNE.out rfl hv1 HPL.out HVL.out).mono ?_; rintro e x3 ⟨lv', rfl, hrow, hgr, hat⟩
         have HI := Lib.hid (And.intro hrow (And.intro hgr hat))
         have hA := set_after HS3.out HO3.out HQ.out.1.1 hrow hgr hat
         have HA := Lib.hid hA
         have gL3 : x3.cell? ⟨sb, 0, none⟩ = some (.slice la L.length lc) := (World.cell?_of_block (hgr.block sb (by simp; omega) (fun e => HNS.out e.symm))).trans ((below_cell ((Below.refl w2.heap.size w2).alloc (Nat.le_refl _) _) hsb2).trans gL2)
         have fL3 : x3.frozen? ⟨sb, 0, none⟩ = false := (World.frozen?_of_block (hgr.block sb (by simp; omega) (fun e => HNS.out e.symm))).trans ((World.frozen?_of_block (Below.heap_alloc _ _ _ hsb2)).trans fL2)
         obtain ⟨la', lc', rfl⟩ : ∃ la' lc', lv' = .slice la' (vs.length + 1) lc' := row_lit hrow (insL_len _ _ _)
         clear hrow hgr hat hA)
      | (go_simp; go_at_call 66; refine HC.out.mono ?_; rintro e w2 ⟨v, rfl, hown, hb⟩
         obtain ⟨va, vc, rfl, -, -, -, -⟩ := hown.shape
         have hg2 : Grow w1 w2 := ⟨hb.os, hb.tape, hb.output, hb.size, hb.block⟩
         have hg3 : Grow w1 (w2.alloc (.cells #[.slice va xs.length vc] 26)) := hg2.trans ((Below.refl _ _).alloc (Nat.le_refl _) _)
         have HS3 := Lib.hid (HS1.out.grow hg3)
         have HR3 := Lib.hid HS3.out.row
         have HN3 := Lib.hid (heap_alloc_this w2 (.cells #[.slice va xs.length vc] 26))
         have HNE : Hid ((Value.slice la L.length lc).ownBlock ≠ some w2.heap.size) := Lib.hid (fun e => by have h1 := (row_ge (HS1.out.grow hg2).row e).1; omega)
         have HPL : Hid (p ≤ vs.length) := Lib.hid (by have := HQ.out.1.1; have := HS.out.words.1; omega)
         have HVL : Hid (vs.length ≤ 100000) := Lib.hid (by have := HS.out.words.1; omega)
         have HO3 := Lib.hid (own_mono (hown.alloc (.cells #[.slice va xs.length vc] 26)) (Nat.zero_le _))
         have HG3 := Lib.hid hg3
         have gL2 : w2.cell? ⟨sb, 0, none⟩ = some (.slice la L.length lc) := (below_cell hg2 hsb).trans gL
         have fL2 : w2.frozen? ⟨sb, 0, none⟩ = false := free_of_block (HS1.out.grow hg2).blk
         have hsb2 : sb < w2.heap.size := Nat.lt_of_lt_of_le hsb hg2.size
         clear hown hb hg2 hg3))
    all_goals
      go_wp2
      go_ret
      have e1 : addL L xs p = L.take p ++ [xs] ++ L.drop p := by unfold addL; rw [if_neg HFD.out]
      refine ⟨p, HQ.out.1, by rw [decide_eq_false HFD.out]; rfl, _, _, by rw [e1]; exact HA.out.1, ?_, fun k hk => ?_⟩
      · exact (kept_of_below (HQ.out.2.trans HG3.out) _).trans HA.out.2
      · rcases HI.out.2.2 k hk with h | h
        · exact .inl h
        · have := HQ.out.2.size
          have := HG3.out.size
          exact .inr (by omega)
end Go.Proofs.Ytmiiolgbjicocaa
namespace Go.Proofs.Ytmiiolgbjicocaa
open Go.RowKit
theorem lessL_trans : ∀ {a b c : List Int}, lessL a b = true → lessL b c = true → lessL a c = true
  | [], [], _, h, _ => by simp [lessL] at h
  | _ :: _, [], _, h, _ => by simp [lessL] at h
  | [], _ :: _, [], _, h2 => by simp [lessL] at h2
  | [], _ :: _, _ :: _, _, _ => by simp [lessL]
  | _ :: _, _ :: _, [], _, h2 => by simp [lessL] at h2
  | x :: a, y :: b, z :: c, h, h2 => by
    unfold lessL at h h2 ⊢
    by_cases e1 : x = y
    · rw [if_pos e1] at h
      by_cases e2 : y = z
      · rw [if_pos e2] at h2
        rw [if_pos (e1.trans e2)]
        exact lessL_trans h h2
      · rw [if_neg e2] at h2
        rw [if_neg (by omega)]
        rw [e1]; exact h2
    · rw [if_neg e1] at h
      by_cases e2 : y = z
      · rw [if_pos e2] at h2
        rw [if_neg (by omega)]
        rw [← e2]; exact h
      · rw [if_neg e2] at h2
        simp only [decide_eq_true_eq] at h h2
        rw [if_neg (by omega)]
        simp only [decide_eq_true_eq]
        omega
theorem lessL_irr (a : List Int) : lessL a a = false := by
  have := lessL_same a a
  simpa using this
theorem lessL_tri (a b : List Int) : lessL a b = true ∨ a = b ∨ lessL b a = true := by
  have := lessL_same a b
  cases h1 : lessL a b
  · cases h2 : lessL b a
    · rw [h1, h2] at this; simp at this; exact .inr (.inl this)
    · exact .inr (.inr rfl)
  · exact .inl rfl
theorem cmpL_pos {a b : List Int} : 0 < cmpL a b ↔ lessL b a = true := by
  unfold cmpL
  rcases lessL_tri a b with h | h | h
  · rw [if_pos h]
    constructor
    · intro h2; omega
    · intro h2; have := lessL_trans h h2; rw [lessL_irr] at this; simp at this
  · subst h; rw [lessL_irr]; simp
  · have h1 : lessL a b = false := by
      cases h3 : lessL a b
      · rfl
      · have := lessL_trans h h3; rw [lessL_irr] at this; simp at this
    have h2 : a ≠ b := fun e => by subst e; rw [h] at h1; simp at h1
    rw [if_neg (by rw [h1]; simp), if_neg h2]
    simp [h]
def Sorted (L : List (List Int)) : Prop := ∀ (i j : Nat) (a b : List Int), i < j → L[i]? = some a → L[j]? = some b → lessL a b = true
/-- Where a word comes, by the document: ahead of the first that it stands ahead of. -/
def spot (L : List (List Int)) (a : List Int) : Nat := L.findIdx (fun b => lessL a b)
def rAdd (L : List (List Int)) (a : List Int) : List (List Int) := if a ∈ L then L else L.take (spot L a) ++ [a] ++ L.drop (spot L a)
theorem place_spot {L : List (List Int)} {a : List Int} {p : Nat} (hs : Sorted L) (hp : PlaceOK L a p) : addL L a p = rAdd L a := by
  obtain ⟨hle, h1, h2⟩ := hp
  have hlow : ∀ j b, j < p → L[j]? = some b → lessL b a = true := fun j b hj hb => by
    obtain ⟨q, rfl⟩ : ∃ q, p = q + 1 := ⟨p - 1, by omega⟩
    obtain ⟨y, hy, hc⟩ := h1 q rfl
    rw [cmpL_pos] at hc
    by_cases e : j = q
    · subst e; rw [hy] at hb; injection hb with hb; rw [← hb]; exact hc
    · exact lessL_trans (hs j q b y (by omega) hb hy) hc
  have hhigh : ∀ j b, p ≤ j → L[j]? = some b → lessL b a = false := fun j b hj hb => by
    have hlt : p < L.length := by have := (List.getElem?_eq_some_iff.1 hb).1; omega
    have hy := h2 _ (List.getElem?_eq_getElem hlt)
    have hy2 : lessL L[p] a = false := by
      cases h : lessL L[p] a
      · rfl
      · have := cmpL_pos.2 h; omega
    by_cases e : j = p
    · subst e; rw [List.getElem?_eq_getElem hlt] at hb; injection hb with hb; rw [← hb]; exact hy2
    · have h3 := hs p j _ b (by omega) (List.getElem?_eq_getElem hlt) hb
      cases h : lessL b a
      · rfl
      · have := lessL_trans h3 h; rw [hy2] at this; simp at this
  unfold addL rAdd
  by_cases hm : a ∈ L
  · rw [if_pos hm]
    obtain ⟨j, hj, hja⟩ := List.getElem_of_mem hm
    have hjs : L[j]? = some a := by rw [List.getElem?_eq_getElem hj, hja]
    have hjp : j = p := by
      rcases Nat.lt_trichotomy j p with h | h | h
      · have := hlow j a h hjs; rw [lessL_irr] at this; simp at this
      · exact h
      · have hlt : p < L.length := by omega
        have h3 := hs p j _ a h (List.getElem?_eq_getElem hlt) hjs
        have := hhigh p _ (Nat.le_refl _) (List.getElem?_eq_getElem hlt)
        rw [h3] at this; simp at this
    rw [if_pos (by rw [← hjp]; exact hjs)]
  · rw [if_neg hm]
    have hn : L[p]? ≠ some a := fun h => hm (by obtain ⟨h1, h2⟩ := List.getElem?_eq_some_iff.1 h; rw [← h2]; exact List.getElem_mem h1)
    rw [if_neg hn]
    have hsp : spot L a = p := by
      unfold spot
      refine Nat.le_antisymm ?_ ?_
      · by_cases hlt : p < L.length
        · refine Nat.le_of_not_lt (fun h => ?_)
          have := List.not_of_lt_findIdx h
          have h3 := hhigh p _ (Nat.le_refl _) (List.getElem?_eq_getElem hlt)
          rcases lessL_tri a L[p] with h4 | h4 | h4
          · rw [h4] at this; simp at this
          · exact hn (by rw [List.getElem?_eq_getElem hlt, ← h4])
          · rw [h4] at h3; simp at h3
        · exact Nat.le_trans List.findIdx_le_length (by omega)
      · refine Nat.le_of_not_lt (fun h => ?_)
        have hlt : L.findIdx (fun b => lessL a b) < L.length := by omega
        have h3 := List.findIdx_getElem (w := hlt) (p := fun b => lessL a b) (xs := L)
        have h4 := hlow _ _ h (List.getElem?_eq_getElem hlt)
        have := lessL_trans h4 h3
        rw [lessL_irr] at this; simp at this
    rw [hsp]
theorem ins_get {α : Type} {L : List α} {p : Nat} (x : α) (hp : p ≤ L.length) (i : Nat) : (L.take p ++ [x] ++ L.drop p)[i]? = if i < p then L[i]? else if i = p then some x else L[i - 1]? := by
  have hlp : (L.take p).length = p := by simp; omega
  rw [List.append_assoc]
  by_cases h1 : i < p
  · rw [if_pos h1, List.getElem?_append_left (by omega), List.getElem?_take, if_pos h1]
  · rw [if_neg h1, List.getElem?_append_right (by omega), hlp]
    by_cases h2 : i = p
    · rw [if_pos h2, h2, Nat.sub_self]; rfl
    · rw [if_neg h2]
      obtain ⟨k, hk⟩ : ∃ k, i - p = k + 1 := ⟨i - p - 1, by omega⟩
      rw [hk, List.singleton_append, List.getElem?_cons_succ, List.getElem?_drop]
      congr 1
      omega
theorem rAdd_sorted {L : List (List Int)} (hs : Sorted L) (a : List Int) : Sorted (rAdd L a) := by
  unfold rAdd
  by_cases hm : a ∈ L
  · rw [if_pos hm]; exact hs
  · rw [if_neg hm]
    have hp : spot L a ≤ L.length := List.findIdx_le_length
    have hlow : ∀ j b, j < spot L a → L[j]? = some b → lessL b a = true := fun j b hj hb => by
      have h1 := List.not_of_lt_findIdx hj
      obtain ⟨hjl, hb2⟩ := List.getElem?_eq_some_iff.1 hb
      rcases lessL_tri a b with h | h | h
      · rw [hb2] at h1; rw [h] at h1; simp at h1
      · exact (hm (by rw [h, ← hb2]; exact List.getElem_mem hjl)).elim
      · exact h
    have hhigh : ∀ j b, spot L a ≤ j → L[j]? = some b → lessL a b = true := fun j b hj hb => by
      have hlt : spot L a < L.length := by have := (List.getElem?_eq_some_iff.1 hb).1; omega
      have h3 : lessL a L[spot L a] = true := List.findIdx_getElem (w := hlt) (p := fun b => lessL a b) (xs := L)
      by_cases e : j = spot L a
      · rw [e, List.getElem?_eq_getElem hlt] at hb; injection hb with hb; rw [← hb]; exact h3
      · exact lessL_trans h3 (hs _ j _ b (by omega) (List.getElem?_eq_getElem hlt) hb)
    generalize spot L a = p at *
    intro i j x y hij hx hy
    rw [ins_get a hp] at hx hy
    by_cases c1 : i < p
    · rw [if_pos c1] at hx
      by_cases c2 : j < p
      · rw [if_pos c2] at hy; exact hs i j x y hij hx hy
      · rw [if_neg c2] at hy
        by_cases c3 : j = p
        · rw [if_pos c3] at hy; injection hy with hy; rw [← hy]; exact hlow i x c1 hx
        · rw [if_neg c3] at hy; exact hs i (j - 1) x y (by omega) hx hy
    · rw [if_neg c1] at hx
      rw [if_neg (by omega), if_neg (by omega)] at hy
      by_cases c3 : i = p
      · rw [if_pos c3] at hx; injection hx with hx; rw [← hx]; exact hhigh (j - 1) y (by omega) hy
      · rw [if_neg c3] at hx; exact hs (i - 1) (j - 1) x y (by omega) hx hy
theorem mem_rAdd {L : List (List Int)} {a b : List Int} : b ∈ rAdd L a ↔ b ∈ L ∨ b = a := by
  unfold rAdd
  by_cases hm : a ∈ L
  · rw [if_pos hm]; exact ⟨.inl, fun h => h.elim id (fun e => e ▸ hm)⟩
  · rw [if_neg hm]
    have := List.take_append_drop (spot L a) L
    constructor
    · intro h
      simp only [List.mem_append, List.mem_singleton] at h
      rcases h with (h | h) | h
      · exact .inl (List.mem_of_mem_take h)
      · exact .inr h
      · exact .inl (List.mem_of_mem_drop h)
    · intro h
      simp only [List.mem_append, List.mem_singleton]
      rcases h with h | h
      · rw [← this] at h
        rcases List.mem_append.1 h with h | h
        · exact .inl (.inl h)
        · exact .inr h
      · exact .inl (.inr h)
theorem rAdd_len (L : List (List Int)) (a : List Int) : (rAdd L a).length ≤ L.length + 1 := by
  unfold rAdd
  split
  · omega
  · simp; omega
def ofL (Ls : List (List Int)) : List (List Int) := Ls.foldl rAdd []
theorem ofL_on {Ls : List (List Int)} {k : Nat} (hk : k < Ls.length) : ofL (Ls.take (k + 1)) = rAdd (ofL (Ls.take k)) Ls[k] := by
  unfold ofL
  rw [List.take_succ_eq_append_getElem hk, List.foldl_append]
  rfl
theorem foldl_sorted : ∀ (Ls L : List (List Int)), Sorted L → Sorted (Ls.foldl rAdd L)
  | [], _, h => h
  | a :: t, L, h => foldl_sorted t (rAdd L a) (rAdd_sorted h a)
theorem ofL_sorted (Ls : List (List Int)) : Sorted (ofL Ls) := foldl_sorted Ls [] (fun i j a b _ h _ => by simp at h)
theorem foldl_mem : ∀ (Ls L : List (List Int)) (b : List Int), b ∈ Ls.foldl rAdd L ↔ b ∈ L ∨ b ∈ Ls
  | [], L, b => by simp
  | a :: t, L, b => by
    rw [List.foldl_cons, foldl_mem t, mem_rAdd, List.mem_cons, or_assoc]
theorem mem_ofL {Ls : List (List Int)} {b : List Int} : b ∈ ofL Ls ↔ b ∈ Ls := by unfold ofL; rw [foldl_mem]; simp
theorem foldl_len : ∀ (Ls L : List (List Int)), (Ls.foldl rAdd L).length ≤ L.length + Ls.length
  | [], L => by simp
  | a :: t, L => by
    rw [List.foldl_cons, List.length_cons]
    have := foldl_len t (rAdd L a)
    have := rAdd_len L a
    omega
theorem ofL_len (Ls : List (List Int)) : (ofL Ls).length ≤ Ls.length := by have := foldl_len Ls []; unfold ofL; simpa using this
end Go.Proofs.Ytmiiolgbjicocaa
namespace Go.Proofs.Ytmiiolgbjicocaa
open Go.RowKit
theorem place_mem {L : List (List Int)} {a : List Int} {p : Nat} (hs : Sorted L) (hp : PlaceOK L a p) : L[p]? = some a ↔ a ∈ L := by
  constructor
  · intro h
    obtain ⟨h1, h2⟩ := List.getElem?_eq_some_iff.1 h
    rw [← h2]; exact List.getElem_mem h1
  · intro h
    have h1 := place_spot hs hp
    unfold addL rAdd at h1
    rw [if_pos h] at h1
    by_cases h2 : L[p]? = some a
    · exact h2
    · rw [if_neg h2] at h1
      have := congrArg List.length h1
      simp at this
      have := hp.1
      omega
/-- A set in blocks from base on. -/
def SetB (base sb : Nat) (L : List (List Int)) (w : World) : Prop := ∃ lv vs, SetAt sb lv vs L w ∧ Sorted L ∧ base ≤ sb ∧ ∀ k, lv.ownBlock = some k → base ≤ k
theorem SetB.go {base sb : Nat} {L : List (List Int)} {w w' : World} (h : SetB base sb L w) (k : Grow w w') : SetB base sb L w' := by
  obtain ⟨lv, vs, h1, h2⟩ := h
  exact ⟨lv, vs, h1.grow k, h2⟩
theorem words_one {w : World} {vs : List Value} {L : List (List Int)} (h : WordsAt w vs L) : ∀ u ∈ vs, u.oneCell' = true := fun u hu => by
  obtain ⟨i, hi, rfl⟩ := List.getElem_of_mem hu
  obtain ⟨a, c, hv, _⟩ := (h.2 i hi (by rw [← h.1]; exact hi)).shape
  rw [hv]; rfl
/-- Words of up to so many numbers. -/
def Short (L : List (List Int)) : Prop := ∀ y ∈ L, y.length ≤ 10000
theorem short_rAdd {L : List (List Int)} (h : Short L) {a : List Int} (ha : a.length ≤ 10000) : Short (rAdd L a) := fun y hy => by
  rcases mem_rAdd.1 hy with h1 | h1
  · exact h y h1
  · rw [h1]; exact ha
theorem add_set {base sb : Nat} {L : List (List Int)} {a : Option Addr} {c : Nat} {xs : List Int} {w : World} (hs : SetB base sb L w) (hB : base ≤ w.heap.size)
    (hx : Lst w a xs) (hn0 : a = none → c = 0) (hxl : xs.length ≤ 10000) (hL : Short L) (hn : L.length ≤ 10000) :
    Calls Try.prog 60 #[.pointer (some ⟨sb, 0, none⟩), .slice a xs.length c] w fun e w' => e = .returned (.bool (!decide (xs ∈ L))) ∧ SetB base sb (rAdd L xs) w' ∧ Below base w w' := by
  obtain ⟨lv, vs, h1, h2, h3, h4⟩ := hs
  refine (add_any h1 hx hn0 (by omega) (fun y hy => by have := hL y hy; omega) (by omega) (words_one h1.words)).mono ?_
  rintro e w' ⟨p, hp, rfl, lv', vs', h5, h6, h7⟩
  have hm : decide (L[p]? = some xs) = decide (xs ∈ L) := by rw [Bool.eq_iff_iff]; simp [place_mem h2 hp]
  rw [place_spot h2 hp] at h5
  refine ⟨by rw [hm], ⟨lv', vs', h5, rAdd_sorted h2 xs, h3, fun k hk => ?_⟩, h6.below hB (fun k hk hS => ?_)⟩
  · rcases h7 k hk with h | h
    · exact h4 k h
    · omega
  · rcases hS with h | h
    · omega
    · have := h4 k h; omega
/-- A list of words that can be read. -/
def Lsts (w : World) (a : Option Addr) (Ls : List (List Int)) : Prop :=
  ∀ i (h : i < Ls.length), ∃ b off ai di, a = some ⟨b, off, none⟩ ∧ b < w.heap.size ∧ w.cell? ⟨b, off + i, none⟩ = some (.slice ai Ls[i].length di) ∧ Lst w ai Ls[i] ∧ (ai = none → di = 0) ∧ Ls[i].length ≤ di
theorem Lsts.go {w w' : World} {a : Option Addr} {Ls : List (List Int)} (h : Lsts w a Ls) (k : Grow w w') : Lsts w' a Ls := fun i hi => by
  obtain ⟨b, off, ai, di, h1, h2, h3, h4, h5⟩ := h i hi
  exact ⟨b, off, ai, di, h1, Nat.lt_of_lt_of_le h2 k.size, by rw [below_cell k h2]; exact h3, h4.go k, h5⟩
theorem setB_new (w : World) : SetB w.heap.size w.heap.size [] (w.alloc (.cells #[.slice none 0 0] 108)) :=
  ⟨.slice none 0 0, [], ⟨heap_alloc_this _ _, World.ownsRow_nil _ _ _ _, rfl, fun i h => by simp at h⟩, fun i j a b _ h _ => by simp at h, Nat.le_refl _, fun k hk => by simp [Value.ownBlock] at hk⟩
theorem short_ofL {Ls : List (List Int)} (h : Short Ls) : Short (ofL Ls) := fun y hy => h y (mem_ofL.1 hy)
set_option maxHeartbeats 1000000 in
theorem of_any {a : Option Addr} {c : Nat} {Ls : List (List Int)} {w : World} (h : Lsts w a Ls) (hn : Ls.length ≤ 10000) (hL : Short Ls) :
    Calls Try.prog 31 #[.slice a Ls.length c] w fun e w' => ∃ sb, e = .returned (.pointer (some ⟨sb, 0, none⟩)) ∧ SetB w.heap.size sb (ofL Ls) w' ∧ Grow w w' := by
  have H := Lib.hid h
  clear h
  go_enter Try.func31, Try.ntmps31
  go_wp2
  go_loopw [10] (fun i wr => ∃ k : Nat, k ≤ Ls.length ∧ i = .int .i64 k ∧ Hid (SetB w.heap.size w.heap.size (ofL (Ls.take k)) wr ∧ Grow w wr)) (fun i _ => Ls.length - (intOf i).toNat)
  case atStart => exact ⟨0, by omega, rfl, setB_new w, (Below.refl _ _).alloc (Nat.le_refl _) _⟩
  case round =>
    obtain ⟨k, hk, rfl, hh⟩ := hrel
    by_cases hlt : k < Ls.length
    · have hki : (k : Int) < Ls.length := by omega
      obtain ⟨b, off, ai, di, rfl, hb, hc, hx, hd, hld⟩ := (H.out.go hh.out.2) k hlt
      have hsl : Short (ofL (Ls.take k)) := short_ofL (fun y hy => hL y (List.mem_of_mem_take hy))
      have hln := ofL_len (Ls.take k)
      simp only [List.length_take] at hln
      have HA := Lib.hid (add_set hh.out.1 hh.out.2.size hx hd (hL _ (List.getElem_mem hlt)) hsl (by omega) (c := di))
      have HE := Lib.hid (ofL_on hlt)
      clear hx hsl hln
      generalize Ls[k] = y at *
      go_wp2_with fail
      refine HA.out.mono ?_
      rintro e w2 ⟨rfl, hs2, hb2⟩
      have HX := Lib.hid (And.intro hs2 (Below.trans hh.out.2 hb2))
      clear hs2 hb2
      go_wp2
      go_roundw
      case rel => exact ⟨k + 1, by omega, by go_num, by rw [HE.out]; exact HX.out.1, HX.out.2⟩
      case measure => simp [intOf]; omega
    · have hki : ¬ (k : Int) < Ls.length := by omega
      have e : Ls.take k = Ls := List.take_of_length_le (by omega)
      rw [e] at hh
      go_wp2
      go_ret
      exact ⟨w.heap.size, rfl, hh.out.1, hh.out.2⟩
theorem len_any {base sb : Nat} {L : List (List Int)} {w : World} (h : SetB base sb L w) : Calls Try.prog 94 #[.pointer (some ⟨sb, 0, none⟩)] w fun e w' => e = .returned (.int .i64 (L.length : Nat)) ∧ w = w' := by
  obtain ⟨lv, vs, h1, -⟩ := h
  obtain ⟨la, lc, rfl, -, -⟩ := h1.len
  have g0 : w.cell? ⟨sb, 0, none⟩ = some (.slice la L.length lc) := cell_of_block h1.blk
  clear h1
  go_enter Try.func94, Try.ntmps94
  go_wp2
  go_ret
  exact ⟨rfl, rfl⟩
end Go.Proofs.Ytmiiolgbjicocaa
namespace Go.Proofs.Ytmiiolgbjicocaa
open Go.RowKit
def timesP (A B : List (List Int)) (k : Int) : List (List Int) := A.flatMap (fun a => B.map (fun b => joinL a b k))
def timesL (A B : List (List Int)) (k : Int) : List (List Int) := ofL (timesP A B k)
theorem ofL_snoc (P : List (List Int)) (x : List Int) : ofL (P ++ [x]) = rAdd (ofL P) x := by unfold ofL; rw [List.foldl_append]; rfl
theorem timesP_on {A B : List (List Int)} {k : Int} {i : Nat} (hi : i < A.length) : timesP (A.take (i + 1)) B k = timesP (A.take i) B k ++ B.map (fun b => joinL A[i] b k) := by
  unfold timesP
  rw [List.take_succ_eq_append_getElem hi, List.flatMap_append]
  simp
theorem ofL_rep (P : List (List Int)) (x : List Int) : ∀ n, ofL (P ++ List.replicate (n + 1) x) = rAdd (ofL P) x
  | 0 => ofL_snoc P x
  | n + 1 => by
    rw [List.replicate_succ', ← List.append_assoc, ofL_snoc, ofL_rep P x n]
    have : x ∈ rAdd (ofL P) x := mem_rAdd.2 (.inr rfl)
    show (if x ∈ rAdd (ofL P) x then _ else _) = _
    exact if_pos this
theorem joinL_cut {a b : List Int} {k : Int} (h : k ≤ a.length) : joinL a b k = cutL a k := by
  unfold joinL cutL
  rw [List.take_append_of_le_length (by omega)]
theorem map_cut {a : List Int} {B : List (List Int)} {k : Int} (h : k ≤ a.length) : B.map (fun b => joinL a b k) = List.replicate B.length (cutL a k) := by
  rw [List.eq_replicate_iff]
  refine ⟨by simp, fun y hy => ?_⟩
  obtain ⟨b, _, rfl⟩ := List.mem_map.1 hy
  exact joinL_cut h
theorem joinL_len (a b : List Int) (k : Int) : (joinL a b k).length ≤ a.length + b.length := by unfold joinL; simp; omega
theorem timesP_len (A B : List (List Int)) (k : Int) : (timesP A B k).length = A.length * B.length := by
  unfold timesP
  induction A with
  | nil => simp
  | cons a t ih => rw [List.flatMap_cons, List.length_append, List.length_map, ih, List.length_cons, Nat.succ_mul]; omega
theorem timesP_short {A B : List (List Int)} {k : Int} (hA : ∀ y ∈ A, y.length ≤ 5000) (hB : ∀ y ∈ B, y.length ≤ 5000) : Short (timesP A B k) := fun y hy => by
  obtain ⟨a, ha, h⟩ := List.mem_flatMap.1 hy
  obtain ⟨b, hb, rfl⟩ := List.mem_map.1 h
  have := joinL_len a b k
  have := hA a ha
  have := hB b hb
  omega
set_option maxHeartbeats 4000000 in
theorem times_any {bs bt sb tb : Nat} {A B : List (List Int)} {w : World} (hs : SetB bs sb A w) (ht : SetB bt tb B w) (hA : ∀ y ∈ A, y.length ≤ 5000) (hB : ∀ y ∈ B, y.length ≤ 5000) (hn : A.length ≤ 100) (hn2 : B.length ≤ 100) (k : Int) (hk : -9223372036854775808 ≤ k ∧ k ≤ 9223372036854775807) :
    Calls Try.prog 84 #[.pointer (some ⟨sb, 0, none⟩), .pointer (some ⟨tb, 0, none⟩), .int .i64 k] w fun e w' => ∃ ob, e = .returned (.pointer (some ⟨ob, 0, none⟩)) ∧ SetB w.heap.size ob (timesL A B k) w' ∧ Grow w w' := by
  have HS := Lib.hid hs
  have HT := Lib.hid ht
  obtain ⟨slv, svs, hs1, -⟩ := hs
  obtain ⟨tlv, tvs, ht1, -⟩ := ht
  have HS1 := Lib.hid hs1
  have HT1 := Lib.hid ht1
  obtain ⟨sla, slc, rfl, -, -⟩ := hs1.len
  obtain ⟨tla, tlc, rfl, -, -⟩ := ht1.len
  have hsw := lt_of_block hs1.blk
  have htw := lt_of_block ht1.blk
  have gs : w.cell? ⟨sb, 0, none⟩ = some (.slice sla A.length slc) := cell_of_block hs1.blk
  have gt : w.cell? ⟨tb, 0, none⟩ = some (.slice tla B.length tlc) := cell_of_block ht1.blk
  clear hs1 ht1
  go_enter Try.func84, Try.ntmps84
  go_wp2
  go_loopw [19] (fun i wr => ∃ p : Nat, p ≤ A.length ∧ i = .int .i64 p ∧ Hid (SetB w.heap.size w.heap.size (ofL (timesP (A.take p) B k)) wr ∧ Grow w wr)) (fun i _ => A.length - (intOf i).toNat)
  case atStart => exact ⟨0, by omega, rfl, setB_new w, (Below.refl _ _).alloc (Nat.le_refl _) _⟩
  case round =>
    obtain ⟨p, hp, rfl, hh⟩ := hrel
    by_cases hlt : p < A.length
    · have hki : (p : Int) < A.length := by omega
      obtain ⟨g, c, ai, di, hlv, hc0, hin, hd, hld⟩ := HS1.out.at hlt
      injection hlv with e1 _ e3
      subst e1 e3
      have hc := (below_cell hh.out.2 (block_of_cell hc0)).trans hc0
      have HX := Lib.hid (show Lst w ai A[p] from hin)
      have hal := hA _ (List.getElem_mem hlt)
      have hsl : Short (timesP (A.take p) B k) := timesP_short (fun y hy => hA y (List.mem_of_mem_take hy)) hB
      have hpl := timesP_len (A.take p) B k
      have hol := ofL_len (timesP (A.take p) B k)
      have HSL := Lib.hid (short_ofL hsl)
      have HSS := Lib.hid hsl
      have hpl3 : (timesP (A.take p) B k).length ≤ 9900 := by have h1 : (A.take p).length * B.length ≤ 99 * 100 := Nat.mul_le_mul (by simp; omega) hn2; omega
      have hmul : (A.take p).length * B.length ≤ 99 * 100 := Nat.mul_le_mul (by simp; omega) hn2
      have hol2 : (ofL (timesP (A.take p) B k)).length ≤ 9900 := by omega
      have HON := Lib.hid (timesP_on (B := B) (k := k) hlt)
      have HCT := Lib.hid (fun (h : k ≤ (A[p].length : Int)) => map_cut (a := A[p]) (B := B) (k := k) h)
      have gt2 : wr.cell? ⟨tb, 0, none⟩ = some (.slice tla B.length tlc) := (below_cell hh.out.2 htw).trans gt
      have HPN := Lib.hid hpl
      clear hin hsl hpl hol hmul hc0
      generalize A[p] = x at *
      have HP0 : Hid (timesP (A.take p) B k = timesP (A.take p) B k) := Lib.hid rfl
      by_cases hcut : 0 ≤ k ∧ k ≤ x.length ∧ 0 < B.length
      · obtain ⟨h1, h2, h3⟩ := hcut
        have h4 : (0 : Int) < B.length := by omega
        have HE : Hid (ofL (timesP (A.take (p + 1)) B k) = rAdd (ofL (timesP (A.take p) B k)) (cutL x k)) := Lib.hid (by
          rw [HON.out, HCT.out h2]
          obtain ⟨n, hn⟩ : ∃ n, B.length = n + 1 := ⟨B.length - 1, by omega⟩
          rw [hn]
          exact ofL_rep _ _ n)
        have hcl : (cutL x k).length ≤ 5000 := by unfold cutL; simp; omega
        have HL := Lib.hid (len_any (HT.out.go hh.out.2))
        go_wp2_with fail
        refine HL.out.mono ?_
        rintro e w1 ⟨rfl, hw⟩
        have H1 : Hid (SetB w.heap.size w.heap.size (ofL (timesP (A.take p) B k)) w1 ∧ Grow w w1) := by rw [← hw]; exact hh
        have X1 : Hid (Lst w1 ai x) := Lib.hid (HX.out.go H1.out.2)
        clear hw HL
        go_wp2_with fail
        refine (cut_any (k := k) X1.out hd (by omega) hld).mono ?_
        rintro e w2 ⟨v, rfl, hown, hb⟩
        obtain ⟨va, vc, rfl, hvn, hvi, -, hvl⟩ := hown.shape
        have H2 := Lib.hid (And.intro (H1.out.1.go hb) (H1.out.2.trans hb))
        have X2 := Lib.hid (show Lst w2 va (cutL x k) from hvi)
        clear hown hb hvi
        have hvn2 : va = none → vc = 0 := fun h => (hvn h).1
        go_wp2_with fail
        refine (add_set H2.out.1 H2.out.2.size X2.out hvn2 (by omega) HSL.out (by omega)).mono ?_
        rintro e w3 ⟨rfl, hs3, hb3⟩
        have H3 := Lib.hid (And.intro hs3 (Below.trans H2.out.2 hb3))
        clear hs3 hb3
        go_wp2
        go_roundw
        case rel => exact ⟨p + 1, by omega, by go_num, by rw [HE.out]; exact H3.out.1, H3.out.2⟩
        case measure => simp [intOf]; omega
      · have HE : Hid (ofL (timesP (A.take (p + 1)) B k) = ofL (timesP (A.take p) B k ++ B.map (fun b => joinL x b k))) := Lib.hid (by rw [HON.out])
        have hcases : k < 0 ∨ (0 ≤ k ∧ (x.length : Int) < k) ∨ (0 ≤ k ∧ k ≤ x.length ∧ B.length = 0) := by omega
        have HL := Lib.hid (len_any (HT.out.go hh.out.2))
        clear hcut HCT HON
        rcases hcases with h1 | ⟨h1, h2⟩ | ⟨h1, h2, h3⟩
        rotate_left 2
        · have hb0 : (B.length : Int) = 0 := by omega
          have hb1 : ¬ (0 : Int) < B.length := by omega
          have HE2 : Hid (ofL (timesP (A.take (p + 1)) B k) = ofL (timesP (A.take p) B k)) := Lib.hid (by
            rw [HE.out]
            have : B = [] := List.eq_nil_of_length_eq_zero h3
            subst this
            simp)
          clear h3
          go_wp2_with fail
          refine HL.out.mono ?_
          rintro e w1 ⟨rfl, rfl⟩
          go_wp2
          go_loopw [46] (fun j ws => j = .int .i64 0 ∧ ws = wr) (fun _ _ => 0)
          case atStart => exact ⟨rfl, rfl⟩
          case round =>
            obtain ⟨rfl, rfl⟩ := hrel
            go_wp2
            go_roundw
            case rel => exact ⟨p + 1, by omega, by go_num, by rw [HE2.out]; exact hh.out.1, hh.out.2⟩
            case measure => simp [intOf]; omega
        all_goals
          have h3 : ¬ (x.length : Int) < k ∨ (x.length : Int) < k := by omega
          clear h3 HL
          go_wp2
          go_loopw [46] (fun j ws => ∃ q : Nat, q ≤ B.length ∧ j = .int .i64 q ∧ Hid (SetB w.heap.size w.heap.size (ofL (timesP (A.take p) B k ++ (B.take q).map (fun b => joinL x b k))) ws ∧ Grow w ws)) (fun j _ => B.length - (intOf j).toNat)
          case atStart => exact ⟨0, by omega, rfl, Lib.hid (by simpa using hh.out)⟩
          case round =>
            obtain ⟨q, hq, rfl, hi⟩ := hrel
            by_cases hqt : q < B.length
            · have hqi : (q : Int) < B.length := by omega
              obtain ⟨g2, c2, bi, ei, hlv2, hd0, hin2, hd2, hld2⟩ := HT1.out.at hqt
              injection hlv2 with e1 _ e3
              subst e1 e3
              have hcq := (below_cell hi.out.2 (block_of_cell hd0)).trans hd0
              have HY := Lib.hid (show Lst w bi B[q] from hin2)
              have hbl := hB _ (List.getElem_mem hqt)
              have hjl := joinL_len x B[q] k
              have HPS : Hid (Short (ofL (timesP (A.take p) B k ++ (B.take q).map (fun b => joinL x b k)))) := Lib.hid (short_ofL (fun y hy => by
                rcases List.mem_append.1 hy with hy | hy
                · exact HSS.out y hy
                · obtain ⟨b, hb, rfl⟩ := List.mem_map.1 hy
                  have := joinL_len x b k
                  have := hB b (List.mem_of_mem_take hb)
                  omega))
              have hpn : (ofL (timesP (A.take p) B k ++ (B.take q).map (fun b => joinL x b k))).length ≤ 10000 := by
                have h1 := ofL_len (timesP (A.take p) B k ++ (B.take q).map (fun b => joinL x b k))
                rw [List.length_append, List.length_map, List.length_take] at h1
                omega
              have HQ : Hid (ofL (timesP (A.take p) B k ++ (B.take (q + 1)).map (fun b => joinL x b k)) = rAdd (ofL (timesP (A.take p) B k ++ (B.take q).map (fun b => joinL x b k))) (joinL x B[q] k)) := Lib.hid (by
                rw [List.take_succ_eq_append_getElem hqt, List.map_append, ← List.append_assoc]
                exact ofL_snoc _ _)
              clear hin2 hd0
              generalize B[q] = y at *
              generalize ofL (timesP (A.take p) B k ++ (B.take q).map (fun b => joinL x b k)) = acc at *
              go_wp2_with fail
              refine (join_any (HX.out.go hi.out.2) hd (by omega) hld (HY.out.go hi.out.2) hd2 (by omega) hld2 (Nat.le_refl _) k hk).mono ?_
              rintro e w2 ⟨v, rfl, hown, hb⟩
              obtain ⟨va, vc, rfl, hvn, hvi, -, hvl⟩ := hown.shape
              have H2 := Lib.hid (And.intro (hi.out.1.go hb) (hi.out.2.trans hb))
              have X2 := Lib.hid (show Lst w2 va (joinL x y k) from hvi)
              clear hown hb hvi
              have hvn2 : va = none → vc = 0 := fun h => (hvn h).1
              go_wp2_with fail
              refine (add_set H2.out.1 H2.out.2.size X2.out hvn2 (by omega) HPS.out (by omega)).mono ?_
              rintro e w3 ⟨rfl, hs3, hb3⟩
              have H3 := Lib.hid (And.intro hs3 (Below.trans H2.out.2 hb3))
              clear hs3 hb3
              go_wp2
              go_roundw
              case rel => exact ⟨q + 1, by omega, by go_num, by rw [HQ.out]; exact H3.out.1, H3.out.2⟩
              case measure => simp [intOf]; omega
            · have hqi : ¬ (q : Int) < B.length := by omega
              have e : B.take q = B := List.take_of_length_le (by omega)
              rw [e] at hi
              go_wp2
              go_roundw
              case rel => exact ⟨p + 1, by omega, by go_num, by rw [HE.out]; exact hi.out.1, hi.out.2⟩
              case measure => simp [intOf]; omega
    · have hki : ¬ (p : Int) < A.length := by omega
      have e : A.take p = A := List.take_of_length_le (by omega)
      rw [e] at hh
      go_wp2
      go_ret
      exact ⟨w.heap.size, rfl, hh.out.1, hh.out.2⟩
end Go.Proofs.Ytmiiolgbjicocaa
