/- Sets whose words too lie in blocks of their own; what stays of them while other words are turned. -/
import Derived.Test.YtoiinikbbkmjoaaRef3
namespace Go.Proofs.Ytoiinikbbkmjoaa
open Go.RowKit
theorem mem_insL {vs : List Value} {p : Nat} {v u : Value} (h : u ∈ insL vs p v) : u ∈ vs ∨ u = v := by
  unfold insL at h
  simp only [List.mem_append, List.mem_cons, List.not_mem_nil, or_false] at h
  rcases h with (h | h) | h
  · exact .inl (List.mem_of_mem_take h)
  · exact .inr h
  · exact .inl (List.mem_of_mem_drop h)
def AddPost2 (sb : Nat) (lv : Value) (vs : List Value) (L : List (List Int)) (xs : List Int) (w : World) (e : Ending) (w' : World) : Prop :=
  ∃ p, PlaceOK L xs p ∧ e = .returned (.bool (!decide (L[p]? = some xs))) ∧ ∃ lv' vs', SetAt sb lv' vs' (addL L xs p) w' ∧ Kept (fun k => k = sb ∨ lv.ownBlock = some k) w w' ∧ (∀ k, lv'.ownBlock = some k → lv.ownBlock = some k ∨ w.heap.size ≤ k) ∧ ∀ u ∈ vs', u ∈ vs ∨ ∀ k, u.ownBlock = some k → w.heap.size ≤ k
set_option maxHeartbeats 4000000 in
theorem add_own {sb : Nat} {lv : Value} {vs : List Value} {L : List (List Int)} {a : Option Addr} {c : Nat} {xs : List Int} {w : World} (hs : SetAt sb lv vs L w)
    (hx : Lst w a xs) (hn0 : a = none → c = 0) (hxl : xs.length ≤ 100000) (hL : ∀ y ∈ L, y.length ≤ 100000) (hn : L.length ≤ 100000) (hv1 : ∀ u ∈ vs, u.oneCell' = true) :
    Calls Try.prog 29 #[.pointer (some ⟨sb, 0, none⟩), .slice a xs.length c] w (AddPost2 sb lv vs L xs w) := by
  have HP := Lib.hid (place_any (c := c) hs hx hxl hL hn)
  have HS := Lib.hid hs
  have HX := Lib.hid hx
  clear hs hx
  go_enter Try.func29, Try.ntmps29
  go_wp2_with fail
  refine HP.out.mono ?_
  rintro e w1 ⟨p, hp, rfl, hg⟩
  have HQ := Lib.hid (And.intro hp hg)
  clear hp hg HP
  by_cases hfd : L[p]? = some xs
  · rw [decide_eq_true hfd]
    have HFD := Lib.hid hfd
    clear hfd
    go_wp2
    go_ret
    exact ⟨p, HQ.out.1, by rw [decide_eq_true HFD.out]; rfl, lv, vs, by unfold addL; rw [if_pos HFD.out]; exact HS.out.grow HQ.out.2, kept_of_below HQ.out.2 _, fun k hk => .inl hk, fun u hu => .inl hu⟩
  · rw [decide_eq_false hfd]
    have HFD := Lib.hid hfd
    clear hfd
    have HS1 := Lib.hid (HS.out.grow HQ.out.2)
    have HX1 := Lib.hid (HX.out.go HQ.out.2)
    obtain ⟨la, lc, rfl, hlc, -⟩ := HS.out.len
    have gL : w1.cell? ⟨sb, 0, none⟩ = some (.slice la L.length lc) := cell_of_block HS1.out.blk
    have fL : w1.frozen? ⟨sb, 0, none⟩ = false := free_of_block HS1.out.blk
    have hsb := lt_of_block HS1.out.blk
    have HNS : Hid ((Value.slice la L.length lc).ownBlock ≠ some sb) := Lib.hid (fun e => by
      obtain ⟨_, _, cs, h2⟩ := row_ge HS1.out.row e
      rw [HS1.out.blk] at h2
      injection h2 with h2
      injection h2 with _ h3
      exact absurd h3 (by decide))
    have HC := Lib.hid (clone_any (w := w1.drew) (cap := c) HX1.out hn0 (by omega))
    go_wp2
    go_region_law (first
      | (go_simp; go_at_call 37; refine (insert_any (nb := w2.heap.size) (i := p) HR3.out (Nat.zero_le _) HN3.out HNE.out rfl hv1 HPL.out HVL.out).mono ?_; rintro e x3 ⟨lv', rfl, hrow, hgr, hat⟩
         have HI := Lib.hid (And.intro hrow (And.intro hgr hat))
         have hA := set_after HS3.out HO3.out HQ.out.1.1 hrow hgr hat
         have HA := Lib.hid hA
         have gL3 : x3.cell? ⟨sb, 0, none⟩ = some (.slice la L.length lc) := (World.cell?_of_block (hgr.block sb (by simp; omega) (fun e => HNS.out e.symm))).trans ((below_cell ((Below.refl w2.heap.size w2).alloc (Nat.le_refl _) _) hsb2).trans gL2)
         have fL3 : x3.frozen? ⟨sb, 0, none⟩ = false := (World.frozen?_of_block (hgr.block sb (by simp; omega) (fun e => HNS.out e.symm))).trans ((World.frozen?_of_block (Below.heap_alloc _ _ _ hsb2)).trans fL2)
         obtain ⟨la', lc', rfl⟩ : ∃ la' lc', lv' = .slice la' (vs.length + 1) lc' := row_lit hrow (insL_len _ _ _)
         clear hrow hgr hat hA)
      | (go_simp; go_at_call 33; refine HC.out.mono ?_; rintro e w2 ⟨v, rfl, hown, hb⟩
         obtain ⟨va, vc, rfl, -, -, -, -⟩ := hown.shape
         have hg2 : Grow w1 w2 := ⟨hb.os, hb.tape, hb.output, hb.size, hb.block⟩
         have hg3 : Grow w1 (w2.alloc (.cells #[.slice va xs.length vc] 22)) := hg2.trans ((Below.refl _ _).alloc (Nat.le_refl _) _)
         have HS3 := Lib.hid (HS1.out.grow hg3)
         have HR3 := Lib.hid HS3.out.row
         have HN3 := Lib.hid (heap_alloc_this w2 (.cells #[.slice va xs.length vc] 22))
         have HNE : Hid ((Value.slice la L.length lc).ownBlock ≠ some w2.heap.size) := Lib.hid (fun e => by have h1 := (row_ge (HS1.out.grow hg2).row e).1; omega)
         have HPL : Hid (p ≤ vs.length) := Lib.hid (by have := HQ.out.1.1; have := HS.out.words.1; omega)
         have HVL : Hid (vs.length ≤ 100000) := Lib.hid (by have := HS.out.words.1; omega)
         have HO3 := Lib.hid (own_mono (hown.alloc (.cells #[.slice va xs.length vc] 22)) (Nat.zero_le _))
         have HG3 := Lib.hid hg3
         have HV := Lib.hid (fun k (hk : (Value.slice va xs.length vc).ownBlock = some k) => (hown.lt hk).2)
         have gL2 : w2.cell? ⟨sb, 0, none⟩ = some (.slice la L.length lc) := (below_cell hg2 hsb).trans gL
         have fL2 : w2.frozen? ⟨sb, 0, none⟩ = false := free_of_block (HS1.out.grow hg2).blk
         have hsb2 : sb < w2.heap.size := Nat.lt_of_lt_of_le hsb hg2.size
         clear hown hb hg2 hg3))
    all_goals
      go_wp2
      go_ret
      have e1 : addL L xs p = L.take p ++ [xs] ++ L.drop p := by unfold addL; rw [if_neg HFD.out]
      refine ⟨p, HQ.out.1, by rw [decide_eq_false HFD.out]; rfl, _, _, by rw [e1]; exact HA.out.1, ?_, fun k hk => ?_, fun u hu => ?_⟩
      · exact (kept_of_below (HQ.out.2.trans HG3.out) _).trans HA.out.2
      · rcases HI.out.2.2 k hk with h | h
        · exact .inl h
        · have := HQ.out.2.size
          have := HG3.out.size
          exact .inr (by omega)
      · rcases mem_insL hu with h | h
        · exact .inl h
        · refine .inr (fun k hk => ?_)
          rw [h] at hk
          exact Nat.le_trans HQ.out.2.size (HV.out k hk)
/-- A set all of which lies in blocks from base on. -/
def SetO (base sb : Nat) (L : List (List Int)) (w : World) : Prop := ∃ lv vs, SetAt sb lv vs L w ∧ Sorted L ∧ base ≤ sb ∧ (∀ k, lv.ownBlock = some k → base ≤ k) ∧ ∀ u ∈ vs, ∀ k, u.ownBlock = some k → base ≤ k
theorem SetO.go {base sb : Nat} {L : List (List Int)} {w w' : World} (h : SetO base sb L w) (k : Grow w w') : SetO base sb L w' := by
  obtain ⟨lv, vs, h1, h2⟩ := h
  exact ⟨lv, vs, h1.grow k, h2⟩
theorem SetO.e {base sb : Nat} {L : List (List Int)} {w : World} (h : SetO base sb L w) : SetE sb L w := by
  obtain ⟨lv, vs, h1, h2, -⟩ := h
  exact h1.e h2
theorem SetO.kept {S : Nat → Prop} {base sb : Nat} {L : List (List Int)} {w w' : World} (h : SetO base sb L w) (k : Kept S w w') (hS' : ∀ i, base ≤ i → ¬ S i) : SetO base sb L w' := by
  obtain ⟨lv, vs, h1, h2, h3, h4, h5⟩ := h
  refine ⟨lv, vs, ⟨(k.block sb (lt_of_block h1.blk) (hS' sb h3)).trans h1.blk, h1.row.keep (fun g hg => k.block g (row_ge h1.row hg).1 (hS' g (h4 g hg))), h1.words.1, fun i h6 h7 => (h1.words.2 i h6 h7).kept (fun g hg => ?_)⟩, h2, h3, h4, h5⟩
  have hl := ((h1.words.2 i h6 h7).lt hg).1
  exact k.block g hl (hS' g (h5 _ (List.getElem_mem h6) g hg))
theorem setO_new (w : World) : SetO w.heap.size w.heap.size [] (w.alloc (.cells #[.slice none 0 0] 51)) :=
  ⟨.slice none 0 0, [], ⟨heap_alloc_this _ _, World.ownsRow_nil _ _ _ _, rfl, fun i h => by simp at h⟩, fun i j a b _ h _ => by simp at h, Nat.le_refl _, (fun k hk => by simp [Value.ownBlock] at hk), fun u hu => by simp at hu⟩
theorem add_seto {base sb : Nat} {L : List (List Int)} {a : Option Addr} {c : Nat} {xs : List Int} {w : World} (hs : SetO base sb L w) (hB : base ≤ w.heap.size)
    (hx : Lst w a xs) (hn0 : a = none → c = 0) (hxl : xs.length ≤ 10000) (hL : Short L) (hn : L.length ≤ 10000) :
    Calls Try.prog 29 #[.pointer (some ⟨sb, 0, none⟩), .slice a xs.length c] w fun e w' => e = .returned (.bool (!decide (xs ∈ L))) ∧ SetO base sb (rAdd L xs) w' ∧ Below base w w' := by
  obtain ⟨lv, vs, h1, h2, h3, h4, h8⟩ := hs
  refine (add_own h1 hx hn0 (by omega) (fun y hy => by have := hL y hy; omega) (by omega) (words_one h1.words)).mono ?_
  rintro e w' ⟨p, hp, rfl, lv', vs', h5, h6, h7, h9⟩
  have hm : decide (L[p]? = some xs) = decide (xs ∈ L) := by rw [Bool.eq_iff_iff]; simp [place_mem h2 hp]
  rw [place_spot h2 hp] at h5
  refine ⟨by rw [hm], ⟨lv', vs', h5, rAdd_sorted h2 xs, h3, fun k hk => ?_, fun u hu k hk => ?_⟩, h6.below hB (fun k hk hS => ?_)⟩
  · rcases h7 k hk with h | h
    · exact h4 k h
    · omega
  · rcases h9 u hu with h | h
    · exact h8 u h k hk
    · have := h k hk; omega
  · rcases hS with h | h
    · omega
    · have := h4 k h; omega
set_option maxHeartbeats 1000000 in
theorem of_own {a : Option Addr} {c : Nat} {Ls : List (List Int)} {w : World} (h : Lsts w a Ls) (hn : Ls.length ≤ 10000) (hL : Short Ls) :
    Calls Try.prog 17 #[.slice a Ls.length c] w fun e w' => ∃ sb, e = .returned (.pointer (some ⟨sb, 0, none⟩)) ∧ SetO w.heap.size sb (ofL Ls) w' ∧ Grow w w' := by
  have H := Lib.hid h
  clear h
  go_enter Try.func17, Try.ntmps17
  go_wp2
  go_loopw [10] (fun i wr => ∃ k : Nat, k ≤ Ls.length ∧ i = .int .i64 k ∧ Hid (SetO w.heap.size w.heap.size (ofL (Ls.take k)) wr ∧ Grow w wr)) (fun i _ => Ls.length - (intOf i).toNat)
  case atStart => exact ⟨0, by omega, rfl, setO_new w, (Below.refl _ _).alloc (Nat.le_refl _) _⟩
  case round =>
    obtain ⟨k, hk, rfl, hh⟩ := hrel
    by_cases hlt : k < Ls.length
    · have hki : (k : Int) < Ls.length := by omega
      obtain ⟨b, off, ai, di, rfl, hb, hc, hx, hd, hld⟩ := (H.out.go hh.out.2) k hlt
      have hsl : Short (ofL (Ls.take k)) := short_ofL (fun y hy => hL y (List.mem_of_mem_take hy))
      have hln := ofL_len (Ls.take k)
      simp only [List.length_take] at hln
      have HA := Lib.hid (add_seto hh.out.1 hh.out.2.size hx hd (hL _ (List.getElem_mem hlt)) hsl (by omega) (c := di))
      have HE := Lib.hid (ofL_on hlt)
      clear hx hsl hln
      generalize Ls[k] = y at *
      go_wp2_with fail
      refine HA.out.mono ?_
      rintro e w2 ⟨rfl, hs2, hb2⟩
      have HX := Lib.hid (And.intro hs2 (Below.trans hh.out.2 hb2))
      clear hs2 hb2
      go_wp2
      go_roundw
      case rel => exact ⟨k + 1, by omega, by go_num, by rw [HE.out]; exact HX.out.1, HX.out.2⟩
      case measure => simp [intOf]; omega
    · have hki : ¬ (k : Int) < Ls.length := by omega
      have e : Ls.take k = Ls := List.take_of_length_le (by omega)
      rw [e] at hh
      go_wp2
      go_ret
      exact ⟨w.heap.size, rfl, hh.out.1, hh.out.2⟩
end Go.Proofs.Ytoiinikbbkmjoaa
