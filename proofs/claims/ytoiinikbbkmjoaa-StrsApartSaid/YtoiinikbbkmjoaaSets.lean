/- Sets of words: putting in, of some words, how many. -/
import Derived.Test.YtoiinikbbkmjoaaSorted
namespace Go.Proofs.Ytoiinikbbkmjoaa
open Go.RowKit
theorem place_mem {L : List (List Int)} {a : List Int} {p : Nat} (hs : Sorted L) (hp : PlaceOK L a p) : L[p]? = some a ↔ a ∈ L := by
  constructor
  · intro h
    obtain ⟨h1, h2⟩ := List.getElem?_eq_some_iff.1 h
    rw [← h2]; exact List.getElem_mem h1
  · intro h
    have h1 := place_spot hs hp
    unfold addL rAdd at h1
    rw [if_pos h] at h1
    by_cases h2 : L[p]? = some a
    · exact h2
    · rw [if_neg h2] at h1
      have := congrArg List.length h1
      simp at this
      have := hp.1
      omega
/-- A set in blocks from base on. -/
def SetB (base sb : Nat) (L : List (List Int)) (w : World) : Prop := ∃ lv vs, SetAt sb lv vs L w ∧ Sorted L ∧ base ≤ sb ∧ ∀ k, lv.ownBlock = some k → base ≤ k
theorem SetB.go {base sb : Nat} {L : List (List Int)} {w w' : World} (h : SetB base sb L w) (k : Grow w w') : SetB base sb L w' := by
  obtain ⟨lv, vs, h1, h2⟩ := h
  exact ⟨lv, vs, h1.grow k, h2⟩
theorem words_one {w : World} {vs : List Value} {L : List (List Int)} (h : WordsAt w vs L) : ∀ u ∈ vs, u.oneCell' = true := fun u hu => by
  obtain ⟨i, hi, rfl⟩ := List.getElem_of_mem hu
  obtain ⟨a, c, hv, _⟩ := (h.2 i hi (by rw [← h.1]; exact hi)).shape
  rw [hv]; rfl
/-- Words of up to so many numbers. -/
def Short (L : List (List Int)) : Prop := ∀ y ∈ L, y.length ≤ 10000
theorem short_rAdd {L : List (List Int)} (h : Short L) {a : List Int} (ha : a.length ≤ 10000) : Short (rAdd L a) := fun y hy => by
  rcases mem_rAdd.1 hy with h1 | h1
  · exact h y h1
  · rw [h1]; exact ha
theorem add_set {base sb : Nat} {L : List (List Int)} {a : Option Addr} {c : Nat} {xs : List Int} {w : World} (hs : SetB base sb L w) (hB : base ≤ w.heap.size)
    (hx : Lst w a xs) (hn0 : a = none → c = 0) (hxl : xs.length ≤ 10000) (hL : Short L) (hn : L.length ≤ 10000) :
    Calls Try.prog 29 #[.pointer (some ⟨sb, 0, none⟩), .slice a xs.length c] w fun e w' => e = .returned (.bool (!decide (xs ∈ L))) ∧ SetB base sb (rAdd L xs) w' ∧ Below base w w' := by
  obtain ⟨lv, vs, h1, h2, h3, h4⟩ := hs
  refine (add_any h1 hx hn0 (by omega) (fun y hy => by have := hL y hy; omega) (by omega) (words_one h1.words)).mono ?_
  rintro e w' ⟨p, hp, rfl, lv', vs', h5, h6, h7⟩
  have hm : decide (L[p]? = some xs) = decide (xs ∈ L) := by rw [Bool.eq_iff_iff]; simp [place_mem h2 hp]
  rw [place_spot h2 hp] at h5
  refine ⟨by rw [hm], ⟨lv', vs', h5, rAdd_sorted h2 xs, h3, fun k hk => ?_⟩, h6.below hB (fun k hk hS => ?_)⟩
  · rcases h7 k hk with h | h
    · exact h4 k h
    · omega
  · rcases hS with h | h
    · omega
    · have := h4 k h; omega
/-- A list of words that can be read. -/
def Lsts (w : World) (a : Option Addr) (Ls : List (List Int)) : Prop :=
  ∀ i (h : i < Ls.length), ∃ b off ai di, a = some ⟨b, off, none⟩ ∧ b < w.heap.size ∧ w.cell? ⟨b, off + i, none⟩ = some (.slice ai Ls[i].length di) ∧ Lst w ai Ls[i] ∧ (ai = none → di = 0) ∧ Ls[i].length ≤ di
theorem Lsts.go {w w' : World} {a : Option Addr} {Ls : List (List Int)} (h : Lsts w a Ls) (k : Grow w w') : Lsts w' a Ls := fun i hi => by
  obtain ⟨b, off, ai, di, h1, h2, h3, h4, h5⟩ := h i hi
  exact ⟨b, off, ai, di, h1, Nat.lt_of_lt_of_le h2 k.size, by rw [below_cell k h2]; exact h3, h4.go k, h5⟩
theorem setB_new (w : World) : SetB w.heap.size w.heap.size [] (w.alloc (.cells #[.slice none 0 0] 51)) :=
  ⟨.slice none 0 0, [], ⟨heap_alloc_this _ _, World.ownsRow_nil _ _ _ _, rfl, fun i h => by simp at h⟩, fun i j a b _ h _ => by simp at h, Nat.le_refl _, fun k hk => by simp [Value.ownBlock] at hk⟩
theorem short_ofL {Ls : List (List Int)} (h : Short Ls) : Short (ofL Ls) := fun y hy => h y (mem_ofL.1 hy)
set_option maxHeartbeats 1000000 in
theorem of_any {a : Option Addr} {c : Nat} {Ls : List (List Int)} {w : World} (h : Lsts w a Ls) (hn : Ls.length ≤ 10000) (hL : Short Ls) :
    Calls Try.prog 17 #[.slice a Ls.length c] w fun e w' => ∃ sb, e = .returned (.pointer (some ⟨sb, 0, none⟩)) ∧ SetB w.heap.size sb (ofL Ls) w' ∧ Grow w w' := by
  have H := Lib.hid h
  clear h
  go_enter Try.func17, Try.ntmps17
  go_wp2
  go_loopw [10] (fun i wr => ∃ k : Nat, k ≤ Ls.length ∧ i = .int .i64 k ∧ Hid (SetB w.heap.size w.heap.size (ofL (Ls.take k)) wr ∧ Grow w wr)) (fun i _ => Ls.length - (intOf i).toNat)
  case atStart => exact ⟨0, by omega, rfl, setB_new w, (Below.refl _ _).alloc (Nat.le_refl _) _⟩
  case round =>
    obtain ⟨k, hk, rfl, hh⟩ := hrel
    by_cases hlt : k < Ls.length
    · have hki : (k : Int) < Ls.length := by omega
      obtain ⟨b, off, ai, di, rfl, hb, hc, hx, hd, hld⟩ := (H.out.go hh.out.2) k hlt
      have hsl : Short (ofL (Ls.take k)) := short_ofL (fun y hy => hL y (List.mem_of_mem_take hy))
      have hln := ofL_len (Ls.take k)
      simp only [List.length_take] at hln
      have HA := Lib.hid (add_set hh.out.1 hh.out.2.size hx hd (hL _ (List.getElem_mem hlt)) hsl (by omega) (c := di))
      have HE := Lib.hid (ofL_on hlt)
      clear hx hsl hln
      generalize Ls[k] = y at *
      go_wp2_with fail
      refine HA.out.mono ?_
      rintro e w2 ⟨rfl, hs2, hb2⟩
      have HX := Lib.hid (And.intro hs2 (Below.trans hh.out.2 hb2))
      clear hs2 hb2
      go_wp2
      go_roundw
      case rel => exact ⟨k + 1, by omega, by go_num, by rw [HE.out]; exact HX.out.1, HX.out.2⟩
      case measure => simp [intOf]; omega
    · have hki : ¬ (k : Int) < Ls.length := by omega
      have e : Ls.take k = Ls := List.take_of_length_le (by omega)
      rw [e] at hh
      go_wp2
      go_ret
      exact ⟨w.heap.size, rfl, hh.out.1, hh.out.2⟩
theorem len_any {base sb : Nat} {L : List (List Int)} {w : World} (h : SetB base sb L w) : Calls Try.prog 20 #[.pointer (some ⟨sb, 0, none⟩)] w fun e w' => e = .returned (.int .i64 (L.length : Nat)) ∧ w = w' := by
  obtain ⟨lv, vs, h1, -⟩ := h
  obtain ⟨la, lc, rfl, -, -⟩ := h1.len
  have g0 : w.cell? ⟨sb, 0, none⟩ = some (.slice la L.length lc) := cell_of_block h1.blk
  clear h1
  go_enter Try.func20, Try.ntmps20
  go_wp2
  go_ret
  exact ⟨rfl, rfl⟩
end Go.Proofs.Ytoiinikbbkmjoaa
