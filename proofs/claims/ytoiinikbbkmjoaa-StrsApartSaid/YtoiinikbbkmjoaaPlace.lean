/- A set of words in memory; where a word is, or would be. -/
import Derived.Test.YtoiinikbbkmjoaaInsert3
namespace Go.Proofs.Ytoiinikbbkmjoaa
open Go.RowKit
/-- The values vs are the words L, each in a block of numbers (or nil). -/
def WordsAt (w : World) (vs : List Value) (L : List (List Int)) : Prop := vs.length = L.length ∧ ∀ i (h : i < vs.length) (h2 : i < L.length), Own w 0 vs[i] L[i]
/-- A set: a block with one list. -/
structure SetAt (sb : Nat) (lv : Value) (vs : List Value) (L : List (List Int)) (w : World) : Prop where
  blk : w.heap[sb]? = some (.cells #[lv] 51 (0, 0))
  row : Row w 0 lv vs
  words : WordsAt w vs L
theorem WordsAt.keep {w w' : World} {vs : List Value} {L : List (List Int)} (h : WordsAt w vs L) (hk : ∀ (k : Nat) (cs : Array Value), w.heap[k]? = some (Obj.cells cs 3 (0, 0)) → w'.heap[k]? = w.heap[k]?) : WordsAt w' vs L := by
  refine ⟨h.1, fun i h1 h2 => (h.2 i h1 h2).kept (fun k hkk => ?_)⟩
  obtain ⟨h3, h4⟩ := h.2 i h1 h2
  rcases h4 with ⟨h4, _⟩ | ⟨g, cap, cur, h4, _, hh, _⟩
  · rw [h4] at hkk; simp [Value.ownBlock] at hkk
  · rw [h4] at hkk
    have : g = k := by simpa [Value.ownBlock] using hkk
    subst this
    exact hk g cur hh
theorem Row.keep {w w' : World} {base : Nat} {lv : Value} {vs : List Value} (h : Row w base lv vs) (hk : ∀ k, lv.ownBlock = some k → w'.heap[k]? = w.heap[k]?) : Row w' base lv vs := by
  obtain ⟨h1, h2⟩ := h
  refine ⟨h1, ?_⟩
  rcases h2 with h2 | ⟨g, cap, cur, rfl, hg, hh, r⟩
  · exact .inl h2
  · exact .inr ⟨g, cap, cur, rfl, hg, by rw [hk g rfl]; exact hh, r⟩
theorem SetAt.grow {sb : Nat} {lv : Value} {vs : List Value} {L : List (List Int)} {w w' : World} (h : SetAt sb lv vs L w) (hb : Below w.heap.size w w') : SetAt sb lv vs L w' :=
  ⟨(hb.block _ (lt_of_block h.blk)).trans h.blk, h.row.keep (fun _ hk => hb.block _ (row_ge h.row hk).1), h.words.keep (fun _ _ hk => hb.block _ (lt_of_block hk))⟩
theorem SetAt.len {sb : Nat} {lv : Value} {vs : List Value} {L : List (List Int)} {w : World} (h : SetAt sb lv vs L w) : ∃ a c, lv = .slice a L.length c ∧ L.length ≤ c ∧ (a = none → c = 0) := by
  have hl := h.words.1
  rcases h.row.2 with ⟨rfl, h0⟩ | ⟨g, cap, cur, rfl, _, _, h2, _⟩
  · exact ⟨none, 0, by rw [← hl, h0], by omega, fun _ => rfl⟩
  · exact ⟨_, _, by rw [← hl], by omega, fun h => by cases h⟩
/-- The word at a place, as the walk asks for it. -/
theorem SetAt.at {sb : Nat} {lv : Value} {vs : List Value} {L : List (List Int)} {w : World} (h : SetAt sb lv vs L w) {i : Nat} (hi : i < L.length) :
    ∃ g c a d, lv = .slice (some ⟨g, 0, none⟩) L.length c ∧ w.cell? ⟨g, i, none⟩ = some (.slice a L[i].length d) ∧ Ints w w.heap.size a L[i] ∧ (a = none → d = 0) ∧ L[i].length ≤ d := by
  have hl := h.words.1
  have hiv : i < vs.length := by omega
  obtain ⟨g, c, hlv⟩ : ∃ g c, lv = .slice (some ⟨g, 0, none⟩) vs.length c := by
    rcases h.row.2 with ⟨_, h0⟩ | ⟨g, cap, cur, h1, _⟩
    · omega
    · exact ⟨_, _, h1⟩
  have hrow := h.row
  rw [hlv] at hrow
  obtain ⟨_, _, _, cur, _, _, hcell⟩ := row_cells hrow
  obtain ⟨a, d, hv, hn, hin, _, hle⟩ := (h.words.2 i hiv hi).shape
  have := hcell i _ (List.getElem?_eq_getElem hiv)
  rw [hv, Nat.zero_add] at this
  exact ⟨g, c, a, d, by rw [hlv, hl], this, hin, fun h => (hn h).1, hle⟩
set_option maxHeartbeats 1000000 in
theorem closure_any {sb ba bs : Nat} {lv : Value} {vs : List Value} {L : List (List Int)} {a : Option Addr} {c : Nat} {xs : List Int} {w : World} (hs : SetAt sb lv vs L w) (h1 : w.heap[ba]? = some (.cells #[.slice a xs.length c] 22 (0, 0))) (h2 : w.heap[bs]? = some (.cells #[.pointer (some ⟨sb, 0, none⟩)] 31 (0, 0)))
    (hx : Ints w w.heap.size a xs) (hxl : xs.length ≤ 100000) (hL : ∀ y ∈ L, y.length ≤ 100000) {i : Nat} (hi : i < L.length) :
    Calls Try.prog 41 #[.int .i64 (i : Nat), .pointer (some ⟨ba, 0, none⟩), .pointer (some ⟨bs, 0, none⟩)] w fun e w' => e = .returned (.int .i64 (cmpL xs L[i])) ∧ ∃ n, w' = w.drewN n := by
  obtain ⟨g, cl, ai, d, rfl, hci, hin, hdn, hdl⟩ := hs.at hi
  have HC := fun n => Lib.hid (compare_any (ca := c) (cb := d) (w := w.drewN n) (B := w.heap.size) (a := a) (b := ai) (xs := xs) (ys := L[i]) hx hin (by omega) (by have := hL _ (List.getElem_mem hi); omega))
  have g1 : w.cell? ⟨ba, 0, none⟩ = some (.slice a xs.length c) := cell_of_block h1
  have g2 : w.cell? ⟨bs, 0, none⟩ = some (.pointer (some ⟨sb, 0, none⟩)) := cell_of_block h2
  have g3 : w.cell? ⟨sb, 0, none⟩ = some (.slice (some ⟨g, 0, none⟩) L.length cl) := cell_of_block hs.blk
  have hi0 : (0 : Int) ≤ i := by omega
  have hi1 : (i : Int) < L.length := by omega
  clear hs h1 h2 hx hin
  generalize L[i] = y at *
  go_enter Try.func41, Try.ntmps41
  go_wp2
  go_quiet (first | (go_at_call 10; exact Calls.quiet_of_same ((HC _).out.mono (fun _ _ h => ⟨h.1, h.2.symm⟩))))
  go_wp2
  go_ret
  exact ⟨rfl, _, rfl⟩
/-- Where a word is, or would be. -/
def PlaceOK (L : List (List Int)) (xs : List Int) (p : Nat) : Prop := p ≤ L.length ∧ (∀ q, p = q + 1 → ∃ y, L[q]? = some y ∧ 0 < cmpL xs y) ∧ (∀ y, L[p]? = some y → cmpL xs y ≤ 0)
def FindPost (L : List (List Int)) (xs : List Int) (w : World) (e : Ending) (w' : World) : Prop :=
  ∃ p, PlaceOK L xs p ∧ e = .returned (.tuple #[.int .i64 (p : Nat), .bool (decide (L[p]? = some xs))]) ∧ ∃ n, w' = w.drewN n
theorem cmpL_zero {xs ys : List Int} : cmpL xs ys = 0 ↔ ys = xs := by
  unfold cmpL
  split
  · rename_i h
    constructor
    · intro h2; simp at h2
    · intro h2; subst h2
      have := lessL_same ys ys
      simp at this
      rw [this] at h; simp at h
  · split
    · rename_i h; exact ⟨fun _ => h.symm, fun _ => rfl⟩
    · rename_i h; exact ⟨fun h2 => by simp at h2, fun h2 => (h h2.symm).elim⟩
set_option maxHeartbeats 1000000 in
theorem find_any {sb ba bs : Nat} {lv : Value} {vs : List Value} {L : List (List Int)} {a : Option Addr} {c : Nat} {xs : List Int} {w : World} (hs : SetAt sb lv vs L w) (h1 : w.heap[ba]? = some (.cells #[.slice a xs.length c] 22 (0, 0))) (h2 : w.heap[bs]? = some (.cells #[.pointer (some ⟨sb, 0, none⟩)] 31 (0, 0)))
    (hx : Ints w w.heap.size a xs) (hxl : xs.length ≤ 100000) (hL : ∀ y ∈ L, y.length ≤ 100000) (hn : L.length ≤ 100000) :
    Calls Try.prog 40 #[.int .i64 (L.length : Nat), .func (.func 41) #[] #[.pointer (some ⟨ba, 0, none⟩), .pointer (some ⟨bs, 0, none⟩)]] w (FindPost L xs w) := by
  have HC : Hid (∀ (n i : Nat) (hi : i < L.length), Calls Try.prog 41 #[.int .i64 (i : Nat), .pointer (some ⟨ba, 0, none⟩), .pointer (some ⟨bs, 0, none⟩)] (w.drewN n) fun e w' => e = .returned (.int .i64 (cmpL xs L[i])) ∧ ∃ m, w' = (w.drewN n).drewN m) := Lib.hid (fun n i hi =>
    closure_any (w := w.drewN n) (hs.grow ⟨rfl, rfl, rfl, Nat.le_refl _, fun _ _ => rfl⟩) h1 h2 hx hxl hL hi)
  clear hs h1 h2 hx hL
  go_enter Try.func40, Try.ntmps40
  go_wp2
  go_loopw [4, 6] (fun i j wr => ∃ p q : Nat, p ≤ q ∧ q ≤ L.length ∧ i = .int .i64 p ∧ j = .int .i64 q ∧ Hid ((∀ t, p = t + 1 → ∃ y, L[t]? = some y ∧ 0 < cmpL xs y) ∧ (∀ y, L[q]? = some y → cmpL xs y ≤ 0)) ∧ ∃ n, wr = w.drewN n) (fun i j _ => (intOf j).toNat - (intOf i).toNat)
  case atStart => exact ⟨0, L.length, by omega, by omega, rfl, rfl, Lib.hid ⟨fun t h => by omega, fun y h => by simp at h⟩, 0, rfl⟩
  case round =>
    obtain ⟨p, q, hpq, hq, rfl, rfl, hf, n, rfl⟩ := hrel
    by_cases hlt : p < q
    · have hki : (p : Int) < q := by omega
      obtain ⟨m, hm⟩ : ∃ m, m = (p + q) / 2 := ⟨_, rfl⟩
      have hml : m < L.length := by omega
      have hmi : ((p : Int) + (q : Int)) / 2 = (m : Int) := by omega
      have hmp : p ≤ m := by omega
      have hmq : m < q := by omega
      have HCm := Lib.hid (HC.out n m hml)
      clear hm
      go_wp2_with fail
      refine HCm.out.mono ?_
      rintro e w1 ⟨rfl, n1, rfl⟩
      have HY := Lib.hid (List.getElem?_eq_getElem hml)
      clear hmi HCm
      generalize L[m] = y at *
      by_cases hg : 0 < cmpL xs y
      · have HG := Lib.hid hg
        go_wp2
        go_roundw
        case rel => exact ⟨m + 1, q, by omega, hq, by go_num, rfl, Lib.hid ⟨fun t ht => ⟨y, by rw [show t = m by omega]; exact HY.out, HG.out⟩, hf.out.2⟩, _, rfl⟩
        case measure => simp [intOf]; omega
      · have HG := Lib.hid (Int.not_lt.1 hg)
        go_wp2
        go_roundw
        case rel => exact ⟨p, m, by omega, by omega, rfl, rfl, Lib.hid ⟨hf.out.1, fun y' hy => by rw [HY.out] at hy; injection hy with hy; rw [← hy]; exact HG.out⟩, _, rfl⟩
        case measure => simp [intOf]; omega
    · have hpq2 : q = p := by omega
      subst hpq2
      have hki : ¬ ((q : Int) < (q : Int)) := by omega
      by_cases hl : q < L.length
      · have hli : (q : Int) < L.length := by omega
        have HCm := Lib.hid (HC.out n q hl)
        go_wp2_with fail
        refine HCm.out.mono ?_
        rintro e w1 ⟨rfl, n1, rfl⟩
        have HD : Hid ((cmpL xs L[q] == 0) = decide (L[q]? = some xs)) := Lib.hid (by
          rw [List.getElem?_eq_getElem hl, Bool.eq_iff_iff]
          simp [cmpL_zero])
        clear HCm
        generalize cmpL xs L[q] = cv at *
        go_wp2
        go_ret2
        exact ⟨q, ⟨hq, hf.out.1, hf.out.2⟩, by rw [← HD.out]; rfl, _, rfl⟩
      · have hli : ¬ (q : Int) < L.length := by omega
        have HD : Hid (decide (L[q]? = some xs) = false) := Lib.hid (by rw [List.getElem?_eq_none (by omega)]; rfl)
        go_wp2
        go_ret2
        exact ⟨q, ⟨hq, hf.out.1, hf.out.2⟩, by rw [HD.out]; rfl, n, rfl⟩
end Go.Proofs.Ytoiinikbbkmjoaa
