/- Strings in order; where something stands in a list of them. -/
import Derived.Test.YtlnaepemkeodoaaDoorInsert
import Derived.Test.YtlnaepemkeodoaaDoorBack
import Derived.Deep.LoopGhost
namespace Go.Proofs.YtlnaepemkeodoaaDoor
open Go.RowKit
def bOf (l : List UInt8) : ByteArray := ⟨l.toArray⟩
theorem bOf_list (l : List UInt8) : (bOf l).toList = l := by rw [ByteArray.toList_eq]; rfl
theorem bOf_data (l : List UInt8) : (bOf l).data.toList = l := rfl
theorem bOf_self (s : ByteArray) : bOf s.data.toList = s := by cases s; simp [bOf]
theorem bOf_size (l : List UInt8) : (bOf l).size = l.length := rfl
theorem bOf_inj {a b : List UInt8} (h : bOf a = bOf b) : a = b := by have := congrArg ByteArray.toList h; rwa [bOf_list, bOf_list] at this
/-- The texts at an address. -/
def StrsR (w : World) (a : Option Addr) (L : List (List UInt8)) : Prop := ∀ i (h : i < L.length), ∃ b off, a = some ⟨b, off, none⟩ ∧ b < w.heap.size ∧ w.cell? ⟨b, off + i, none⟩ = some (.string (bOf L[i]))
theorem StrsR.below {w w' : World} {a : Option Addr} {L : List (List UInt8)} (h : StrsR w a L) (hb : Below w.heap.size w w') : StrsR w' a L := fun i hi => by
  obtain ⟨b, off, h1, h2, h3⟩ := h i hi
  exact ⟨b, off, h1, Nat.lt_of_lt_of_le h2 hb.size, (hb.cell (p := ⟨b, off + i, none⟩) h2).trans h3⟩
theorem nan1_any (x : ByteArray) (w : World) : Calls Tryd.prog 35 #[.string x] w fun e w' => e = .returned (.bool false) ∧ w' = w := by
  go_enter Tryd.func35, Tryd.ntmps35
  go_wp2
  go_ret
  exact ⟨rfl, rfl⟩
theorem nan2_any (x : ByteArray) (w : World) : Calls Tryd.prog 26 #[.string x] w fun e w' => e = .returned (.bool false) ∧ w' = w := by
  go_enter Tryd.func26, Tryd.ntmps26
  go_wp2
  go_ret
  exact ⟨rfl, rfl⟩
theorem less_raw (x y : ByteArray) (w : World) : Calls Tryd.prog 25 #[.string x, .string y] w fun e w' => e = .returned (.bool (Op.bytesLess x.toList y.toList)) ∧ w' = w := by
  have HN := fun x W => Lib.hid (nan1_any x W)
  go_enter Tryd.func25, Tryd.ntmps25
  go_wp2_with (first | (go_at_call 35; refine (HN _ _).out.mono ?_; rintro e w' ⟨rfl, rfl⟩))
  go_ret
  exact ⟨rfl, rfl⟩
theorem less_any (a b : List UInt8) (w : World) : Calls Tryd.prog 25 #[.string (bOf a), .string (bOf b)] w fun e w' => e = .returned (.bool (lt a b)) ∧ w' = w := by
  have h := less_raw (bOf a) (bOf b) w
  rwa [bOf_list, bOf_list] at h
def FindPost (L : List (List UInt8)) (x : List UInt8) (w : World) (e : Ending) (w' : World) : Prop :=
  ∃ p, PlaceOK L x p ∧ e = .returned (.tuple #[.int .i64 (p : Nat), .bool (decide (L[p]? = some x))]) ∧ w' = w
theorem below_all {L : List (List UInt8)} {x : List UInt8} {m : Nat} (hs : Sorted L) (hm : m < L.length) (h : lt L[m] x = true) : ∀ i (hi : i < L.length), i < m + 1 → lt L[i] x = true := fun i hi hl => by
  rcases Nat.lt_or_ge i m with h1 | h1
  · exact lt_trans _ _ _ (List.pairwise_iff_getElem.1 hs i m hi hm h1) h
  · obtain rfl : i = m := by omega
    exact h
theorem above_all {L : List (List UInt8)} {x : List UInt8} {m : Nat} (hs : Sorted L) (hm : m < L.length) (h : lt L[m] x = false) : ∀ i (hi : i < L.length), m ≤ i → lt L[i] x = false := fun i hi hl => by
  rcases Nat.lt_or_ge m i with h1 | h1
  · cases hx : lt L[i] x
    · rfl
    · have := lt_trans _ _ _ (List.pairwise_iff_getElem.1 hs m i hm hi h1) hx
      rw [h] at this; cases this
  · obtain rfl : m = i := by omega
    exact h
set_option maxHeartbeats 1000000 in
theorem bs_any {L : List (List UInt8)} {a : Option Addr} {c : Nat} {x : List UInt8} {w : World} (hs : Sorted L) (hr : StrsR w a L) (hn : L.length ≤ 100000) :
    Calls Tryd.prog 16 #[.slice a L.length c, .string (bOf x)] w (FindPost L x w) := by
  have HS := Lib.hid hs
  have HR := Lib.hid hr
  clear hs hr
  have HL := fun y W => Lib.hid (less_any y x W)
  have HN := fun y W => Lib.hid (nan2_any y W)
  have HX := Lib.hid (fun y (h : y ≠ x) => show ((bOf y).toList == (bOf x).toList) = false by rw [bOf_list, bOf_list]; simpa using h)
  generalize hX : bOf x = X at *
  have HXE := Lib.hid hX
  clear hX
  go_enter Tryd.func16, Tryd.ntmps16
  go_wp2
  go_loop [7, 8] (fun i j => ∃ p q : Nat, p ≤ q ∧ q ≤ L.length ∧ i = .int .i64 p ∧ j = .int .i64 q ∧ Hid ((∀ i (h : i < L.length), i < p → lt L[i] x = true) ∧ (∀ i (h : i < L.length), q ≤ i → lt L[i] x = false))) (fun i j => (intOf j).toNat - (intOf i).toNat)
  case atStart => exact ⟨0, L.length, by omega, by omega, rfl, rfl, Lib.hid ⟨fun i h h2 => by omega, fun i h h2 => by omega⟩⟩
  case round =>
    obtain ⟨p, q, hpq, hq, rfl, rfl, hf⟩ := hrel
    by_cases hlt : p < q
    · have hki : (p : Int) < q := by omega
      obtain ⟨m, hm⟩ : ∃ m, m = (p + q) / 2 := ⟨_, rfl⟩
      have hml : m < L.length := by omega
      have hmi : ((p : Int) + (q : Int)) / 2 = (m : Int) := by omega
      have hmp : p ≤ m := by omega
      have hmq : m < q := by omega
      have hml2 : (m : Int) < L.length := by omega
      obtain ⟨b, off, rfl, hb, hc⟩ := HR.out m hml
      have HLm := fun W => Lib.hid (HL L[m] W).out
      have HA := Lib.hid (fun (h : lt L[m] x = true) => below_all HS.out hml h)
      have HB := Lib.hid (fun (h : lt L[m] x = false) => above_all HS.out hml h)
      clear hm HL HX
      generalize lt L[m] x = t at *
      generalize bOf L[m] = y at *
      cases t
      · go_wp2_with (go_at_call 25; refine (HLm _).out.mono ?_; rintro e w' ⟨rfl, rfl⟩)
        go_round
        case rel => exact ⟨p, m, by omega, by omega, rfl, rfl, Lib.hid ⟨hf.out.1, HB.out (by trivial)⟩⟩
        case measure => simp [intOf]; omega
      · go_wp2_with (go_at_call 25; refine (HLm _).out.mono ?_; rintro e w' ⟨rfl, rfl⟩)
        go_round
        case rel => exact ⟨m + 1, q, by omega, hq, by go_num, rfl, Lib.hid ⟨HA.out (by trivial), hf.out.2⟩⟩
        case measure => simp [intOf]; omega
    · obtain rfl : q = p := by omega
      have hki : ¬ ((q : Int) < (q : Int)) := by omega
      by_cases hl : q < L.length
      · have hli : (q : Int) < L.length := by omega
        obtain ⟨b, off, rfl, hb, hc⟩ := HR.out q hl
        by_cases he : L[q] = x
        · rw [he, HXE.out] at hc
          have HD : Hid (decide (L[q]? = some x) = true) := Lib.hid (by rw [List.getElem?_eq_getElem hl, he]; simp)
          clear he HL HX
          go_wp2_with (first | (go_at_call 26; refine (HN _ _).out.mono ?_; rintro e w' ⟨rfl, rfl⟩))
          go_ret2
          exact ⟨q, ⟨hq, hf.out.1, hf.out.2⟩, by rw [HD.out]; rfl, rfl⟩
        · have HD : Hid (decide (L[q]? = some x) = false) := Lib.hid (by rw [List.getElem?_eq_getElem hl]; simpa using he)
          have hne := HX.out _ he
          clear he HL HX
          generalize bOf L[q] = y at *
          go_wp2_with (first | (go_at_call 26; refine (HN _ _).out.mono ?_; rintro e w' ⟨rfl, rfl⟩))
          go_ret2
          exact ⟨q, ⟨hq, hf.out.1, hf.out.2⟩, by rw [HD.out]; rfl, rfl⟩
      · have hli : ¬ (q : Int) < L.length := by omega
        have HD : Hid (decide (L[q]? = some x) = false) := Lib.hid (by rw [List.getElem?_eq_none (by omega)]; rfl)
        clear HL HX
        go_wp2_with (first | (go_at_call 26; refine (HN _ _).out.mono ?_; rintro e w' ⟨rfl, rfl⟩))
        go_ret2
        exact ⟨q, ⟨hq, hf.out.1, hf.out.2⟩, by rw [HD.out]; rfl, rfl⟩
end Go.Proofs.YtlnaepemkeodoaaDoor
