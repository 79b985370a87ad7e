/- A text put into a sorted list. -/
import Derived.Test.YtlnaepemkeodoaaDoorWords
namespace Go.Proofs.YtlnaepemkeodoaaDoor
open Go.RowKit
theorem insL_strV (L : List (List UInt8)) (x : List UInt8) (p : Nat) : insL (strV L) p (.string (bOf x)) = strV (putAt L x p) := by
  unfold insL strV putAt
  simp [List.map_take, List.map_drop]
theorem find_any {L : List (List UInt8)} {a : Option Addr} {c : Nat} {x : List UInt8} {w : World} (hs : Sorted L) (hr : StrsR w a L) (hn : L.length ≤ 100000) :
    Calls Tryd.prog 16 #[.slice a L.length c, .string (bOf x)] w fun e w' => e = .returned (.tuple #[.int .i64 (posL L x : Nat), .bool (decide (x ∈ L))]) ∧ w' = w := by
  refine (bs_any (c := c) (x := x) hs hr hn).mono ?_
  rintro e w' ⟨p, hp, rfl, rfl⟩
  refine ⟨?_, rfl⟩
  have e1 := place_unique hp (posL_ok hs x)
  have e2 : decide (L[p]? = some x) = decide (x ∈ L) := by simp only [place_mem hs hp]
  rw [e2, e1]
theorem grown_of_alloc {w w' : World} {o : Obj} {own : Option Nat} (h : (w.alloc o).grownBy w' own) : w.grownBy w' own :=
  (World.grownBy_alloc w o own).trans h
def PutPost (base : Nat) (lv : Value) (L : List (List UInt8)) (x : List UInt8) (w : World) (e : Ending) (w' : World) : Prop :=
  ∃ lv', e = .returned (.tuple #[lv', .bool true]) ∧ Row w' base lv' (strV (putL L x)) ∧ w.grownBy w' lv.ownBlock ∧ ∀ k, lv'.ownBlock = some k → lv.ownBlock = some k ∨ w.heap.size ≤ k
theorem put_in {base : Nat} {lv : Value} {L : List (List UInt8)} {x : List UInt8} {w : World} (h : Row w base lv (strV L)) (hs : Sorted L) (hlen : L.length ≤ 90000) (hx : x ∈ L) :
    Calls Tryd.prog 23 #[lv, .string (bOf x)] w fun e w' => e = .returned (.tuple #[lv, .bool false]) ∧ w' = w := by
  obtain ⟨a, c, rfl, hc⟩ := h.shape
  have HF := Lib.hid (find_any (c := c) (x := x) hs h.strs.2 (by omega))
  rw [decide_eq_true hx] at HF
  rw [strV_len] at *
  generalize bOf x = X at *
  generalize posL L x = p at *
  clear hs h hx
  go_enter Tryd.func23, Tryd.ntmps23
  go_wp2_with (go_at_call 16; refine HF.out.mono ?_; rintro e w' ⟨rfl, rfl⟩)
  go_ret2
  exact ⟨rfl, rfl⟩
theorem put_out {base : Nat} {lv : Value} {L : List (List UInt8)} {x : List UInt8} {w : World} (h : Row w base lv (strV L)) (hs : Sorted L) (hb : base ≤ w.heap.size) (hlen : L.length ≤ 90000) (hx : x ∉ L) :
    Calls Tryd.prog 23 #[lv, .string (bOf x)] w (PutPost base lv L x w) := by
  obtain ⟨a, c, rfl, hc⟩ := h.shape
  have HF := Lib.hid (find_any (c := c) (x := x) hs h.strs.2 (by omega))
  rw [decide_eq_false hx] at HF
  have hp := (posL_ok hs x).1
  have HI := Lib.hid (insert_any (base := base) (nb := w.heap.size) (i := posL L x) (v := .string (bOf x)) (h.below (below_one w (.cells #[.string (bOf x)] 9))) (by rw [World.size_alloc]; omega) (heap_alloc_this _ _)
    (fun e => by have := (row_ge h e).1; omega) rfl (strV_one L) (by rw [strV_len]; exact hp) (by rw [strV_len]; omega))
  have HP : Hid (∀ e w', InsPost base (.slice a (strV L).length c) (strV L) (posL L x) (.string (bOf x)) (w.alloc (.cells #[.string (bOf x)] 9)) e w' → ∃ lv', e = .returned lv' ∧ Hid (PutPost base (.slice a (strV L).length c) L x w (.returned (.tuple #[lv', .bool true])) w')) := Lib.hid (by
    rintro e w' ⟨lv', rfl, h1, h2, h3⟩
    refine ⟨lv', rfl, lv', rfl, ?_, grown_of_alloc h2, fun k hk => ?_⟩
    · rw [insL_strV] at h1; exact h1
    · have := h3 k hk
      rw [World.size_alloc] at this
      rcases this with h | h
      · exact .inl h
      · exact .inr (by omega))
  generalize hv : strV L = V at *
  rw [← hv, strV_len] at *
  clear hv
  generalize hP : PutPost base (.slice a L.length c) L x w = P at *
  generalize bOf x = X at *
  generalize posL L x = p at *
  clear hs h hx hP
  go_enter Tryd.func23, Tryd.ntmps23
  go_wp2_with (first
    | (go_at_call 33; refine HI.out.mono ?_; intro e w' hq; obtain ⟨lv', rfl, hQ⟩ := HP.out e w' hq; clear hq)
    | (go_at_call 16; refine HF.out.mono ?_; rintro e w' ⟨rfl, rfl⟩))
  exact hQ.out
end Go.Proofs.YtlnaepemkeodoaaDoor
