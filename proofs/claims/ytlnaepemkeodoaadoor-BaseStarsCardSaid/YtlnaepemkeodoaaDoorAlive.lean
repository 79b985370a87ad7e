/- The laws' guard; a base, read, written and read again: the walk. -/
import Derived.Test.YtlnaepemkeodoaaDoorReadW
namespace Go.Proofs.YtlnaepemkeodoaaDoor
open Go.RowKit
def BI (W : World) (base bb : Nat) (m h : List (List UInt8)) : Prop := ∃ mv hv, BaseAt W base bb m h mv hv
theorem BI.go {W W' : World} {base bb : Nat} {m h : List (List UInt8)} (hi : BI W base bb m h) (hb : Below W.heap.size W W') : BI W' base bb m h := by
  obtain ⟨mv, hv, h⟩ := hi
  exact ⟨mv, hv, h.go hb⟩
theorem len_b {W : World} {base bb : Nat} {m h : List (List UInt8)} (hi : BI W base bb m h) (hb : Base m h) : Calls Tryd.prog 8 #[.pointer (some ⟨bb, 0, none⟩)] W fun e w' => e = .returned (.int .i64 (m.length + h.length : Nat)) ∧ Below W.heap.size W w' := by
  obtain ⟨mv, hv, hB⟩ := hi
  exact len_any hB (by have := hb.few; omega)
theorem has_b {W : World} {base bb : Nat} {m h : List (List UInt8)} {x : List UInt8} (hi : BI W base bb m h) (hb : Base m h) (hx : x.length ≤ 80000) : Calls Tryd.prog 9 #[.pointer (some ⟨bb, 0, none⟩), .string (bOf x)] W fun e w' => e = .returned (.bool (hasS m h x)) ∧ Below W.heap.size W w' := by
  obtain ⟨mv, hv, hB⟩ := hi
  exact has_any hB hb.ms hb.hs (by have := hb.few; omega) hx
theorem text_b {W : World} {base bb : Nat} {m h : List (List UInt8)} (hi : BI W base bb m h) (hb : Base m h) (hl : (textS m h).length ≤ 200000) : Calls Tryd.prog 7 #[.pointer (some ⟨bb, 0, none⟩)] W fun e w' => e = .returned (.string (bOf (textS m h))) ∧ Below W.heap.size W w' := by
  obtain ⟨mv, hv, hB⟩ := hi
  exact text_any hB (by have := hb.few; omega) hl
theorem bad_two {w : World} {base : Nat} {a : Option Addr} {c : Nat} {x1 x2 : Int} {y1 y2 : Nat} (h : RowB w base (.slice a 2 c) [(x1, y1), (x2, y2)]) :
    ∃ g, a = some ⟨g, 0, none⟩ ∧ w.cell? ⟨g, 0, none⟩ = some (.int .i64 x1) ∧ w.cell? ⟨g, 1, none⟩ = some (.int .i64 y1) ∧ w.cell? ⟨g, 2, none⟩ = some (.int .i64 x2) ∧ w.cell? ⟨g, 3, none⟩ = some (.int .i64 y2) := by
  rcases h.2 with ⟨h1, _⟩ | ⟨g, cap, cur, h1, _, hh, _, _, _, ht⟩
  · cases h1
  · injection h1 with h1
    subst h1
    refine ⟨g, rfl, ?_⟩
    have hg : ∀ j, j < 4 → cur[j]? = (badV [(x1, y1), (x2, y2)])[j]? := fun j hj => by
      rw [← ht, List.getElem?_take_of_lt (by simpa using hj), Array.getElem?_toList]
    exact ⟨by rw [cell_of_block hh, hg 0 (by omega)]; rfl, by rw [cell_of_block hh, hg 1 (by omega)]; rfl, by rw [cell_of_block hh, hg 2 (by omega)]; rfl, by rw [cell_of_block hh, hg 3 (by omega)]; rfl⟩
def knownL : List UInt8 := [35, 32, 107, 110, 111, 119, 110, 10, 117, 115, 101, 108, 101, 115, 115, 32, 116, 32, 110, 111, 32, 119, 111, 114, 100, 10, 99, 111, 110, 102, 108, 105, 99, 116, 32, 115, 32, 42, 10, 102, 105, 110, 101, 10, 117, 115, 101, 108, 101, 115, 115, 32, 116, 32, 110, 111, 32, 119, 111, 114, 100, 10]
def mK : List UInt8 := [117, 115, 101, 108, 101, 115, 115, 32, 116, 32, 110, 111, 32, 119, 111, 114, 100]
def hK : List UInt8 := [99, 111, 110, 102, 108, 105, 99, 116, 32, 115]
def q1 : List UInt8 := [99, 111, 110, 102, 108, 105, 99, 116, 32, 115, 32, 40, 32, 39, 97, 39, 32, 41, 32, 40, 32, 41, 32, 107, 32, 49, 32, 39, 97, 39]
def q2 : List UInt8 := [99, 111, 110, 102, 108, 105, 99, 116, 32, 115, 116, 32, 40, 32, 41, 32, 40, 32, 39, 97, 39, 32, 41, 32, 107, 32, 49]
theorem known_read : readS knownL = ⟨[mK], [hK], [(19, 4), (8, 5)]⟩ := by kernel_rfl
theorem known_q0 : hasS [mK] [hK] mK = true := by kernel_rfl
theorem known_q1 : hasS [mK] [hK] q1 = true := by kernel_rfl
theorem known_q2 : hasS [mK] [hK] q2 = false := by kernel_rfl
theorem known_text : textS [mK] [hK] = [117, 115, 101, 108, 101, 115, 115, 32, 116, 32, 110, 111, 32, 119, 111, 114, 100, 10, 99, 111, 110, 102, 108, 105, 99, 116, 32, 115, 32, 42, 10] := by kernel_rfl
theorem known_base : Base [mK] [hK] := by
  have := read_base knownL
  rwa [known_read] at this
set_option maxHeartbeats 2000000 in
theorem alive_any (m : Int) (w : World) (hm : w.cell? ⟨0, 0, none⟩ = some (.int .i64 m)) : Calls Tryd.prog 5 #[] w fun e w' => e = .returned (.bool true) ∧ Below w.heap.size w w' := by
  have HRd := Lib.hid (show Calls Tryd.prog 6 #[.string { data := #[35, 32, 107, 110, 111, 119, 110, 10, 117, 115, 101, 108, 101, 115, 115, 32, 116, 32, 110, 111, 32, 119, 111, 114, 100, 10, 99, 111, 110, 102, 108, 105, 99, 116, 32, 115, 32, 42, 10, 102, 105, 110, 101, 10, 117, 115, 101, 108, 101, 115, 115, 32, 116, 32, 110, 111, 32, 119, 111, 114, 100, 10] }] w fun e w' => ∃ bb base g c, e = .returned (.tuple #[.pointer (some ⟨bb, 0, none⟩), .slice (some ⟨g, 0, none⟩) 2 c]) ∧ Hid (BI w' base bb [mK] [hK]) ∧ w'.cell? ⟨g, 0, none⟩ = some (.int .i64 19) ∧ w'.cell? ⟨g, 1, none⟩ = some (.int .i64 4) ∧ w'.cell? ⟨g, 2, none⟩ = some (.int .i64 8) ∧ w'.cell? ⟨g, 3, none⟩ = some (.int .i64 5) ∧ Hid (Below w.heap.size w w') from by
    refine Calls.mono (read_any knownL (by decide) m w hm) ?_
    rintro e w' ⟨bb, base, a, c, he, hB, hR, hb⟩
    rw [known_read] at hB hR he
    obtain ⟨g, rfl, c0, c1, c2, c3⟩ := bad_two hR
    exact ⟨bb, base, g, c, he, Lib.hid hB, c0, c1, c2, c3, Lib.hid hb⟩)
  have H8 := Lib.hid (fun W base bb (h : BI W base bb [mK] [hK]) => show Calls Tryd.prog 8 #[.pointer (some ⟨bb, 0, none⟩)] W fun e w' => e = .returned (.int .i64 2) ∧ Below W.heap.size W w' from len_b h known_base)
  have H9a := Lib.hid (fun W base bb (h : BI W base bb [mK] [hK]) => show Calls Tryd.prog 9 #[.pointer (some ⟨bb, 0, none⟩), .string { data := #[117, 115, 101, 108, 101, 115, 115, 32, 116, 32, 110, 111, 32, 119, 111, 114, 100] }] W fun e w' => e = .returned (.bool true) ∧ Below W.heap.size W w' from by
    have h1 := has_b (x := mK) h known_base (by decide)
    rw [known_q0] at h1
    exact h1)
  have H9b := Lib.hid (fun W base bb (h : BI W base bb [mK] [hK]) => show Calls Tryd.prog 9 #[.pointer (some ⟨bb, 0, none⟩), .string { data := #[99, 111, 110, 102, 108, 105, 99, 116, 32, 115, 32, 40, 32, 39, 97, 39, 32, 41, 32, 40, 32, 41, 32, 107, 32, 49, 32, 39, 97, 39] }] W fun e w' => e = .returned (.bool true) ∧ Below W.heap.size W w' from by
    have h1 := has_b (x := q1) h known_base (by decide)
    rw [known_q1] at h1
    exact h1)
  have H9c := Lib.hid (fun W base bb (h : BI W base bb [mK] [hK]) => show Calls Tryd.prog 9 #[.pointer (some ⟨bb, 0, none⟩), .string { data := #[99, 111, 110, 102, 108, 105, 99, 116, 32, 115, 116, 32, 40, 32, 41, 32, 40, 32, 39, 97, 39, 32, 41, 32, 107, 32, 49] }] W fun e w' => e = .returned (.bool false) ∧ Below W.heap.size W w' from by
    have h1 := has_b (x := q2) h known_base (by decide)
    rw [known_q2] at h1
    exact h1)
  have H7 := Lib.hid (fun W base bb (h : BI W base bb [mK] [hK]) => show Calls Tryd.prog 7 #[.pointer (some ⟨bb, 0, none⟩)] W fun e w' => e = .returned (.string { data := #[117, 115, 101, 108, 101, 115, 115, 32, 116, 32, 110, 111, 32, 119, 111, 114, 100, 10, 99, 111, 110, 102, 108, 105, 99, 116, 32, 115, 32, 42, 10] }) ∧ Below W.heap.size W w' from by
    have h1 := text_b h known_base (by decide)
    rw [known_text] at h1
    exact h1)
  have HT := Lib.hid (fun (a b c : World) (h : Below w.heap.size w a) (k : Below a.heap.size a b) => h.trans (k.mono h.size))
  go_enter Tryd.func5, Tryd.ntmps5
  go_wp2_with (first
    | (go_at_call 7; refine (H7.out _ _ _ K4.out).mono ?_; rintro e w5 ⟨rfl, hb⟩; have T5 := Lib.hid (HT.out _ _ w5 T4.out hb); clear hb)
    | (go_at_call 9; refine (H9c.out _ _ _ K3.out).mono ?_; rintro e w4 ⟨rfl, hb⟩; have K4 := Lib.hid (K3.out.go hb); have T4 := Lib.hid (HT.out _ _ w4 T3.out hb); clear hb)
    | (go_at_call 9; refine (H9b.out _ _ _ K2.out).mono ?_; rintro e w3 ⟨rfl, hb⟩; have K3 := Lib.hid (K2.out.go hb); have T3 := Lib.hid (HT.out _ _ w3 T2.out hb); clear hb)
    | (go_at_call 9; refine (H9a.out _ _ _ K1.out).mono ?_; rintro e w2 ⟨rfl, hb⟩; have K2 := Lib.hid (K1.out.go hb); have T2 := Lib.hid (HT.out _ _ w2 T1.out hb); clear hb)
    | (go_at_call 8; refine (H8.out _ _ _ K0.out).mono ?_; rintro e w1 ⟨rfl, hb⟩; have K1 := Lib.hid (K0.out.go hb); have T1 := Lib.hid (HT.out _ _ w1 T0.out hb); clear hb)
    | (go_at_call 6; refine HRd.out.mono ?_; rintro e w0 ⟨bb, base, g, c, rfl, K0, c0, c1, c2, c3, T0⟩))
  all_goals (first | (go_ret; exact ⟨rfl, T5.out⟩) | exact ⟨rfl, T5.out⟩)
end Go.Proofs.YtlnaepemkeodoaaDoor
