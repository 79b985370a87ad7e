/- A base, read, written and read again: the walk. -/
import Derived.Test.YtlnaepemkeodoaaDoorAlive
namespace Go.Proofs.YtlnaepemkeodoaaDoor
open Go.RowKit
structure Two (w0 W : World) (b1 bb1 b2 bb2 : Nat) (m h : List (List UInt8)) : Prop where
  k : Below w0.heap.size w0 W
  a : BI W b1 bb1 m h
  b : BI W b2 bb2 m h
theorem Two.go {w0 W W' : World} {b1 bb1 b2 bb2 : Nat} {m h : List (List UInt8)} (ht : Two w0 W b1 bb1 b2 bb2 m h) (hb : Below W.heap.size W W') : Two w0 W' b1 bb1 b2 bb2 m h :=
  ⟨ht.k.trans (hb.mono ht.k.size), ht.a.go hb, ht.b.go hb⟩
theorem len_two {w0 W : World} {b1 bb1 b2 bb2 : Nat} {m h : List (List UInt8)} (ht : Two w0 W b1 bb1 b2 bb2 m h) (hb : Base m h) : (Calls Tryd.prog 8 #[.pointer (some ⟨bb1, 0, none⟩)] W fun e w' => e = .returned (.int .i64 (m.length + h.length : Nat)) ∧ Two w0 w' b1 bb1 b2 bb2 m h) ∧ Calls Tryd.prog 8 #[.pointer (some ⟨bb2, 0, none⟩)] W fun e w' => e = .returned (.int .i64 (m.length + h.length : Nat)) ∧ Two w0 w' b1 bb1 b2 bb2 m h :=
  ⟨(len_b ht.a hb).mono (fun _ _ h => ⟨h.1, ht.go h.2⟩), (len_b ht.b hb).mono (fun _ _ h => ⟨h.1, ht.go h.2⟩)⟩
theorem has_two {w0 W : World} {b1 bb1 b2 bb2 : Nat} {m h : List (List UInt8)} {x : List UInt8} (ht : Two w0 W b1 bb1 b2 bb2 m h) (hb : Base m h) (hx : x.length ≤ 80000) : (Calls Tryd.prog 9 #[.pointer (some ⟨bb1, 0, none⟩), .string (bOf x)] W fun e w' => e = .returned (.bool (hasS m h x)) ∧ Two w0 w' b1 bb1 b2 bb2 m h) ∧ Calls Tryd.prog 9 #[.pointer (some ⟨bb2, 0, none⟩), .string (bOf x)] W fun e w' => e = .returned (.bool (hasS m h x)) ∧ Two w0 w' b1 bb1 b2 bb2 m h :=
  ⟨(has_b ht.a hb hx).mono (fun _ _ h => ⟨h.1, ht.go h.2⟩), (has_b ht.b hb hx).mono (fun _ _ h => ⟨h.1, ht.go h.2⟩)⟩
theorem text_two {w0 W : World} {b1 bb1 b2 bb2 : Nat} {m h : List (List UInt8)} (ht : Two w0 W b1 bb1 b2 bb2 m h) (hb : Base m h) (hl : (textS m h).length ≤ 200000) : (Calls Tryd.prog 7 #[.pointer (some ⟨bb1, 0, none⟩)] W fun e w' => e = .returned (.string (bOf (textS m h))) ∧ Two w0 w' b1 bb1 b2 bb2 m h) ∧ Calls Tryd.prog 7 #[.pointer (some ⟨bb2, 0, none⟩)] W fun e w' => e = .returned (.string (bOf (textS m h))) ∧ Two w0 w' b1 bb1 b2 bb2 m h :=
  ⟨(text_b ht.a hb hl).mono (fun _ _ h => ⟨h.1, ht.go h.2⟩), (text_b ht.b hb hl).mono (fun _ _ h => ⟨h.1, ht.go h.2⟩)⟩
theorem cell_below {w0 W : World} {v : Value} (h : w0.cell? ⟨0, 0, none⟩ = some v) (hb : Below w0.heap.size w0 W) : W.cell? ⟨0, 0, none⟩ = some v :=
  (below_cell hb (block_of_cell h)).trans h
def Yes (w : World) (e : Ending) (w' : World) : Prop := e = .returned (.bool true) ∧ Below w.heap.size w w'
set_option maxHeartbeats 2000000 in
theorem baseBack_any (s x : ByteArray) (m : Int) (w : World) (hm : w.cell? ⟨0, 0, none⟩ = some (.int .i64 m)) : Calls Tryd.prog 3 #[.string s, .string x] w (Yes w) := by
  have HA := Lib.hid (alive_any m w hm)
  by_cases hs : 1500 < s.size
  · have hsi : (1500 : Int) < s.size := by omega
    go_enter Tryd.func3, Tryd.ntmps3
    go_wp2_with (go_at_call 5; refine HA.out.mono ?_; rintro e w0 ⟨rfl, hb⟩)
    all_goals (first | exact ⟨rfl, hb⟩ | (go_ret; exact ⟨rfl, hb⟩))
  · by_cases hx : 200 < x.size
    · have hsi : ¬ (1500 : Int) < s.size := by omega
      have hxi : (200 : Int) < x.size := by omega
      go_enter Tryd.func3, Tryd.ntmps3
      go_wp2_with (go_at_call 5; refine HA.out.mono ?_; rintro e w0 ⟨rfl, hb⟩)
      all_goals (first | exact ⟨rfl, hb⟩ | (go_ret; exact ⟨rfl, hb⟩))
    · have hsi : ¬ (1500 : Int) < s.size := by omega
      have hxi : ¬ (200 : Int) < x.size := by omega
      have hsl : s.data.toList.length = s.size := by simp
      have hxl : x.data.toList.length = x.size := by simp
      have hBs := read_base s.data.toList
      have hwd := read_wide s.data.toList
      have HR1 := Lib.hid (fun W (hW : Below w.heap.size w W) => show Calls Tryd.prog 6 #[.string s] W fun e w' => ∃ bb base a n c, e = .returned (.tuple #[.pointer (some ⟨bb, 0, none⟩), .slice a n c]) ∧ Hid (BI w' base bb (readS s.data.toList).marks (readS s.data.toList).heads ∧ Below w.heap.size w w') from by
        have h := read_any s.data.toList (by omega) m W (cell_below hm hW)
        rw [bOf_self] at h
        refine h.mono ?_
        rintro e w' ⟨bb, base, a, c, rfl, hB, _, hb⟩
        exact ⟨bb, base, a, _, c, rfl, Lib.hid ⟨hB, hW.trans (hb.mono hW.size)⟩⟩)
      generalize (readS s.data.toList).marks = mm at *
      generalize (readS s.data.toList).heads = hh at *
      have HT1 := Lib.hid (fun W base bb (h : BI W base bb mm hh ∧ Below w.heap.size w W) => show Calls Tryd.prog 7 #[.pointer (some ⟨bb, 0, none⟩)] W fun e w' => e = .returned (.string (bOf (textS mm hh))) ∧ Hid (BI w' base bb mm hh ∧ Below w.heap.size w w') from
        (text_b h.1 hBs (by omega)).mono (fun _ _ h2 => ⟨h2.1, Lib.hid ⟨h.1.go h2.2, h.2.trans (h2.2.mono h.2.size)⟩⟩))
      have HR2 := Lib.hid (fun W base bb (hW : BI W base bb mm hh ∧ Below w.heap.size w W) => show Calls Tryd.prog 6 #[.string (bOf (textS mm hh))] W fun e w' => ∃ bb2 base2 a c, e = .returned (.tuple #[.pointer (some ⟨bb2, 0, none⟩), .slice a 0 c]) ∧ Hid (Two w w' base bb base2 bb2 mm hh) from by
        have h := read_any (textS mm hh) (by omega) m W (cell_below hm hW.2)
        refine h.mono ?_
        rintro e w' ⟨bb2, base2, a, c, rfl, hB, _, hb⟩
        rw [back hBs] at hB ⊢
        exact ⟨bb2, base2, a, c, rfl, Lib.hid ⟨hW.2.trans (hb.mono hW.2.size), hW.1.go hb, hB⟩⟩)
      have H8 := Lib.hid (fun W b1 bb1 b2 bb2 (h : Two w W b1 bb1 b2 bb2 mm hh) => len_two h hBs)
      have H7 := Lib.hid (fun W b1 bb1 b2 bb2 (h : Two w W b1 bb1 b2 bb2 mm hh) => text_two h hBs (by omega))
      have H9 := Lib.hid (fun W b1 bb1 b2 bb2 (h : Two w W b1 bb1 b2 bb2 mm hh) => has_two (x := x.data.toList) h hBs (by omega))
      rw [bOf_self] at H9
      generalize hasS mm hh x.data.toList = R at *
      generalize bOf (textS mm hh) = T at *
      generalize mm.length + hh.length = N at *
      have hR : (R == R) = true := by simp
      clear hwd hBs hsl hxl
      go_enter Tryd.func3, Tryd.ntmps3
      go_wp2_with (first
        | (go_at_call 9; refine (H9.out _ _ _ _ _ K5.out).1.mono ?_; rintro e w6 ⟨rfl, hb⟩; have K6 := Lib.hid hb; clear hb)
        | (go_at_call 9; refine (H9.out _ _ _ _ _ K4.out).2.mono ?_; rintro e w5 ⟨rfl, hb⟩; have K5 := Lib.hid hb; clear hb)
        | (go_at_call 7; refine (H7.out _ _ _ _ _ K3.out).1.mono ?_; rintro e w4 ⟨rfl, hb⟩; have K4 := Lib.hid hb; clear hb)
        | (go_at_call 7; refine (H7.out _ _ _ _ _ K2.out).2.mono ?_; rintro e w3 ⟨rfl, hb⟩; have K3 := Lib.hid hb; clear hb)
        | (go_at_call 8; refine (H8.out _ _ _ _ _ K1.out).1.mono ?_; rintro e w2 ⟨rfl, hb⟩; have K2 := Lib.hid hb; clear hb)
        | (go_at_call 8; refine (H8.out _ _ _ _ _ K0.out).2.mono ?_; rintro e w1 ⟨rfl, hb⟩; have K1 := Lib.hid hb; clear hb)
        | (go_at_call 6; refine (HR2.out _ _ _ J1.out).mono ?_; rintro e w0 ⟨bb2, base2, a2, c2, rfl, K0⟩)
        | (go_at_call 7; refine (HT1.out _ _ _ J0.out).mono ?_; rintro e v1 ⟨rfl, J1⟩)
        | (go_at_call 6; refine (HR1.out _ A0.out).mono ?_; rintro e v0 ⟨bb, base, a, n, c, rfl, J0⟩)
        | (go_at_call 5; refine HA.out.mono ?_; rintro e w0 ⟨rfl, hb⟩; have A0 := Lib.hid hb; clear hb))
      all_goals (first | (go_ret; exact ⟨by simp, K6.out.k⟩) | exact ⟨by simp, K6.out.k⟩ | (go_ret; exact ⟨rfl, K6.out.k⟩))
end Go.Proofs.YtlnaepemkeodoaaDoor
