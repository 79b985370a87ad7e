/- The document's example holds. -/
import Derived.Test.YtfiafmhnmafnbaaFrame
namespace Go.Proofs.Ytfiafmhnmafnbaa
open Go.RowKit
theorem ints_built {w : World} {b : Nat} {cs : Array Value} {t : TypeId} {xs : List Int} (h : w.heap[b]? = some (.cells cs t (0, 0))) (he : cs.toList = xs.map (Value.int .i64)) : Ints w w.heap.size (some ⟨b, 0, none⟩) xs := fun i hi => by
  refine ⟨b, 0, rfl, lt_of_block h, ?_⟩
  rw [cell_of_block h, Nat.zero_add, ← Array.getElem?_toList, he]
  simp [hi]
theorem ints_new (w : World) (cs : Array Value) (xs : List Int) (he : cs.toList = xs.map (Value.int .i64)) : Ints (w.alloc (.cells cs 3)) (w.alloc (.cells cs 3)).heap.size (some ⟨w.heap.size, 0, none⟩) xs := ints_built (heap_alloc_this _ _) he
theorem al1 (n : Nat) : yieldS (pairsG n) [0] [0, 1] = ([0, 1], 0) := by
  have e : repS (pairsG n) [0] 0 [0, 1] = ([-1, -2], 0, 0) := by rfl
  unfold yieldS
  rw [e]
  rfl
theorem al2 (n : Nat) : yieldS (pairsG n) [0] [0] = ([], 13) := by
  have e : repS (pairsG n) [0] 0 [0] = ([-1, 0, -2], 0, 0) := by rfl
  unfold yieldS
  rw [e]
  rfl
def AlivePost (w : World) (e : Ending) (w' : World) : Prop := e = .returned (.bool true) ∧ Below w.heap.size w w'
set_option maxRecDepth 100000 in
set_option maxHeartbeats 4000000 in
theorem alive_any (w : World) : Calls Try.prog 7 #[] w (AlivePost w) := by
  go_enter Try.func7, Try.ntmps7
  go_wp2_with fail
  refine (pairs_any _).mono ?_
  rintro e w1 ⟨rfl, hg1, hb1⟩
  have HG1 := Lib.hid hg1
  have HB1 := Lib.hid (show Grow w w1 from hb1)
  clear hg1 hb1
  generalize hG : GV (pairsG w.heap.size) = G1 at *
  have HGG1 := Lib.hid hG
  clear hG
  go_wp2_with fail
  rw [← HGG1.out]
  refine (of_any (B := (w1.alloc (.cells #[.int .i64 0, .int .i64 1] 3)).heap.size) (rules := [0, 1]) (GramAt.mono (HG1.out.below ((Below.refl _ _).alloc (Nat.le_refl _) _)) (by simp)) (Nat.le_refl _) (pairs_small _) (pairs_ok _) (ints_new _ _ _ rfl) (by decide) (by decide) (by decide) (by decide)).mono ?_
  rintro e w2 ⟨hb2, ⟨-, t, he, ht1, ht2, ht3, ht4, ht5, ht6⟩ | ⟨hno, -⟩⟩
  rotate_left
  · rw [al1] at hno
    exact absurd rfl hno
  unfold MT.ptr at he
  subst he
  have hpt := pairs_tree ht4 ht1 ht2
  have HT2 := Lib.hid (show Tre (w1.alloc (.cells #[.int .i64 0, .int .i64 1] 3)).heap.size w2 t from ht5)
  have HPT := Lib.hid hpt
  have HPS := Lib.hid (show t.pt.size ≤ 10000 by rw [hpt]; decide)
  have HB2 := Lib.hid (HB1.out.trans ((show Grow w1 (w1.alloc (.cells #[.int .i64 0, .int .i64 1] 3)) from (Below.refl _ _).alloc (Nat.le_refl _) _).trans hb2))
  clear hb2 ht1 ht2 ht3 ht4 ht5 ht6 hpt HG1 HB1 HGG1
  go_wp2_with fail
  refine (pairs_any _).mono ?_
  rintro e w3 ⟨rfl, hg1, hb1⟩
  have HG1 := Lib.hid hg1
  have HB3 := Lib.hid (HB2.out.trans hb1)
  have HT3 := Lib.hid (HT2.out.go hb1)
  clear hg1 hb1 HB2 HT2
  generalize hG : GV (pairsG w2.heap.size) = G1 at *
  have HGG1 := Lib.hid hG
  clear hG
  go_wp2_with fail
  rw [← HGG1.out]
  refine (of_any (B := (w3.alloc (.cells #[.int .i64 0] 3)).heap.size) (rules := [0]) (GramAt.mono (HG1.out.below ((Below.refl _ _).alloc (Nat.le_refl _) _)) (by simp)) (Nat.le_refl _) (pairs_small _) (pairs_ok _) (ints_new _ _ _ rfl) (by decide) (by decide) (by decide) (by decide)).mono ?_
  rintro e w4 ⟨hb4, ⟨hno, -⟩ | ⟨-, he⟩⟩
  · rw [al2] at hno
    exact absurd hno (by decide)
  rw [al2] at he
  subst he
  have hg4 : Grow w3 w4 := (show Grow w3 (w3.alloc (.cells #[.int .i64 0] 3)) from (Below.refl _ _).alloc (Nat.le_refl _) _).trans hb4
  have HB4 := Lib.hid (HB3.out.trans hg4)
  have HT4 := Lib.hid (HT3.out.go hg4)
  clear hb4 hg4 HG1 HB3 HGG1 HT3
  go_wp2_with fail
  refine (pairs_any _).mono ?_
  rintro e w5 ⟨rfl, hg1, hb1⟩
  have HG1 := Lib.hid hg1
  have HB5 := Lib.hid (HB4.out.trans hb1)
  have HT5 := Lib.hid (HT4.out.go hb1)
  clear hg1 hb1 HB4 HT4
  generalize hG : GV (pairsG w4.heap.size) = G1 at *
  have HGG1 := Lib.hid hG
  clear hG
  have HTX := Lib.hid (text_any (g := pairsG w4.heap.size) (pairs_brief _) t HG1.out (Nat.le_refl _) HT5.out (by rw [HPT.out]; exact pairsT_named _) HPS.out)
  rw [HPT.out, pairsT_text, HGG1.out] at HTX
  unfold MT.ptr at HTX
  go_wp2_with fail
  refine HTX.out.mono ?_
  rintro e w6 ⟨rfl, hb⟩
  have HB6 := Lib.hid (HB5.out.trans hb)
  have HT6 := Lib.hid (HT5.out.go hb)
  clear hb HB5 HT5 HG1 HGG1 HTX
  have HSX := Lib.hid (size_bx HT6.out HPS.out)
  rw [HPT.out, show pairsT.size = 4 from rfl] at HSX
  go_wp2_with fail
  refine HSX.out.mono ?_
  rintro e w7 ⟨rfl, hb⟩
  have HB7 := Lib.hid (HB6.out.trans hb)
  have HT7 := Lib.hid (HT6.out.go hb)
  clear hb HB6 HT6 HSX
  have HSX := Lib.hid (height_bx HT7.out HPS.out)
  rw [HPT.out, show pairsT.height = 2 from rfl] at HSX
  go_wp2_with fail
  refine HSX.out.mono ?_
  rintro e w8 ⟨rfl, hb⟩
  have HB8 := Lib.hid (HB7.out.trans hb)
  have HT8 := Lib.hid (HT7.out.go hb)
  clear hb HB7 HT7 HSX
  have HSX := Lib.hid (word_bx HT8.out HPS.out)
  rw [HPT.out, show pairsT.leaves.map nt = [0, 1] from rfl] at HSX
  go_wp2_with fail
  refine HSX.out.mono ?_
  rintro e w9 ⟨a9, c9, rfl, hl, hb, -, -, -⟩
  have HB9 := Lib.hid (HB8.out.trans hb)
  have HT9 := Lib.hid (HT8.out.go hb)
  have HL9 := Lib.hid hl
  clear hb hl HB8 HT8 HSX
  simp only [List.length_cons, List.length_nil] at *
  have hg9 : Grow w9 (w9.alloc (.cells #[.int .i64 0, .int .i64 1] 3)) := (Below.refl _ _).alloc (Nat.le_refl _) _
  have HSX := Lib.hid (same_bx (cap := c9) (cb := 2) (HL9.out.go hg9) (show Lst _ _ [0, 1] from ints_new w9 #[.int .i64 0, .int .i64 1] [0, 1] rfl) (by decide) (by decide))
  rw [decide_eq_true (rfl : ([0, 1] : List Int) = [0, 1])] at HSX
  have HGG9 := Lib.hid hg9
  clear hg9
  go_wp2_with fail
  refine HSX.out.mono ?_
  rintro e w10 ⟨rfl, hb⟩
  have HB10 := Lib.hid ((HB9.out.trans HGG9.out).trans hb)
  have HT10 := Lib.hid ((HT9.out.go HGG9.out).go hb)
  clear hb HB9 HT9 HSX HGG9 HL9
  have HSX := Lib.hid (rules_bx HT10.out HPS.out)
  rw [HPT.out, show pairsT.rules = [0, 1] from rfl] at HSX
  go_wp2_with fail
  refine HSX.out.mono ?_
  rintro e w11 ⟨a11, c11, rfl, hl, hb, -, -, -⟩
  have HB11 := Lib.hid (HB10.out.trans hb)
  have HT11 := Lib.hid (HT10.out.go hb)
  have HL11 := Lib.hid hl
  clear hb hl HB10 HT10 HSX
  simp only [List.length_cons, List.length_nil] at *
  have hg11 : Grow w11 (w11.alloc (.cells #[.int .i64 0, .int .i64 1] 3)) := (Below.refl _ _).alloc (Nat.le_refl _) _
  have HSX := Lib.hid (same_bx (cap := c11) (cb := 2) (HL11.out.go hg11) (show Lst _ _ [0, 1] from ints_new w11 #[.int .i64 0, .int .i64 1] [0, 1] rfl) (by decide) (by decide))
  rw [decide_eq_true (rfl : ([0, 1] : List Int) = [0, 1])] at HSX
  have HGG11 := Lib.hid hg11
  clear hg11
  go_wp2_with fail
  refine HSX.out.mono ?_
  rintro e w12 ⟨rfl, hb⟩
  have HB12 := Lib.hid ((HB11.out.trans HGG11.out).trans hb)
  have HT12 := Lib.hid ((HT11.out.go HGG11.out).go hb)
  clear hb HB11 HT11 HSX HGG11 HL11
  go_wp2_with fail
  refine (pairs_any _).mono ?_
  rintro e w13 ⟨rfl, hg1, hb1⟩
  have HG1 := Lib.hid hg1
  have HB13 := Lib.hid (HB12.out.trans hb1)
  have HT13 := Lib.hid (HT12.out.go hb1)
  clear hg1 hb1 HB12 HT12
  generalize hG : GV (pairsG w12.heap.size) = G1 at *
  have HGG1 := Lib.hid hG
  clear hG
  have HTX := Lib.hid (valid_any (g := pairsG w12.heap.size) (pairs_small _) t HG1.out (Nat.le_refl _) HT13.out (by have := HPS.out; omega))
  rw [HPT.out, pairsT_valid, HGG1.out] at HTX
  unfold MT.ptr at HTX
  go_wp2_with fail
  refine HTX.out.mono ?_
  rintro e w14 ⟨rfl, hb⟩
  have HB14 := Lib.hid (HB13.out.trans hb)
  have HT14 := Lib.hid (HT13.out.go hb)
  clear hb HB13 HT13 HG1 HGG1 HTX
  have HSX := Lib.hid (sameN_bx HT14.out HT14.out HPS.out HPS.out)
  rw [eqb_true rfl] at HSX
  go_wp2_with fail
  refine HSX.out.mono ?_
  rintro e w15 ⟨rfl, hb⟩
  have HB15 := Lib.hid (HB14.out.trans hb)
  clear hb HB14 HT14 HSX
  go_wp2
  go_ret
  exact ⟨rfl, HB15.out⟩
end Go.Proofs.Ytfiafmhnmafnbaa
