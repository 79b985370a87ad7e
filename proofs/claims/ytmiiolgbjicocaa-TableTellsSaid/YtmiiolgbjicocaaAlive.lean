/- The document's example holds. -/
import Derived.Test.YtmiiolgbjicocaaOnes
namespace Go.Proofs.Ytmiiolgbjicocaa
open Go.RowKit
theorem ints_built {w : World} {b : Nat} {cs : Array Value} {t : TypeId} {xs : List Int} (h : w.heap[b]? = some (.cells cs t (0, 0))) (he : cs.toList = xs.map (Value.int .i64)) : Ints w w.heap.size (some ⟨b, 0, none⟩) xs := fun i hi => by
  refine ⟨b, 0, rfl, lt_of_block h, ?_⟩
  rw [cell_of_block h, Nat.zero_add, ← Array.getElem?_toList, he]
  simp [hi]
theorem ints_new (w : World) (cs : Array Value) (xs : List Int) (he : cs.toList = xs.map (Value.int .i64)) : Ints (w.alloc (.cells cs 3)) (w.alloc (.cells cs 3)).heap.size (some ⟨w.heap.size, 0, none⟩) xs := ints_built (heap_alloc_this _ _) he
/-- A table of the example's. -/
def TabK (tb : Nat) (K : Int) (x : List TRow) (w : World) : Prop := ∃ lo ob oc ρ m, TabM lo ρ tb ob 1 oc K (onesG m) [x] w ∧ GramAt w w.heap.size (onesG m)
theorem TabK.go {tb : Nat} {K : Int} {x : List TRow} {w w' : World} (h : TabK tb K x w) (hg : Grow w w') : TabK tb K x w' := by
  obtain ⟨lo, ob, oc, ρ, m, h1, h2⟩ := h
  exact ⟨lo, ob, oc, ρ, m, h1.grow hg, gram_up (h2.below hg) hg.size⟩
theorem ones_left (n : Nat) : ∀ i (h : i < (onesG n).rules.length), 0 ≤ (onesG n).rules[i].left ∧ (onesG n).rules[i].right.length ≤ (onesG n).rules[i].rc := fun i hi => by
  have hi2 : i < 2 := hi
  match i, hi2 with
  | 0, _ => exact ⟨by simp [onesG], by simp [onesG]⟩
  | 1, _ => exact ⟨by simp [onesG], by simp [onesG]⟩
def SetsPost (K : Int) (n : Nat) (w : World) (e : Ending) (w' : World) : Prop := Grow w w' ∧ ∃ sb F Fo, e = .returned (.tuple #[.pointer (some ⟨sb, 0, none⟩), .bool true]) ∧ GoodSets K 100 (onesG n) sb F Fo w'
theorem ones_sets {w : World} {n : Nat} (hg : GramAt w w.heap.size (onesG n)) {K : Int} (hK : 1 ≤ K ∧ K ≤ 2) : Calls Try.prog 10 #[GV (onesG n), .int .i64 K, .int .i64 100] w (SetsPost K n w) := by
  refine (first_any hg (Nat.le_refl _) hK (n := 100) (by decide) (by show 0 < 1 ∧ 1 ≤ 8; decide) (by rw [ones_rules]; exact ones_good) (by show 2 ≤ 24; decide) (ones_left n)).mono ?_
  rintro e w' ⟨h1, ⟨sb, F, Fo, rfl, h2⟩ | ⟨_, h2⟩⟩
  · exact ⟨h1, sb, F, Fo, rfl, h2⟩
  · exact absurd (by rw [ones_rules] at h2; exact h2) (ones_few hK.2)
theorem GoodSets.go {K n : Int} {g : GramD} {sb : Nat} {F Fo : List Wds} {w w' : World} (h : GoodSets K n g sb F Fo w) (hg : Grow w w') : GoodSets K n g sb F Fo w' := ⟨h.1.go hg, h.2⟩
def TabPost (K : Int) (x : List TRow) (w : World) (e : Ending) (w' : World) : Prop := Grow w w' ∧ ∃ tb, e = .returned (.pointer (some ⟨tb, 0, none⟩)) ∧ TabK tb K x w'
theorem ones_tab {w : World} {n m sb : Nat} (hg : GramAt w w.heap.size (onesG m)) (hgs : GramAt w w.heap.size (onesG n)) {K : Int} {F Fo : List Wds} (hS : GoodSets K 100 (onesG n) sb F Fo w) (hK : 1 ≤ K ∧ K ≤ 2) {x : List TRow} (hx : RowsOf (addsOf K (onesG m) F Fo 2) 0 x) :
    Calls Try.prog 11 #[GV (onesG m), .pointer (some ⟨sb, 0, none⟩)] w (TabPost K x w) := by
  refine (tof_any hg hgs rfl rfl (Nat.le_refl _) hS hK (by show 0 < 1 ∧ 1 ≤ 8; decide) (by rw [ones_rules]; exact ones_good) (by show 2 ≤ 24; decide) (fun i h => (ones_left m i h).1) (fun i h => (ones_left n i h).1)).mono ?_
  rintro e w' ⟨tb, rfl, h1, lo, ob, oc, ρ, T, h2, h3⟩
  have hl : T.length = 1 := h2.len
  match T, hl with
  | [y], _ =>
    have h4 := h3 0 y rfl
    have e2 := rows_unique h4 hx
    subst e2
    exact ⟨h1, tb, rfl, lo, ob, oc, ρ, m, h2, gram_up (hg.below h1) h1.size⟩
def x1 : List TRow := [([0], [0, 1])]
def x2 : List TRow := [([0], [1]), ([0, 0], [0])]
theorem x1_small : x1.length ≤ 100000 ∧ ∀ r ∈ x1, r.1.length ≤ 100000 ∧ r.2.length ≤ 100000 := by decide
theorem x2_small : x2.length ≤ 100000 ∧ ∀ r ∈ x2, r.1.length ≤ 100000 ∧ r.2.length ≤ 100000 := by decide
theorem tabK_clash {tb : Nat} {K : Int} {x : List TRow} {w : World} (h : TabK tb K x w) (hx : x.length ≤ 100000 ∧ ∀ r ∈ x, r.1.length ≤ 100000 ∧ r.2.length ≤ 100000) {C : List ClD} (hC : ∀ n, clV (onesG n).rules [x] 1 = C) : Calls Try.prog 19 #[.pointer (some ⟨tb, 0, none⟩)] w (ClashPost C w) := by
  obtain ⟨lo, ob, oc, ρ, m, h1, h2⟩ := h
  rw [← hC m]
  refine clashes_any h1 h2 (Nat.le_refl _) (fun i j hi hj _ => ?_) (by show 2 ≤ 256; decide) (by decide) (fun v y hy => ?_)
  · have hi2 : i < 2 := hi
    have hj2 : j < 2 := hj
    match i, j, hi2, hj2 with
    | 0, 0, _, _ => exact Int.le_refl _
    | 0, 1, _, _ => exact Int.le_refl _
    | 1, 0, _, _ => exact Int.le_refl _
    | 1, 1, _, _ => exact Int.le_refl _
  · match v, hy with
    | 0, hy => simp at hy; subst hy; exact hx
    | v + 1, hy => simp at hy
theorem tabK_read {tb : Nat} {K : Int} {x : List TRow} {w : World} (h : TabK tb K x w) : TRows w tb 0 1 x ∧ w.cell? ⟨tb, 0, none⟩ = some (.int .i64 K) := by
  obtain ⟨lo, ob, oc, ρ, m, h1, h2⟩ := h
  exact ⟨h1.read (v := 0) rfl, cell_of_block (off := 0) h1.base.tab⟩
theorem x2_sorted : Sorted (x2.map Prod.fst) := ones_rows2.srt
theorem x1_sorted : Sorted (x1.map Prod.fst) := ones_rows1.srt
def AlivePost (w : World) (e : Ending) (w' : World) : Prop := e = .returned (.bool true) ∧ Below w.heap.size w w'
set_option maxRecDepth 100000 in
set_option maxHeartbeats 4000000 in
theorem alive_any (w : World) : Calls Try.prog 7 #[] w (AlivePost w) := by
  have HP : Hid (∀ W, Grow w W → AlivePost w (.returned (.bool true)) W) := Lib.hid (fun W h => ⟨rfl, h⟩)
  generalize AlivePost w = Po at *
  go_enter Try.func7, Try.ntmps7
  go_wp2_with fail
  refine (ones_any _).mono ?_
  rintro e w1 ⟨rfl, hg1, hb1⟩
  have HS1 := Lib.hid (ones_sets hg1 (K := 1) (by decide))
  have HG1 := Lib.hid hg1
  have HB1 := Lib.hid hb1
  clear hg1 hb1
  generalize hq1 : GV (onesG w.heap.size) = q1 at *
  have HQ1 := Lib.hid hq1
  clear hq1
  generalize w.heap.size = n1 at *
  go_wp2_with fail
  refine HS1.out.mono ?_
  rintro e w2 ⟨hg2, sb1, F1, Fo1, rfl, hgs1⟩
  obtain rfl := ones_first1 hgs1
  obtain rfl := ones_fol hgs1
  have HB2 := Lib.hid (HB1.out.trans hg2)
  have HGS1 := Lib.hid hgs1
  have HG2 := Lib.hid (gram_up (HG1.out.below hg2) hg2.size)
  clear hg2 hgs1 HS1 HB1 HG1
  go_wp2_with fail
  refine (ones_any _).mono ?_
  rintro e w3 ⟨rfl, hg3, hb3⟩
  have HS3 := Lib.hid (ones_sets hg3 (K := 2) (by decide))
  have HG3 := Lib.hid hg3
  have HB3 := Lib.hid (HB2.out.trans hb3)
  have HGS3 := Lib.hid (HGS1.out.go hb3)
  have HG13 := Lib.hid (gram_up (HG2.out.below hb3) hb3.size)
  clear hg3 hb3 HB2 HGS1 HG2
  generalize hq3 : GV (onesG w2.heap.size) = q3 at *
  have HQ3 := Lib.hid hq3
  clear hq3
  generalize w2.heap.size = n3 at *
  go_wp2_with fail
  refine HS3.out.mono ?_
  rintro e w4 ⟨hg4, sb2, F2, Fo2, rfl, hgs2⟩
  obtain rfl := ones_first2 hgs2
  obtain rfl := ones_fol hgs2
  have HB4 := Lib.hid (HB3.out.trans hg4)
  have HGS2 := Lib.hid hgs2
  have HGS4 := Lib.hid (HGS3.out.go hg4)
  have HG4 := Lib.hid (gram_up (HG3.out.below hg4) hg4.size)
  have HG14 := Lib.hid (gram_up (HG13.out.below hg4) hg4.size)
  clear hg4 hgs2 HS3 HB3 HG3 HG13 HGS3
  go_wp2_with fail
  refine (ones_any _).mono ?_
  rintro e w5 ⟨rfl, hg5, hb5⟩
  have HT5 := Lib.hid (ones_tab hg5 (gram_up (HG14.out.below hb5) hb5.size) (HGS4.out.go hb5) (by decide) (x := x1) (by rw [ones_adds1]; exact ones_rows1))
  have HB5 := Lib.hid (HB4.out.trans hb5)
  have HGS5 := Lib.hid (HGS2.out.go hb5)
  have HG5 := Lib.hid (gram_up (HG4.out.below hb5) hb5.size)
  clear hg5 hb5 HB4 HGS2 HGS4 HG4 HG14
  generalize hq5 : GV (onesG w4.heap.size) = q5 at *
  clear hq5
  generalize w4.heap.size = n5 at *
  go_wp2_with fail
  refine HT5.out.mono ?_
  rintro e w6 ⟨hg6, tb1, rfl, ht6⟩
  have HB6 := Lib.hid (HB5.out.trans hg6)
  have HT6 := Lib.hid ht6
  have HGS6 := Lib.hid (HGS5.out.go hg6)
  have HG6 := Lib.hid (gram_up (HG5.out.below hg6) hg6.size)
  clear hg6 ht6 HT5 HB5 HGS5 HG5
  go_wp2_with fail
  refine (ones_any _).mono ?_
  rintro e w7 ⟨rfl, hg7, hb7⟩
  have HT7 := Lib.hid (ones_tab hg7 (gram_up (HG6.out.below hb7) hb7.size) (HGS6.out.go hb7) (by decide) (x := x2) (by rw [ones_adds2]; exact ones_rows2))
  have HB7 := Lib.hid (HB6.out.trans hb7)
  have HT67 := Lib.hid (HT6.out.go hb7)
  clear hg7 hb7 HB6 HT6 HGS6 HG6
  generalize hq7 : GV (onesG w6.heap.size) = q7 at *
  clear hq7
  generalize w6.heap.size = n7 at *
  go_wp2_with fail
  refine HT7.out.mono ?_
  rintro e w8 ⟨hg8, tb2, rfl, ht8⟩
  have HB8 := Lib.hid (HB7.out.trans hg8)
  have HA8 := Lib.hid (HT67.out.go hg8)
  have HC8 := Lib.hid ht8
  clear hg8 ht8 HT7 HB7 HT67
  have HCL := Lib.hid (tabK_clash HA8.out x1_small (C := [(0, 0, 1, [0])]) (fun _ => rfl))
  go_wp2_with fail
  refine HCL.out.mono ?_
  rintro e w9 ⟨cv, rfl, hco, hg9⟩
  obtain ⟨ca, cc, rfl⟩ := cout_form hco
  obtain ⟨rb, la, lc, rfl, hrb, e0, e1, e2, e3, e4⟩ := cout_at hco (i := 0) (by decide)
  have c1 : w9.cell? ⟨rb, 1, none⟩ = some (.int .i64 0) := e1
  have c2 : w9.cell? ⟨rb, 2, none⟩ = some (.int .i64 1) := e2
  have c3 : w9.cell? ⟨rb, 3, none⟩ = some (.slice la 1 lc) := e3
  rw [show ([(0, 0, 1, [0])] : List ClD).length = 1 from rfl]
  have HB9 := Lib.hid (HB8.out.trans hg9)
  have HA9 := Lib.hid (HA8.out.go hg9)
  have HC9 := Lib.hid (HC8.out.go hg9)
  have HE4 := Lib.hid (show Lst w9 la [0] from e4)
  clear hco hg9 HCL HB8 HA8 HC8 e0 e1 e2 e3 e4
  go_wp2_with fail
  refine (same_any (B := (w9.alloc (.cells #[.int .i64 0] 3)).heap.size) (xs := [0]) (ys := [0]) (Lst.go HE4.out (grow_one _ _)) (ints_new _ _ _ rfl) (by decide) (by decide)).mono ?_
  rintro e w10 ⟨rfl, n10, rfl⟩
  rw [show decide (([0] : List Int) = [0]) = true from rfl]
  have hb10 : Grow w9 ((w9.alloc (.cells #[.int .i64 0] 3)).drewN n10) := (grow_one _ _).trans ⟨rfl, rfl, rfl, Nat.le_refl _, fun _ _ => rfl⟩
  have HB10 := Lib.hid (HB9.out.trans hb10)
  have HA10 := Lib.hid (HA9.out.go hb10)
  have HC10 := Lib.hid (HC9.out.go hb10)
  clear hb10 HB9 HA9 HC9 HE4 c1 c2 c3 hrb
  generalize (w9.alloc (.cells #[.int .i64 0] 3)).drewN n10 = w10 at *
  have HCR := Lib.hid (clear_any (tabK_read HA10.out).1 x1_small.2 x1_small.1)
  rw [show clearT x1 = false from rfl] at HCR
  go_wp2_with fail
  refine HCR.out.mono ?_
  rintro e w11 ⟨rfl, hg11⟩
  have HB11 := Lib.hid (HB10.out.trans hg11)
  have HC11 := Lib.hid (HC10.out.go hg11)
  clear hg11 HB10 HA10 HC10 HCR
  have HCR := Lib.hid (clear_any (tabK_read HC11.out).1 x2_small.2 x2_small.1)
  rw [show clearT x2 = true from rfl] at HCR
  go_wp2_with fail
  refine HCR.out.mono ?_
  rintro e w12 ⟨rfl, hg12⟩
  have HB12 := Lib.hid (HB11.out.trans hg12)
  have HC12 := Lib.hid (HC11.out.go hg12)
  clear hg12 HB11 HC11 HCR
  have HCL := Lib.hid (tabK_clash HC12.out x2_small (C := []) (fun _ => rfl))
  go_wp2_with fail
  refine HCL.out.mono ?_
  rintro e w13 ⟨cv, rfl, hco, hg13⟩
  obtain ⟨ca, cc, rfl⟩ := cout_form hco
  rw [show ([] : List ClD).length = 0 from rfl]
  have HB13 := Lib.hid (HB12.out.trans hg13)
  have HC13 := Lib.hid (HC12.out.go hg13)
  clear hco hg13 HCL HB12 HC12
  have HT13 := Lib.hid (tabK_read (HC13.out.go (grow_one _ (.cells #[.int .i64 0, .int .i64 0, .int .i64 0] 3))))
  have HF := Lib.hid (tfind_walk (c := 3) (xs := [0, 0, 0]) HT13.out.1 HT13.out.2 x2_sorted (ints_new w13 #[.int .i64 0, .int .i64 0, .int .i64 0] [0, 0, 0] rfl) (fun h => by cases h) (by decide) (by decide) x2_small.2 x2_small.1)
  rw [show findT x2 (cutL [0, 0, 0] 2) = [0] from rfl] at HF
  go_wp2_with fail
  refine HF.out.mono ?_
  rintro e w14 ⟨a14, c14, rfl, hl14, -, hg14⟩
  have HB14 := Lib.hid (HB13.out.trans ((grow_one _ _).trans hg14))
  have HC14 := Lib.hid (HC13.out.go ((grow_one _ _).trans hg14))
  have HL14 := Lib.hid hl14
  clear hl14 hg14 HF HT13 HB13 HC13
  go_wp2_with fail
  refine (same_any (B := (w14.alloc (.cells #[.int .i64 0] 3)).heap.size) (xs := [0]) (ys := [0]) (Lst.go HL14.out (grow_one _ _)) (ints_new _ _ _ rfl) (by decide) (by decide)).mono ?_
  rintro e w15 ⟨rfl, n15, rfl⟩
  rw [show decide (([0] : List Int) = [0]) = true from rfl]
  have hb15 : Grow w14 ((w14.alloc (.cells #[.int .i64 0] 3)).drewN n15) := (grow_one _ _).trans ⟨rfl, rfl, rfl, Nat.le_refl _, fun _ _ => rfl⟩
  have HB15 := Lib.hid (HB14.out.trans hb15)
  have HC15 := Lib.hid (HC14.out.go hb15)
  clear hb15 HB14 HC14 HL14
  generalize (w14.alloc (.cells #[.int .i64 0] 3)).drewN n15 = w15 at *
  have HT15 := Lib.hid (tabK_read (HC15.out.go (grow_one _ (.cells #[.int .i64 0] 3))))
  have HF := Lib.hid (tfind_walk (c := 1) (xs := [0]) HT15.out.1 HT15.out.2 x2_sorted (ints_new w15 #[.int .i64 0] [0] rfl) (fun h => by cases h) (by decide) (by decide) x2_small.2 x2_small.1)
  rw [show findT x2 (cutL [0] 2) = [1] from rfl] at HF
  go_wp2_with fail
  refine HF.out.mono ?_
  rintro e w16 ⟨a16, c16, rfl, hl16, -, hg16⟩
  have HB16 := Lib.hid (HB15.out.trans ((grow_one _ _).trans hg16))
  have HC16 := Lib.hid (HC15.out.go ((grow_one _ _).trans hg16))
  have HL16 := Lib.hid hl16
  clear hl16 hg16 HF HT15 HB15 HC15
  go_wp2_with fail
  refine (same_any (B := (w16.alloc (.cells #[.int .i64 1] 3)).heap.size) (xs := [1]) (ys := [1]) (Lst.go HL16.out (grow_one _ _)) (ints_new _ _ _ rfl) (by decide) (by decide)).mono ?_
  rintro e w17 ⟨rfl, n17, rfl⟩
  rw [show decide (([1] : List Int) = [1]) = true from rfl]
  have hb17 : Grow w16 ((w16.alloc (.cells #[.int .i64 1] 3)).drewN n17) := (grow_one _ _).trans ⟨rfl, rfl, rfl, Nat.le_refl _, fun _ _ => rfl⟩
  have HB17 := Lib.hid (HB16.out.trans hb17)
  have HC17 := Lib.hid (HC16.out.go hb17)
  clear hb17 HB16 HC16 HL16
  generalize (w16.alloc (.cells #[.int .i64 1] 3)).drewN n17 = w17 at *
  have HT17 := Lib.hid (tabK_read HC17.out)
  have HF := Lib.hid (tfind_walk (a := none) (c := 0) (xs := []) HT17.out.1 HT17.out.2 x2_sorted (lst_nil _ _) (fun _ => rfl) (by decide) (by decide) x2_small.2 x2_small.1)
  rw [show findT x2 (cutL [] 2) = [] from rfl] at HF
  go_wp2_with fail
  refine HF.out.mono ?_
  rintro e w18 ⟨a18, c18, rfl, -, -, hg18⟩
  rw [show ([] : List Int).length = 0 from rfl]
  have HB18 := Lib.hid (HB17.out.trans hg18)
  have HC18 := Lib.hid (HC17.out.go hg18)
  clear hg18 HF HT17 HB17 HC17
  have HR := Lib.hid (rows_any (tabK_read HC18.out).1 x2_small.2 x2_small.1)
  go_wp2_with fail
  refine HR.out.mono ?_
  rintro e w19 ⟨rv, rfl, hro, hg19⟩
  obtain ⟨ra, rc, rfl⟩ := rout_form hro
  rw [show x2.length = 2 from rfl]
  have HB19 := Lib.hid (HB18.out.trans hg19)
  have hk := (tabK_read (HC18.out.go hg19)).2
  clear hro hg19 HR HB18 HC18
  go_wp2_with fail
  exact HP.out _ HB19.out
end Go.Proofs.Ytmiiolgbjicocaa
