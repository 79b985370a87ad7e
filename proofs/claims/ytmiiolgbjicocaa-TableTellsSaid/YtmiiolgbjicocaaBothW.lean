/- Does each lookahead of a variable mean one rule; which is the first that means two: the walks of Clear and both. -/
import Derived.Test.YtmiiolgbjicocaaRowsW
namespace Go.Proofs.Ytmiiolgbjicocaa
open Go.RowKit
theorem rout_form {w : World} {base : Nat} {v : Value} {x : List TRow} (h : ROut w base v x) : ∃ a c, v = .slice a x.length c := by
  obtain ⟨rs, h1, h2, -⟩ := h
  rcases h1.2 with ⟨rfl, h0⟩ | ⟨g, cap, cur, rfl, _⟩
  · exact ⟨none, 0, by rw [← h2, h0]⟩
  · exact ⟨_, cap, by rw [h2]⟩
theorem rout_at {w : World} {base n c : Nat} {a : Option Addr} {x : List TRow} (h : ROut w base (.slice a n c) x) {i : Nat} (hi : i < x.length) : ∃ rb la lc ua uc, a = some ⟨rb, 0, none⟩ ∧ rb < w.heap.size ∧ w.cell? ⟨rb, i * 2, none⟩ = some (.slice la x[i].1.length lc) ∧ w.cell? ⟨rb, i * 2 + 1, none⟩ = some (.slice ua x[i].2.length uc) ∧ Own w base (.slice la x[i].1.length lc) x[i].1 ∧ Lst w ua x[i].2 := by
  obtain ⟨rs, h1, h2, h3⟩ := h
  have hir : i < rs.length := by omega
  have hr := List.getElem?_eq_getElem hir
  obtain ⟨q1, q2⟩ := h3 i _ _ hr (List.getElem?_eq_getElem hi)
  obtain ⟨la, lc, d1, -⟩ := q1.shape
  obtain ⟨ua, uc, e1, -, e3, -⟩ := q2.shape
  obtain ⟨f1, f2⟩ := flatR_get rs i _ hr
  rcases h1.2 with ⟨_, h0⟩ | ⟨g, cap, cur, hv, _, hcur, _⟩
  · omega
  · injection hv with hv1 hv2 hv3
    subst hv1 hv2 hv3
    refine ⟨g, la, lc, ua, uc, rfl, lt_of_block hcur, ?_, ?_, by rw [← d1]; exact q1, e3⟩
    · rw [h1.cellAt (i * 2) (by omega), f1, d1]
    · rw [h1.cellAt (i * 2 + 1) (by omega), f2, e1]
def clearT (x : List TRow) : Bool := x.all (fun r => decide (r.2.length ≤ 1))
theorem clearT_false {x : List TRow} {i : Nat} (hi : i < x.length) (h : ¬ x[i].2.length ≤ 1) : clearT x = false := by
  unfold clearT
  rw [List.all_eq_false]
  exact ⟨_, List.getElem_mem hi, by simpa using h⟩
def ClearPost (b : Bool) (w : World) (e : Ending) (w' : World) : Prop := e = .returned (.bool b) ∧ Grow w w'
set_option maxRecDepth 100000 in
set_option maxHeartbeats 1000000 in
theorem clear_any {w : World} {tb v nv : Nat} {x : List TRow} (ht : TRows w tb v nv x) (hL : ∀ r ∈ x, r.1.length ≤ 100000 ∧ r.2.length ≤ 100000) (hn : x.length ≤ 100000) : Calls Try.prog 17 #[.pointer (some ⟨tb, 0, none⟩), .int .i64 (v : Nat)] w (ClearPost (clearT x) w) := by
  have HC := Lib.hid (rows_any ht hL hn)
  have HL := Lib.hid hL
  have HF : Hid (∀ i (h : i < x.length) W, ¬ x[i].2.length ≤ 1 → Grow w W → ClearPost (clearT x) w (.returned (.bool false)) W) := Lib.hid (fun i h W h1 h2 => ⟨by rw [clearT_false h h1], h2⟩)
  have HT : Hid (∀ W, (∀ i (h : i < x.length), x[i].2.length ≤ 1) → Grow w W → ClearPost (clearT x) w (.returned (.bool true)) W) := Lib.hid (fun W h1 h2 => ⟨by
    have : clearT x = true := by
      unfold clearT
      rw [List.all_eq_true]
      intro r hr
      obtain ⟨i, hi, rfl⟩ := List.mem_iff_getElem.1 hr
      simpa using h1 i hi
    rw [this], h2⟩)
  clear ht hL
  generalize ClearPost (clearT x) w = Po at *
  go_enter Try.func17, Try.ntmps17
  go_wp2_with fail
  refine HC.out.mono ?_
  rintro e w1 ⟨rv, rfl, hro, hg1⟩
  obtain ⟨a, c, rfl⟩ := rout_form hro
  have HRO := Lib.hid (And.intro hro hg1)
  clear hro hg1 HC
  go_wp2_with fail
  go_loopw [11] (fun i wr => ∃ k : Nat, k ≤ x.length ∧ i = .int .i64 k ∧ Hid ((∀ j (h : j < x.length), j < k → x[j].2.length ≤ 1) ∧ Grow w1 wr)) (fun i _ => x.length - (intOf i).toNat)
  case atStart => exact ⟨0, by omega, rfl, fun j _ h => by omega, Grow.refl _⟩
  case round =>
    obtain ⟨k, hk, rfl, hh⟩ := hrel
    by_cases hkt : k < x.length
    · have hki : (k : Int) < x.length := by omega
      obtain ⟨rb, la, lc, ua, uc, rfl, hrb, e1, e2, -⟩ := rout_at HRO.out.1 hkt
      have f1 := (below_cell hh.out.2 hrb).trans e1
      have f2 := (below_cell hh.out.2 hrb).trans e2
      have hl2 := (HL.out _ (List.getElem_mem hkt)).2
      have HGA := Lib.hid (hh.out.2.trans (grow_one wr (.cells #[.slice la x[k].1.length lc, .slice ua x[k].2.length uc] 44)))
      have HHL : Hid (x[k].2.length ≤ 1 → ∀ j (h : j < x.length), j < k + 1 → x[j].2.length ≤ 1) := Lib.hid (fun h0 j hj h1 => by
        rcases Nat.lt_or_ge j k with h2 | h2
        · exact hh.out.1 j hj h2
        · obtain rfl : j = k := by omega
          exact h0)
      have HFK := Lib.hid (fun W => HF.out k hkt W)
      clear e1 e2 hh
      generalize x[k] = y at *
      by_cases hy : y.2.length ≤ 1
      · have hyi : ¬ (1 : Int) < y.2.length := by omega
        go_wp2_with fail
        go_roundw
        case rel => exact ⟨k + 1, by omega, by go_num, HHL.out hy, HGA.out⟩
        case measure => simp [intOf]; omega
      · have hyi : (1 : Int) < y.2.length := by omega
        go_wp2_with fail
        exact HFK.out _ hy (HRO.out.2.trans HGA.out)
    · have hki : ¬ (k : Int) < x.length := by omega
      have HH := hh
      clear hh
      go_wp2_with fail
      exact HT.out _ (fun j hj => HH.out.1 j hj (by omega)) (HRO.out.2.trans HH.out.2)
/-- How many of a list are one of two. -/
def cntB (a b : Int) (l : List Int) : Nat := (l.filter (fun k => k == a || k == b)).length
theorem cntB_succ (a b : Int) (l : List Int) (j : Nat) (h : j < l.length) : cntB a b (l.take (j + 1)) = cntB a b (l.take j) + if (l[j] == a || l[j] == b) = true then 1 else 0 := by
  unfold cntB
  rw [List.take_succ_eq_append_getElem h, List.filter_append, List.length_append]
  congr 1
  by_cases hc : (l[j] == a || l[j] == b) = true
  · rw [if_pos hc]; simp [hc]
  · rw [if_neg hc]; simp only [Bool.not_eq_true] at hc; simp [hc]
theorem cntB_le (a b : Int) (l : List Int) : cntB a b l ≤ l.length := List.length_filter_le _ _
def bothT (x : List TRow) (a b : Int) : Option (List Int) := (x.find? (fun r => cntB a b r.2 == 2)).map Prod.fst
def BothPost (o : Option (List Int)) (w : World) (e : Ending) (w' : World) : Prop :=
  Grow w w' ∧ ((o = none ∧ e = .returned (.tuple #[.slice none 0 0, .bool false])) ∨ ∃ l a c, o = some l ∧ e = .returned (.tuple #[.slice a l.length c, .bool true]) ∧ Own w' w.heap.size (.slice a l.length c) l)
set_option maxRecDepth 100000 in
set_option maxHeartbeats 1000000 in
theorem both_any {w : World} {tb v nv : Nat} {x : List TRow} (ht : TRows w tb v nv x) (hL : ∀ r ∈ x, r.1.length ≤ 100000 ∧ r.2.length ≤ 100000) (hn : x.length ≤ 100000) (p q : Int) : Calls Try.prog 44 #[.pointer (some ⟨tb, 0, none⟩), .int .i64 (v : Nat), .int .i64 p, .int .i64 q] w (BothPost (bothT x p q) w) := by
  have HC := Lib.hid (rows_any ht hL hn)
  have HL := Lib.hid hL
  have HF : Hid (∀ i (h : i < x.length) W a c, (∀ j (h : j < x.length), j < i → cntB p q x[j].2 ≠ 2) → cntB p q x[i].2 = 2 → Grow w W → Own W w.heap.size (.slice a x[i].1.length c) x[i].1 → BothPost (bothT x p q) w (.returned (.tuple #[.slice a x[i].1.length c, .bool true])) W) := Lib.hid (fun i h W a c h1 h2 h3 h4 => by
    refine ⟨h3, .inr ⟨x[i].1, a, c, ?_, rfl, h4⟩⟩
    unfold bothT
    have : x.find? (fun r => cntB p q r.2 == 2) = some x[i] := by
      rw [List.find?_eq_some_iff_getElem]
      exact ⟨by simpa using h2, i, h, rfl, fun j hj => by simpa using h1 j (by omega) hj⟩
    rw [this]
    rfl)
  have HT : Hid (∀ W, (∀ j (h : j < x.length), j < x.length → cntB p q x[j].2 ≠ 2) → Grow w W → BothPost (bothT x p q) w (.returned (.tuple #[.slice none 0 0, .bool false])) W) := Lib.hid (fun W h1 h2 => by
    refine ⟨h2, .inl ⟨?_, rfl⟩⟩
    unfold bothT
    have : x.find? (fun r => cntB p q r.2 == 2) = none := by
      rw [List.find?_eq_none]
      intro r hr
      obtain ⟨i, hi, rfl⟩ := List.mem_iff_getElem.1 hr
      simpa using h1 i hi hi
    rw [this]
    rfl)
  clear ht hL
  generalize BothPost (bothT x p q) w = Po at *
  go_enter Try.func44, Try.ntmps44
  go_wp2_with fail
  refine HC.out.mono ?_
  rintro e w1 ⟨rv, rfl, hro, hg1⟩
  obtain ⟨a, c, rfl⟩ := rout_form hro
  have HRO := Lib.hid (And.intro hro hg1)
  clear hro hg1 HC
  go_wp2_with fail
  go_loopw [19] (fun i wr => ∃ k : Nat, k ≤ x.length ∧ i = .int .i64 k ∧ Hid ((∀ j (h : j < x.length), j < k → cntB p q x[j].2 ≠ 2) ∧ Grow w1 wr)) (fun i _ => x.length - (intOf i).toNat)
  case atStart => exact ⟨0, by omega, rfl, fun j _ h => by omega, Grow.refl _⟩
  case round =>
    obtain ⟨k, hk, rfl, hh⟩ := hrel
    by_cases hkt : k < x.length
    · have hki : (k : Int) < x.length := by omega
      obtain ⟨rb, la, lc, ua, uc, rfl, hrb, e1, e2, e3, e4⟩ := rout_at HRO.out.1 hkt
      have f1 := (below_cell hh.out.2 hrb).trans e1
      have f2 := (below_cell hh.out.2 hrb).trans e2
      have hl2 := (HL.out _ (List.getElem_mem hkt)).2
      have HGA := Lib.hid (hh.out.2.trans (grow_one wr (.cells #[.slice la x[k].1.length lc, .slice ua x[k].2.length uc] 44)))
      have HHL : Hid (cntB p q x[k].2 ≠ 2 → ∀ j (h : j < x.length), j < k + 1 → cntB p q x[j].2 ≠ 2) := Lib.hid (fun h0 j hj h1 => by
        rcases Nat.lt_or_ge j k with h2 | h2
        · exact hh.out.1 j hj h2
        · obtain rfl : j = k := by omega
          exact h0)
      have HFK := Lib.hid (fun W a c => HF.out k hkt W a c hh.out.1)
      have hC := heap_alloc_this wr (.cells #[.slice la x[k].1.length lc, .slice ua x[k].2.length uc] 44)
      have HLS := Lib.hid (And.intro (e3.below HGA.out) (e4.go HGA.out))
      have z0 : (wr.alloc (.cells #[.slice la x[k].1.length lc, .slice ua x[k].2.length uc] 44)).cell? ⟨wr.heap.size, 0, none⟩ = some (.slice la x[k].1.length lc) := cell_of_block (off := 0) hC
      clear e1 e2 e3 e4 hh hC
      generalize x[k] = y at *
      go_wp2_with fail
      generalize wr.alloc (.cells #[.slice la y.1.length lc, .slice ua y.2.length uc] 44) = W at *
      clear f1 f2
      go_loopw [12, 26] (fun n i ws => ∃ j : Nat, j ≤ y.2.length ∧ i = .int .i64 j ∧ n = .int .i64 (cntB p q (y.2.take j) : Nat) ∧ ws = W) (fun _ i _ => y.2.length - (intOf i).toNat)
      case atStart => exact ⟨0, by omega, rfl, rfl, rfl⟩
      case round =>
        obtain ⟨j, hj, rfl, rfl, rfl⟩ := hrel
        by_cases hjt : j < y.2.length
        · have hji : (j : Int) < y.2.length := by omega
          obtain ⟨b2, off2, rfl, hb2, hc2⟩ := HLS.out.2 j hjt
          have HS := Lib.hid (cntB_succ p q y.2 j hjt)
          have hcl := cntB_le p q (y.2.take j)
          have hcl2 : cntB p q (y.2.take j) ≤ 100000 := by rw [List.length_take] at hcl; omega
          clear hcl
          generalize cntB p q (y.2.take j) = n at *
          generalize y.2[j] = m at *
          cases hmp : m == p
          · cases hmq : m == q
            · rw [hmp, hmq, if_neg (by simp)] at HS
              go_wp2_with fail
              go_roundw
              case rel => exact ⟨j + 1, by omega, by go_num, by rw [HS.out]; rfl, by first | rfl | trivial⟩
              case measure => simp [intOf]; omega
            · rw [hmp, hmq, if_pos (by simp)] at HS
              go_wp2_with fail
              go_roundw
              case rel => exact ⟨j + 1, by omega, by go_num, by rw [HS.out]; go_num, by first | rfl | trivial⟩
              case measure => simp [intOf]; omega
          · rw [hmp, if_pos (by simp)] at HS
            go_wp2_with fail
            go_roundw
            case rel => exact ⟨j + 1, by omega, by go_num, by rw [HS.out]; go_num, by first | rfl | trivial⟩
            case measure => simp [intOf]; omega
        · have hji : ¬ (j : Int) < y.2.length := by omega
          have hte : y.2.take j = y.2 := List.take_of_length_le (by omega)
          rw [hte]
          clear hte
          by_cases hcn : cntB p q y.2 = 2
          · have HCN := Lib.hid hcn
            have hcb : (((cntB p q y.2 : Nat) : Int) == 2) = true := by simp; omega
            clear hcn
            generalize cntB p q y.2 = n at *
            go_wp2_with fail
            exact HFK.out _ _ _ HCN.out (HRO.out.2.trans HGA.out) HLS.out.1
          · have HCN := Lib.hid hcn
            have hcb : (((cntB p q y.2 : Nat) : Int) == 2) = false := by simp; omega
            clear hcn
            generalize cntB p q y.2 = n at *
            go_wp2_with fail
            go_roundw
            case rel => exact ⟨k + 1, by omega, by go_num, HHL.out HCN.out, HGA.out⟩
            case measure => simp [intOf]; omega
    · have hki : ¬ (k : Int) < x.length := by omega
      have HH := hh
      clear hh
      go_wp2_with fail
      exact HT.out _ (fun j hj _ => HH.out.1 j hj (by omega)) (HRO.out.2.trans HH.out.2)
end Go.Proofs.Ytmiiolgbjicocaa
