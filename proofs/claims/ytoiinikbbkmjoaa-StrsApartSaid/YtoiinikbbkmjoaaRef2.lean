/- The reference's Of, Meet, Times. -/
import Derived.Test.YtoiinikbbkmjoaaRef1
namespace Go.Proofs.Ytoiinikbbkmjoaa
open Go.RowKit
theorem short_take {L : List (List Int)} (h : Short L) (k : Nat) : Short (L.take k) := fun y hy => h y (List.mem_of_mem_take hy)
theorem made_new (w : World) : Made w.heap.size (.slice (some ⟨w.heap.size, 0, none⟩) 0 0) [] (w.alloc (.cells #[] 22)) := madeR_new w w.heap.size
set_option maxHeartbeats 2000000 in
theorem rof_any {a : Option Addr} {ca : Nat} {L : List (List Int)} {w : World} (h : Lsts w a L) (hL : Short L) (hn : L.length ≤ 10000) :
    Calls Try.prog 23 #[.slice a L.length ca] w (RPost w.heap.size (ofL L) w) := by
  have HA := Lib.hid h
  clear h
  go_enter Try.func23, Try.ntmps23
  go_wp2
  go_loopw [3, 4] (fun out i wr => ∃ k : Nat, k ≤ L.length ∧ i = .int .i64 k ∧ Hid (Made w.heap.size out (ofL (L.take k)) wr ∧ Grow w wr)) (fun _ i _ => L.length - (intOf i).toNat)
  case atStart => exact ⟨0, by omega, rfl, Lib.hid ⟨made_new w, (Below.refl _ _).alloc (Nat.le_refl _) _⟩⟩
  case round =>
    obtain ⟨k, hk, rfl, hf⟩ := hrel
    by_cases hlt : k < L.length
    · have hki : (k : Int) < L.length := by omega
      have hk0 : (0 : Int) ≤ k := by omega
      obtain ⟨b, o, ai, di, rfl, hb, hc0, hi, hd, -⟩ := HA.out k hlt
      have hc := (below_cell hf.out.2 hb).trans hc0
      have hll := hL _ (List.getElem_mem hlt)
      have HT := Lib.hid (ofL_on hlt)
      have hol := ofL_len (L.take k)
      have HS := Lib.hid (short_ofL (short_take hL k))
      have HI := Lib.hid (hi.go hf.out.2)
      obtain ⟨oa, oc, rfl⟩ := hf.out.1.lit
      have hol2 : (ofL (L.take k)).length ≤ 10000 := by simp at hol; omega
      clear hol hi hc0
      generalize L[k] = x at *
      generalize ofL (L.take k) = U at *
      go_wp2_with fail
      refine (radd_any hf.out.1 hf.out.2.size HI.out hd HS.out hll hol2).mono ?_
      rintro e w2 ⟨v2, rfl, hm, hg⟩
      go_wp2
      go_roundw
      case rel => exact ⟨k + 1, by omega, by go_num, Lib.hid ⟨by rw [HT.out]; exact hm, hf.out.2.trans hg⟩⟩
      case measure => simp [intOf]; omega
    · have hki : ¬ (k : Int) < L.length := by omega
      have e : L.take k = L := List.take_of_length_le (by omega)
      rw [e] at hf
      go_wp2
      go_ret
      exact ⟨_, rfl, hf.out.1, hf.out.2⟩
set_option maxHeartbeats 2000000 in
theorem rmeet_any {a b : Option Addr} {ca cb : Nat} {A B : List (List Int)} {w : World} (ha : Lsts w a A) (hb : Lsts w b B) (hA : Short A) (hB : Short B) (hn : A.length ≤ 10000) (hn2 : B.length ≤ 10000) :
    Calls Try.prog 28 #[.slice a A.length ca, .slice b B.length cb] w (RPost w.heap.size (meetL A B) w) := by
  have HA := Lib.hid ha
  have HB := Lib.hid hb
  clear ha hb
  go_enter Try.func28, Try.ntmps28
  go_wp2
  go_loopw [5, 6] (fun out i wr => ∃ k : Nat, k ≤ A.length ∧ i = .int .i64 k ∧ Hid (Made w.heap.size out (ofL (meetP (A.take k) B)) wr ∧ Grow w wr)) (fun _ i _ => A.length - (intOf i).toNat)
  case atStart => exact ⟨0, by omega, rfl, Lib.hid ⟨made_new w, (Below.refl _ _).alloc (Nat.le_refl _) _⟩⟩
  case round =>
    obtain ⟨k, hk, rfl, hf⟩ := hrel
    by_cases hlt : k < A.length
    · have hki : (k : Int) < A.length := by omega
      have hk0 : (0 : Int) ≤ k := by omega
      obtain ⟨b1, o, ai, di, rfl, hb1, hc0, hi, hd, -⟩ := HA.out k hlt
      have hc := (below_cell hf.out.2 hb1).trans hc0
      have HC0 := Lib.hid hc0
      have hll := hA _ (List.getElem_mem hlt)
      have hol := ofL_len (meetP (A.take k) B)
      have hfl : (meetP (A.take k) B).length ≤ (A.take k).length := List.length_filter_le _ _
      have HS : Hid (Short (ofL (meetP (A.take k) B))) := Lib.hid (short_ofL (fun y hy => hA y (List.mem_of_mem_take (List.mem_filter.1 hy).1)))
      have HI := Lib.hid hi
      have HH := Lib.hid (rhas_any (ca := cb) (cb := di) (HB.out.go hf.out.2) (hi.go hf.out.2) hB hll (by omega))
      obtain ⟨oa, oc, rfl⟩ := hf.out.1.lit
      have hol2 : (ofL (meetP (A.take k) B)).length ≤ 10000 := by simp at hfl; omega
      clear hol hfl hi hc0
      by_cases hin : A[k] ∈ B
      · have HT : Hid (ofL (meetP (A.take (k + 1)) B) = rAdd (ofL (meetP (A.take k) B)) A[k]) := Lib.hid (by rw [meetP_in hlt hin, ofL_snoc])
        rw [decide_eq_true hin] at HH
        clear hin
        generalize A[k] = x at *
        generalize ofL (meetP (A.take k) B) = U at *
        go_wp2_with fail
        refine HH.out.mono ?_
        rintro e w2 ⟨rfl, m, hw2⟩
        have H2 := Lib.hid (And.intro (hf.out.1.go (grow_drew _ m)) (hf.out.2.trans (grow_drew _ m)))
        rw [← hw2] at H2
        clear hw2 hf HH hc
        have hc := (below_cell H2.out.2 hb1).trans HC0.out
        go_wp2_with fail
        refine (radd_any H2.out.1 H2.out.2.size (HI.out.go H2.out.2) hd HS.out hll hol2).mono ?_
        rintro e w3 ⟨v2, rfl, hm, hg⟩
        go_wp2
        go_roundw
        case rel => exact ⟨k + 1, by omega, by go_num, Lib.hid ⟨by rw [HT.out]; exact hm, H2.out.2.trans hg⟩⟩
        case measure => simp [intOf]; omega
      · have HT : Hid (ofL (meetP (A.take (k + 1)) B) = ofL (meetP (A.take k) B)) := Lib.hid (by rw [meetP_out hlt hin])
        rw [decide_eq_false hin] at HH
        clear hin
        generalize A[k] = x at *
        generalize ofL (meetP (A.take k) B) = U at *
        go_wp2_with fail
        refine HH.out.mono ?_
        rintro e w2 ⟨rfl, m, hw2⟩
        have H2 := Lib.hid (And.intro (hf.out.1.go (grow_drew _ m)) (hf.out.2.trans (grow_drew _ m)))
        rw [← hw2] at H2
        clear hw2 hf HH hc
        go_wp2
        go_roundw
        case rel => exact ⟨k + 1, by omega, by go_num, Lib.hid ⟨by rw [HT.out]; exact H2.out.1, H2.out.2⟩⟩
        case measure => simp [intOf]; omega
    · have hki : ¬ (k : Int) < A.length := by omega
      have e : A.take k = A := List.take_of_length_le (by omega)
      rw [e] at hf
      go_wp2
      go_ret
      exact ⟨_, rfl, hf.out.1, hf.out.2⟩
theorem timesP_mul {n m : Nat} {A B : List (List Int)} {k : Int} (hA : A.length ≤ n) (hB : B.length ≤ m) : (timesP A B k).length ≤ n * m := by
  rw [timesP_len]; exact Nat.mul_le_mul hA hB
set_option maxHeartbeats 4000000 in
theorem rtimes_any {a b : Option Addr} {ca cb : Nat} {A B : List (List Int)} {w : World} (ha : Lsts w a A) (hb : Lsts w b B) (hA : ∀ y ∈ A, y.length ≤ 5000) (hB : ∀ y ∈ B, y.length ≤ 5000) (hn : A.length ≤ 90) (hn2 : B.length ≤ 90) (k : Int) :
    Calls Try.prog 27 #[.slice a A.length ca, .slice b B.length cb, .int .i64 k] w (RPost w.heap.size (timesL A B k) w) := by
  have HA := Lib.hid ha
  have HB := Lib.hid hb
  clear ha hb
  go_enter Try.func27, Try.ntmps27
  go_wp2
  go_loopw [7, 8] (fun out i wr => ∃ p : Nat, p ≤ A.length ∧ i = .int .i64 p ∧ Hid (Made w.heap.size out (ofL (timesP (A.take p) B k)) wr ∧ Grow w wr)) (fun _ i _ => A.length - (intOf i).toNat)
  case atStart => exact ⟨0, by omega, rfl, Lib.hid ⟨made_new w, (Below.refl _ _).alloc (Nat.le_refl _) _⟩⟩
  case round =>
    obtain ⟨p, hp, rfl, hf⟩ := hrel
    by_cases hlt : p < A.length
    · have hki : (p : Int) < A.length := by omega
      have hp0 : (0 : Int) ≤ p := by omega
      obtain ⟨b1, o1, ai, di, rfl, hb1, hc0, hi, hd, hld⟩ := HA.out p hlt
      have HC0 := Lib.hid hc0
      have hll := hA _ (List.getElem_mem hlt)
      have HI := Lib.hid hi
      have HON := Lib.hid (timesP_on (B := B) (k := k) hlt)
      have HP : Hid (∀ q ≤ B.length, Short (timesP (A.take p) B k ++ (B.take q).map (fun b => joinL A[p] b k)) ∧ (timesP (A.take p) B k ++ (B.take q).map (fun b => joinL A[p] b k)).length ≤ 10000) := Lib.hid (fun q hq => by
        constructor
        · intro y hy
          rcases List.mem_append.1 hy with hy | hy
          · exact timesP_short (fun y hy => hA y (List.mem_of_mem_take hy)) hB y hy
          · obtain ⟨b, hb, rfl⟩ := List.mem_map.1 hy
            have := joinL_len A[p] b k
            have := hB b (List.mem_of_mem_take hb)
            omega
        · have h1 : (timesP (A.take p) B k).length ≤ 90 * 90 := timesP_mul (by simp; omega) hn2
          rw [List.length_append, List.length_map, List.length_take]
          omega)
      clear hi hc0
      generalize A[p] = x at *
      go_wp2
      go_loopw [7, 9] (fun out j ws => ∃ q : Nat, q ≤ B.length ∧ j = .int .i64 q ∧ Hid (Made w.heap.size out (ofL (timesP (A.take p) B k ++ (B.take q).map (fun b => joinL x b k))) ws ∧ Grow w ws)) (fun _ j _ => B.length - (intOf j).toNat)
      case atStart => exact ⟨0, by omega, rfl, Lib.hid (by simpa using hf.out)⟩
      case round =>
        obtain ⟨q, hq, rfl, hg⟩ := hrel
        by_cases hqt : q < B.length
        · have hqi : (q : Int) < B.length := by omega
          have hq0 : (0 : Int) ≤ q := by omega
          obtain ⟨b2, o2, bi, ei, rfl, hb2, hd0, hi2, hd2, hld2⟩ := HB.out q hqt
          have hc := (below_cell hg.out.2 hb1).trans HC0.out
          have hc2 := (below_cell hg.out.2 hb2).trans hd0
          have hbl := hB _ (List.getElem_mem hqt)
          have hjl := joinL_len x B[q] k
          have HQ : Hid (ofL (timesP (A.take p) B k ++ (B.take (q + 1)).map (fun b => joinL x b k)) = rAdd (ofL (timesP (A.take p) B k ++ (B.take q).map (fun b => joinL x b k))) (joinL x B[q] k)) := Lib.hid (by
            rw [List.take_succ_eq_append_getElem hqt, List.map_append, ← List.append_assoc]
            exact ofL_snoc _ _)
          have HS := Lib.hid (short_ofL (HP.out q hq).1)
          have hol : (ofL (timesP (A.take p) B k ++ (B.take q).map (fun b => joinL x b k))).length ≤ 10000 := Nat.le_trans (ofL_len _) (HP.out q hq).2
          have HI2 := Lib.hid hi2
          obtain ⟨oa, oc, rfl⟩ := hg.out.1.lit
          have hgd : Grow wr wr.drew := ⟨rfl, rfl, rfl, Nat.le_refl _, fun _ _ => rfl⟩
          have HG := Lib.hid (And.intro (hg.out.1.go hgd) (hg.out.2.trans hgd))
          have HJ := Lib.hid (rjoin_any (cap := di) (cb := ei) (HI.out.go HG.out.2) hd (by omega) (HI2.out.go HG.out.2) hd2 (by omega) (Nat.le_refl _) k)
          clear hi2 hd0 hgd hf
          generalize B[q] = y at *
          generalize ofL (timesP (A.take p) B k ++ (B.take q).map (fun b => joinL x b k)) = acc at *
          go_wp2
          go_region_law (first
            | (go_simp; go_at_call 30; refine (radd_any H2.out.1 H2.out.2.size X2.out hvn2 HS.out (by omega) hol).mono ?_; rintro e w3 ⟨v3, rfl, hm3, hg3⟩
               have H3 := Lib.hid (And.intro hm3 (H2.out.2.trans hg3))
               clear hm3 hg3 H2)
            | (go_simp; go_at_call 15; refine HJ.out.mono ?_; rintro e w2 ⟨v, rfl, hown, hb⟩
               obtain ⟨va, vc, rfl, hvn, hvi, -, hvl⟩ := hown.shape
               have H2 := Lib.hid (And.intro (HG.out.1.go hb) (HG.out.2.trans hb))
               have X2 := Lib.hid (show Lst w2 va (joinL x y k) from hvi)
               have hvn2 : va = none → vc = 0 := fun h => (hvn h).1
               clear hown hb hvi hvn))
          go_wp2
          all_goals exact ⟨⟨q + 1, by omega, by go_num, by rw [HQ.out]; exact H3⟩, by simp [intOf]; omega⟩
        · have hqi : ¬ (q : Int) < B.length := by omega
          have e : B.take q = B := List.take_of_length_le (by omega)
          rw [e, ← HON.out] at hg
          go_wp2
          go_roundw
          case rel => exact ⟨p + 1, by omega, by go_num, hg⟩
          case measure => simp [intOf]; omega
    · have hki : ¬ (p : Int) < A.length := by omega
      have e : A.take p = A := List.take_of_length_le (by omega)
      rw [e] at hf
      go_wp2
      go_ret
      exact ⟨_, rfl, hf.out.1, hf.out.2⟩
end Go.Proofs.Ytoiinikbbkmjoaa
