/- The words of two sets, each with each; all words of a set; whether two lists of words are alike. -/
import Derived.Test.YtoiinikbbkmjoaaSets
namespace Go.Proofs.Ytoiinikbbkmjoaa
open Go.RowKit
def timesP (A B : List (List Int)) (k : Int) : List (List Int) := A.flatMap (fun a => B.map (fun b => joinL a b k))
def timesL (A B : List (List Int)) (k : Int) : List (List Int) := ofL (timesP A B k)
theorem ofL_snoc (P : List (List Int)) (x : List Int) : ofL (P ++ [x]) = rAdd (ofL P) x := by unfold ofL; rw [List.foldl_append]; rfl
theorem timesP_on {A B : List (List Int)} {k : Int} {i : Nat} (hi : i < A.length) : timesP (A.take (i + 1)) B k = timesP (A.take i) B k ++ B.map (fun b => joinL A[i] b k) := by
  unfold timesP
  rw [List.take_succ_eq_append_getElem hi, List.flatMap_append]
  simp
theorem ofL_rep (P : List (List Int)) (x : List Int) : ∀ n, ofL (P ++ List.replicate (n + 1) x) = rAdd (ofL P) x
  | 0 => ofL_snoc P x
  | n + 1 => by
    rw [List.replicate_succ', ← List.append_assoc, ofL_snoc, ofL_rep P x n]
    have : x ∈ rAdd (ofL P) x := mem_rAdd.2 (.inr rfl)
    show (if x ∈ rAdd (ofL P) x then _ else _) = _
    exact if_pos this
theorem joinL_cut {a b : List Int} {k : Int} (h : k ≤ a.length) : joinL a b k = cutL a k := by
  unfold joinL cutL
  rw [List.take_append_of_le_length (by omega)]
theorem map_cut {a : List Int} {B : List (List Int)} {k : Int} (h : k ≤ a.length) : B.map (fun b => joinL a b k) = List.replicate B.length (cutL a k) := by
  rw [List.eq_replicate_iff]
  refine ⟨by simp, fun y hy => ?_⟩
  obtain ⟨b, _, rfl⟩ := List.mem_map.1 hy
  exact joinL_cut h
theorem joinL_len (a b : List Int) (k : Int) : (joinL a b k).length ≤ a.length + b.length := by unfold joinL; simp; omega
theorem timesP_len (A B : List (List Int)) (k : Int) : (timesP A B k).length = A.length * B.length := by
  unfold timesP
  induction A with
  | nil => simp
  | cons a t ih => rw [List.flatMap_cons, List.length_append, List.length_map, ih, List.length_cons, Nat.succ_mul]; omega
theorem timesP_short {A B : List (List Int)} {k : Int} (hA : ∀ y ∈ A, y.length ≤ 5000) (hB : ∀ y ∈ B, y.length ≤ 5000) : Short (timesP A B k) := fun y hy => by
  obtain ⟨a, ha, h⟩ := List.mem_flatMap.1 hy
  obtain ⟨b, hb, rfl⟩ := List.mem_map.1 h
  have := joinL_len a b k
  have := hA a ha
  have := hB b hb
  omega
set_option maxHeartbeats 4000000 in
theorem times_any {bs bt sb tb : Nat} {A B : List (List Int)} {w : World} (hs : SetB bs sb A w) (ht : SetB bt tb B w) (hA : ∀ y ∈ A, y.length ≤ 5000) (hB : ∀ y ∈ B, y.length ≤ 5000) (hn : A.length ≤ 100) (hn2 : B.length ≤ 100) (k : Int) (hk : -9223372036854775808 ≤ k ∧ k ≤ 9223372036854775807) :
    Calls Try.prog 21 #[.pointer (some ⟨sb, 0, none⟩), .pointer (some ⟨tb, 0, none⟩), .int .i64 k] w fun e w' => ∃ ob, e = .returned (.pointer (some ⟨ob, 0, none⟩)) ∧ SetB w.heap.size ob (timesL A B k) w' ∧ Grow w w' := by
  have HS := Lib.hid hs
  have HT := Lib.hid ht
  obtain ⟨slv, svs, hs1, -⟩ := hs
  obtain ⟨tlv, tvs, ht1, -⟩ := ht
  have HS1 := Lib.hid hs1
  have HT1 := Lib.hid ht1
  obtain ⟨sla, slc, rfl, -, -⟩ := hs1.len
  obtain ⟨tla, tlc, rfl, -, -⟩ := ht1.len
  have hsw := lt_of_block hs1.blk
  have htw := lt_of_block ht1.blk
  have gs : w.cell? ⟨sb, 0, none⟩ = some (.slice sla A.length slc) := cell_of_block hs1.blk
  have gt : w.cell? ⟨tb, 0, none⟩ = some (.slice tla B.length tlc) := cell_of_block ht1.blk
  clear hs1 ht1
  go_enter Try.func21, Try.ntmps21
  go_wp2
  go_loopw [19] (fun i wr => ∃ p : Nat, p ≤ A.length ∧ i = .int .i64 p ∧ Hid (SetB w.heap.size w.heap.size (ofL (timesP (A.take p) B k)) wr ∧ Grow w wr)) (fun i _ => A.length - (intOf i).toNat)
  case atStart => exact ⟨0, by omega, rfl, setB_new w, (Below.refl _ _).alloc (Nat.le_refl _) _⟩
  case round =>
    obtain ⟨p, hp, rfl, hh⟩ := hrel
    by_cases hlt : p < A.length
    · have hki : (p : Int) < A.length := by omega
      obtain ⟨g, c, ai, di, hlv, hc0, hin, hd, hld⟩ := HS1.out.at hlt
      injection hlv with e1 _ e3
      subst e1 e3
      have hc := (below_cell hh.out.2 (block_of_cell hc0)).trans hc0
      have HX := Lib.hid (show Lst w ai A[p] from hin)
      have hal := hA _ (List.getElem_mem hlt)
      have hsl : Short (timesP (A.take p) B k) := timesP_short (fun y hy => hA y (List.mem_of_mem_take hy)) hB
      have hpl := timesP_len (A.take p) B k
      have hol := ofL_len (timesP (A.take p) B k)
      have HSL := Lib.hid (short_ofL hsl)
      have HSS := Lib.hid hsl
      have hpl3 : (timesP (A.take p) B k).length ≤ 9900 := by have h1 : (A.take p).length * B.length ≤ 99 * 100 := Nat.mul_le_mul (by simp; omega) hn2; omega
      have hmul : (A.take p).length * B.length ≤ 99 * 100 := Nat.mul_le_mul (by simp; omega) hn2
      have hol2 : (ofL (timesP (A.take p) B k)).length ≤ 9900 := by omega
      have HON := Lib.hid (timesP_on (B := B) (k := k) hlt)
      have HCT := Lib.hid (fun (h : k ≤ (A[p].length : Int)) => map_cut (a := A[p]) (B := B) (k := k) h)
      have gt2 : wr.cell? ⟨tb, 0, none⟩ = some (.slice tla B.length tlc) := (below_cell hh.out.2 htw).trans gt
      have HPN := Lib.hid hpl
      clear hin hsl hpl hol hmul hc0
      generalize A[p] = x at *
      have HP0 : Hid (timesP (A.take p) B k = timesP (A.take p) B k) := Lib.hid rfl
      by_cases hcut : 0 ≤ k ∧ k ≤ x.length ∧ 0 < B.length
      · obtain ⟨h1, h2, h3⟩ := hcut
        have h4 : (0 : Int) < B.length := by omega
        have HE : Hid (ofL (timesP (A.take (p + 1)) B k) = rAdd (ofL (timesP (A.take p) B k)) (cutL x k)) := Lib.hid (by
          rw [HON.out, HCT.out h2]
          obtain ⟨n, hn⟩ : ∃ n, B.length = n + 1 := ⟨B.length - 1, by omega⟩
          rw [hn]
          exact ofL_rep _ _ n)
        have hcl : (cutL x k).length ≤ 5000 := by unfold cutL; simp; omega
        have HL := Lib.hid (len_any (HT.out.go hh.out.2))
        go_wp2_with fail
        refine HL.out.mono ?_
        rintro e w1 ⟨rfl, hw⟩
        have H1 : Hid (SetB w.heap.size w.heap.size (ofL (timesP (A.take p) B k)) w1 ∧ Grow w w1) := by rw [← hw]; exact hh
        have X1 : Hid (Lst w1 ai x) := Lib.hid (HX.out.go H1.out.2)
        clear hw HL
        go_wp2_with fail
        refine (cut_any (k := k) X1.out hd (by omega) hld).mono ?_
        rintro e w2 ⟨v, rfl, hown, hb⟩
        obtain ⟨va, vc, rfl, hvn, hvi, -, hvl⟩ := hown.shape
        have H2 := Lib.hid (And.intro (H1.out.1.go hb) (H1.out.2.trans hb))
        have X2 := Lib.hid (show Lst w2 va (cutL x k) from hvi)
        clear hown hb hvi
        have hvn2 : va = none → vc = 0 := fun h => (hvn h).1
        go_wp2_with fail
        refine (add_set H2.out.1 H2.out.2.size X2.out hvn2 (by omega) HSL.out (by omega)).mono ?_
        rintro e w3 ⟨rfl, hs3, hb3⟩
        have H3 := Lib.hid (And.intro hs3 (Below.trans H2.out.2 hb3))
        clear hs3 hb3
        go_wp2
        go_roundw
        case rel => exact ⟨p + 1, by omega, by go_num, by rw [HE.out]; exact H3.out.1, H3.out.2⟩
        case measure => simp [intOf]; omega
      · have HE : Hid (ofL (timesP (A.take (p + 1)) B k) = ofL (timesP (A.take p) B k ++ B.map (fun b => joinL x b k))) := Lib.hid (by rw [HON.out])
        have hcases : k < 0 ∨ (0 ≤ k ∧ (x.length : Int) < k) ∨ (0 ≤ k ∧ k ≤ x.length ∧ B.length = 0) := by omega
        have HL := Lib.hid (len_any (HT.out.go hh.out.2))
        clear hcut HCT HON
        rcases hcases with h1 | ⟨h1, h2⟩ | ⟨h1, h2, h3⟩
        rotate_left 2
        · have hb0 : (B.length : Int) = 0 := by omega
          have hb1 : ¬ (0 : Int) < B.length := by omega
          have HE2 : Hid (ofL (timesP (A.take (p + 1)) B k) = ofL (timesP (A.take p) B k)) := Lib.hid (by
            rw [HE.out]
            have : B = [] := List.eq_nil_of_length_eq_zero h3
            subst this
            simp)
          clear h3
          go_wp2_with fail
          refine HL.out.mono ?_
          rintro e w1 ⟨rfl, rfl⟩
          go_wp2
          go_loopw [46] (fun j ws => j = .int .i64 0 ∧ ws = wr) (fun _ _ => 0)
          case atStart => exact ⟨rfl, rfl⟩
          case round =>
            obtain ⟨rfl, rfl⟩ := hrel
            go_wp2
            go_roundw
            case rel => exact ⟨p + 1, by omega, by go_num, by rw [HE2.out]; exact hh.out.1, hh.out.2⟩
            case measure => simp [intOf]; omega
        all_goals
          have h3 : ¬ (x.length : Int) < k ∨ (x.length : Int) < k := by omega
          clear h3 HL
          go_wp2
          go_loopw [46] (fun j ws => ∃ q : Nat, q ≤ B.length ∧ j = .int .i64 q ∧ Hid (SetB w.heap.size w.heap.size (ofL (timesP (A.take p) B k ++ (B.take q).map (fun b => joinL x b k))) ws ∧ Grow w ws)) (fun j _ => B.length - (intOf j).toNat)
          case atStart => exact ⟨0, by omega, rfl, Lib.hid (by simpa using hh.out)⟩
          case round =>
            obtain ⟨q, hq, rfl, hi⟩ := hrel
            by_cases hqt : q < B.length
            · have hqi : (q : Int) < B.length := by omega
              obtain ⟨g2, c2, bi, ei, hlv2, hd0, hin2, hd2, hld2⟩ := HT1.out.at hqt
              injection hlv2 with e1 _ e3
              subst e1 e3
              have hcq := (below_cell hi.out.2 (block_of_cell hd0)).trans hd0
              have HY := Lib.hid (show Lst w bi B[q] from hin2)
              have hbl := hB _ (List.getElem_mem hqt)
              have hjl := joinL_len x B[q] k
              have HPS : Hid (Short (ofL (timesP (A.take p) B k ++ (B.take q).map (fun b => joinL x b k)))) := Lib.hid (short_ofL (fun y hy => by
                rcases List.mem_append.1 hy with hy | hy
                · exact HSS.out y hy
                · obtain ⟨b, hb, rfl⟩ := List.mem_map.1 hy
                  have := joinL_len x b k
                  have := hB b (List.mem_of_mem_take hb)
                  omega))
              have hpn : (ofL (timesP (A.take p) B k ++ (B.take q).map (fun b => joinL x b k))).length ≤ 10000 := by
                have h1 := ofL_len (timesP (A.take p) B k ++ (B.take q).map (fun b => joinL x b k))
                rw [List.length_append, List.length_map, List.length_take] at h1
                omega
              have HQ : Hid (ofL (timesP (A.take p) B k ++ (B.take (q + 1)).map (fun b => joinL x b k)) = rAdd (ofL (timesP (A.take p) B k ++ (B.take q).map (fun b => joinL x b k))) (joinL x B[q] k)) := Lib.hid (by
                rw [List.take_succ_eq_append_getElem hqt, List.map_append, ← List.append_assoc]
                exact ofL_snoc _ _)
              clear hin2 hd0
              generalize B[q] = y at *
              generalize ofL (timesP (A.take p) B k ++ (B.take q).map (fun b => joinL x b k)) = acc at *
              go_wp2_with fail
              refine (join_any (HX.out.go hi.out.2) hd (by omega) hld (HY.out.go hi.out.2) hd2 (by omega) hld2 (Nat.le_refl _) k hk).mono ?_
              rintro e w2 ⟨v, rfl, hown, hb⟩
              obtain ⟨va, vc, rfl, hvn, hvi, -, hvl⟩ := hown.shape
              have H2 := Lib.hid (And.intro (hi.out.1.go hb) (hi.out.2.trans hb))
              have X2 := Lib.hid (show Lst w2 va (joinL x y k) from hvi)
              clear hown hb hvi
              have hvn2 : va = none → vc = 0 := fun h => (hvn h).1
              go_wp2_with fail
              refine (add_set H2.out.1 H2.out.2.size X2.out hvn2 (by omega) HPS.out (by omega)).mono ?_
              rintro e w3 ⟨rfl, hs3, hb3⟩
              have H3 := Lib.hid (And.intro hs3 (Below.trans H2.out.2 hb3))
              clear hs3 hb3
              go_wp2
              go_roundw
              case rel => exact ⟨q + 1, by omega, by go_num, by rw [HQ.out]; exact H3.out.1, H3.out.2⟩
              case measure => simp [intOf]; omega
            · have hqi : ¬ (q : Int) < B.length := by omega
              have e : B.take q = B := List.take_of_length_le (by omega)
              rw [e] at hi
              go_wp2
              go_roundw
              case rel => exact ⟨p + 1, by omega, by go_num, by rw [HE.out]; exact hi.out.1, hi.out.2⟩
              case measure => simp [intOf]; omega
    · have hki : ¬ (p : Int) < A.length := by omega
      have e : A.take p = A := List.take_of_length_le (by omega)
      rw [e] at hh
      go_wp2
      go_ret
      exact ⟨w.heap.size, rfl, hh.out.1, hh.out.2⟩
end Go.Proofs.Ytoiinikbbkmjoaa
