/- Whether two sets have the same words; what is in both; whether words are few. -/
import Derived.Test.YtoiinikbbkmjoaaOpen
namespace Go.Proofs.Ytoiinikbbkmjoaa
open Go.RowKit
theorem SetAt.lsts {sb : Nat} {lv : Value} {vs : List Value} {L : List (List Int)} {w : World} (h : SetAt sb lv vs L w) : ∃ a c, lv = .slice a L.length c ∧ Lsts w a L := by
  obtain ⟨a, c, hlv, -, -⟩ := h.len
  refine ⟨a, c, hlv, fun i hi => ?_⟩
  obtain ⟨g, c2, ai, d, hlv2, hc, hin, hd, hl⟩ := h.at hi
  rw [hlv] at hlv2
  injection hlv2 with e1 _ e3
  subst e1
  exact ⟨g, 0, ai, d, rfl, block_of_cell hc, by rw [Nat.zero_add]; exact hc, hin, hd, hl⟩
set_option maxHeartbeats 1000000 in
theorem equalfunc_any {a b : Option Addr} {ca cb : Nat} {A B : List (List Int)} {w : World} (ha : Lsts w a A) (hb : Lsts w b B) (hA : Short A) (hB : Short B) (hn : A.length ≤ 10000) (hn2 : B.length ≤ 10000) :
    Calls Try.prog 34 #[.slice a A.length ca, .slice b B.length cb, .func (.func 35) #[] #[]] w fun e w' => e = .returned (.bool (decide (A = B))) ∧ ∃ n, w' = w.drewN n := by
  have HA := Lib.hid ha
  have HB := Lib.hid hb
  clear ha hb
  by_cases hlen : A.length = B.length
  · have hne : ((A.length : Int) != (B.length : Int)) = false := by simp [hlen]
    go_enter Try.func34, Try.ntmps34
    go_wp2
    go_loopw [17] (fun i wr => ∃ k : Nat, k ≤ A.length ∧ i = .int .i64 k ∧ Hid (A.take k = B.take k) ∧ ∃ n, wr = w.drewN n) (fun i _ => A.length - (intOf i).toNat)
    case atStart => exact ⟨0, by omega, rfl, Lib.hid (by simp), 0, rfl⟩
    case round =>
      obtain ⟨k, hk, rfl, hf, n, rfl⟩ := hrel
      by_cases hlt : k < A.length
      · have hlt2 : k < B.length := by omega
        have hki : (k : Int) < A.length := by omega
        have hki2 : (k : Int) < B.length := by omega
        have hk0 : (0 : Int) ≤ k := by omega
        obtain ⟨b1, o1, a1, d1, rfl, hb1, hc1, hx1, -, -⟩ := HA.out k hlt
        obtain ⟨b2, o2, a2, d2, rfl, hb2, hc2, hx2, -, -⟩ := HB.out k hlt2
        have h1 := hA _ (List.getElem_mem hlt)
        have h2 := hB _ (List.getElem_mem hlt2)
        have HS := Lib.hid (equal_any (ca := d1) (cb := d2) (w := w.drewN n) (lst_drewN hx1 n) (lst_drewN hx2 n) (by omega) (by omega))
        clear hx1 hx2 hlen
        by_cases he : A[k] = B[k]
        · have HT := Lib.hid (show A.take (k + 1) = B.take (k + 1) by rw [List.take_succ_eq_append_getElem hlt, List.take_succ_eq_append_getElem hlt2, hf.out, he])
          rw [decide_eq_true he] at HS
          clear he
          generalize A[k] = x at *
          generalize B[k] = y at *
          go_wp2_with fail
          refine HS.out.mono ?_
          rintro e w2 ⟨rfl, m, rfl⟩
          go_wp2
          go_roundw
          case rel => exact ⟨k + 1, by omega, by go_num, HT, _, rfl⟩
          case measure => simp [intOf]; omega
        · have HN : Hid (decide (A = B) = false) := Lib.hid (decide_eq_false (fun h => he (by subst h; rfl)))
          rw [decide_eq_false he] at HS
          clear he
          generalize A[k] = x at *
          generalize B[k] = y at *
          go_wp2_with fail
          refine HS.out.mono ?_
          rintro e w2 ⟨rfl, m, rfl⟩
          go_wp2
          go_ret
          exact ⟨by rw [HN.out]; rfl, _, rfl⟩
      · have hki : ¬ (k : Int) < A.length := by omega
        have HN : Hid (decide (A = B) = true) := Lib.hid (decide_eq_true (by
          have h := hf.out
          rwa [List.take_of_length_le (by omega), List.take_of_length_le (by omega)] at h))
        go_wp2
        go_ret
        exact ⟨by rw [HN.out]; rfl, n, rfl⟩
  · have hne : ((A.length : Int) != (B.length : Int)) = true := by simp; omega
    have HN : Hid (decide (A = B) = false) := Lib.hid (decide_eq_false (fun h => hlen (by rw [h])))
    clear hlen
    go_enter Try.func34, Try.ntmps34
    go_wp2
    go_ret
    exact ⟨by rw [HN.out]; rfl, 0, rfl⟩
set_option maxHeartbeats 1000000 in
theorem setsame_any {bs bt sb tb : Nat} {A B : List (List Int)} {w : World} (hs : SetB bs sb A w) (ht : SetB bt tb B w) (hA : Short A) (hB : Short B) (hn : A.length ≤ 10000) (hn2 : B.length ≤ 10000) :
    Calls Try.prog 19 #[.pointer (some ⟨sb, 0, none⟩), .pointer (some ⟨tb, 0, none⟩)] w fun e w' => e = .returned (.bool (decide (A = B))) ∧ Grow w w' := by
  obtain ⟨slv, svs, hs1, -⟩ := hs
  obtain ⟨tlv, tvs, ht1, -⟩ := ht
  obtain ⟨sa, sc, rfl, hsl⟩ := hs1.lsts
  obtain ⟨ta, tc, rfl, htl⟩ := ht1.lsts
  have gs : w.cell? ⟨sb, 0, none⟩ = some (.slice sa A.length sc) := cell_of_block hs1.blk
  have gt : w.cell? ⟨tb, 0, none⟩ = some (.slice ta B.length tc) := cell_of_block ht1.blk
  have HE := fun n => Lib.hid (equalfunc_any (ca := sc) (cb := tc) (w := w.drewN n) (hsl.go ⟨rfl, rfl, rfl, Nat.le_refl _, fun _ _ => rfl⟩) (htl.go ⟨rfl, rfl, rfl, Nat.le_refl _, fun _ _ => rfl⟩) hA hB hn hn2)
  clear hs1 ht1 hsl htl
  go_enter Try.func19, Try.ntmps19
  go_wp2
  go_quiet ((go_at_call 34; exact Calls.quiet_of (HE _).out))
  go_wp2
  go_ret
  exact ⟨rfl, ⟨rfl, rfl, rfl, Nat.le_refl _, fun _ _ => rfl⟩⟩
theorem has_set {base sb : Nat} {L : List (List Int)} {a : Option Addr} {c : Nat} {xs : List Int} {w : World} (hs : SetB base sb L w) (hx : Lst w a xs) (hxl : xs.length ≤ 10000) (hL : Short L) (hn : L.length ≤ 10000) :
    Calls Try.prog 25 #[.pointer (some ⟨sb, 0, none⟩), .slice a xs.length c] w fun e w' => e = .returned (.bool (decide (xs ∈ L))) ∧ Grow w w' := by
  obtain ⟨lv, vs, h1, h2, -⟩ := hs
  refine (has_any h1 hx (by omega) (fun y hy => by have := hL y hy; omega) (by omega)).mono ?_
  rintro e w' ⟨p, hp, rfl, hg⟩
  refine ⟨?_, hg⟩
  rw [show decide (L[p]? = some xs) = decide (xs ∈ L) by rw [Bool.eq_iff_iff]; simp [place_mem h2 hp]]
def meetP (A B : List (List Int)) : List (List Int) := A.filter (fun x => decide (x ∈ B))
def meetL (A B : List (List Int)) : List (List Int) := ofL (meetP A B)
theorem meetP_in {A B : List (List Int)} {i : Nat} (hi : i < A.length) (h : A[i] ∈ B) : meetP (A.take (i + 1)) B = meetP (A.take i) B ++ [A[i]] := by
  unfold meetP
  rw [List.take_succ_eq_append_getElem hi, List.filter_append]
  simp [h]
theorem meetP_out {A B : List (List Int)} {i : Nat} (hi : i < A.length) (h : A[i] ∉ B) : meetP (A.take (i + 1)) B = meetP (A.take i) B := by
  unfold meetP
  rw [List.take_succ_eq_append_getElem hi, List.filter_append]
  simp [h]
set_option maxHeartbeats 2000000 in
theorem meet_any {bs bt sb tb : Nat} {A B : List (List Int)} {w : World} (hs : SetB bs sb A w) (ht : SetB bt tb B w) (hA : Short A) (hB : Short B) (hn : A.length ≤ 10000) (hn2 : B.length ≤ 10000) :
    Calls Try.prog 22 #[.pointer (some ⟨sb, 0, none⟩), .pointer (some ⟨tb, 0, none⟩)] w fun e w' => ∃ ob, e = .returned (.pointer (some ⟨ob, 0, none⟩)) ∧ SetB w.heap.size ob (meetL A B) w' ∧ Grow w w' := by
  have HT := Lib.hid ht
  obtain ⟨slv, svs, hs1, -⟩ := hs
  have HS1 := Lib.hid hs1
  obtain ⟨sla, slc, rfl, -, -⟩ := hs1.len
  have hsw := lt_of_block hs1.blk
  have gs : w.cell? ⟨sb, 0, none⟩ = some (.slice sla A.length slc) := cell_of_block hs1.blk
  clear hs1 ht
  go_enter Try.func22, Try.ntmps22
  go_wp2
  go_loopw [15] (fun i wr => ∃ p : Nat, p ≤ A.length ∧ i = .int .i64 p ∧ Hid (SetB w.heap.size w.heap.size (ofL (meetP (A.take p) B)) wr ∧ Grow w wr)) (fun i _ => A.length - (intOf i).toNat)
  case atStart => exact ⟨0, by omega, rfl, setB_new w, (Below.refl _ _).alloc (Nat.le_refl _) _⟩
  case round =>
    obtain ⟨p, hp, rfl, hh⟩ := hrel
    by_cases hlt : p < A.length
    · have hki : (p : Int) < A.length := by omega
      obtain ⟨g, c, ai, di, hlv, hc0, hin, hd, hld⟩ := HS1.out.at hlt
      injection hlv with e1 _ e3
      subst e1 e3
      have hc := (below_cell hh.out.2 (block_of_cell hc0)).trans hc0
      have HX := Lib.hid (show Lst w ai A[p] from hin)
      have hal := hA _ (List.getElem_mem hlt)
      have HSL : Hid (Short (ofL (meetP (A.take p) B))) := Lib.hid (short_ofL (fun y hy => hA y (List.mem_of_mem_take (List.mem_filter.1 hy).1)))
      have hpl : (ofL (meetP (A.take p) B)).length ≤ 9999 := by
        have h1 := ofL_len (meetP (A.take p) B)
        have h2 : (meetP (A.take p) B).length ≤ (A.take p).length := List.length_filter_le _ _
        simp only [List.length_take] at h2
        omega
      have HI := Lib.hid (meetP_in (B := B) hlt)
      have HO := Lib.hid (meetP_out (B := B) hlt)
      clear hin hc0
      generalize A[p] = x at *
      go_wp2_with fail
      refine (has_set (HT.out.go hh.out.2) (HX.out.go hh.out.2) hal hB hn2).mono ?_
      rintro e w1 ⟨rfl, hg⟩
      have H1 := Lib.hid (And.intro (hh.out.1.go hg) (hh.out.2.trans hg))
      clear hg
      by_cases hm : x ∈ B
      · rw [decide_eq_true hm]
        have HE : Hid (ofL (meetP (A.take (p + 1)) B) = rAdd (ofL (meetP (A.take p) B)) x) := Lib.hid (by rw [HI.out hm]; exact ofL_snoc _ _)
        clear hm
        go_wp2_with fail
        refine (add_set H1.out.1 H1.out.2.size (HX.out.go H1.out.2) hd hal HSL.out (by omega)).mono ?_
        rintro e w3 ⟨rfl, hs3, hb3⟩
        have H3 := Lib.hid (And.intro hs3 (Below.trans H1.out.2 hb3))
        clear hs3 hb3
        go_wp2
        go_roundw
        case rel => exact ⟨p + 1, by omega, by go_num, by rw [HE.out]; exact H3.out.1, H3.out.2⟩
        case measure => simp [intOf]; omega
      · rw [decide_eq_false hm]
        have HE := Lib.hid (HO.out hm)
        clear hm
        go_wp2
        go_roundw
        case rel => exact ⟨p + 1, by omega, by go_num, by rw [HE.out]; exact H1.out.1, H1.out.2⟩
        case measure => simp [intOf]; omega
    · have hki : ¬ (p : Int) < A.length := by omega
      have e : A.take p = A := List.take_of_length_le (by omega)
      rw [e] at hh
      go_wp2
      go_ret
      exact ⟨w.heap.size, rfl, hh.out.1, hh.out.2⟩
def Few (L : List (List Int)) : Prop := L.length ≤ 20 ∧ ∀ y ∈ L, y.length ≤ 20
def FewPost (L : List (List Int)) (w : World) (e : Ending) (w' : World) : Prop := ∃ b : Bool, e = .returned (.bool b) ∧ w = w' ∧ (b = true → Few L)
theorem few_any {a : Option Addr} {c : Nat} {L : List (List Int)} {w : World} (h : Lsts w a L) (hl : L.length ≤ 9223372036854775807) :
    Calls Try.prog 16 #[.slice a L.length c] w (FewPost L w) := by
  have H := Lib.hid h
  clear h
  by_cases hlong : (20 : Int) < L.length
  · go_enter Try.func16, Try.ntmps16
    go_wp2
    go_ret
    exact ⟨false, rfl, rfl, fun h => by cases h⟩
  go_enter Try.func16, Try.ntmps16
  go_wp2
  go_loop [10] (fun i => ∃ k : Nat, k ≤ L.length ∧ i = .int .i64 k ∧ Hid (∀ j (h : j < L.length), j < k → L[j].length ≤ 20)) (fun i => L.length - (intOf i).toNat)
  case atStart => exact ⟨0, by omega, rfl, Lib.hid (fun j h hj => by omega)⟩
  case round =>
    obtain ⟨k, hk, rfl, hf⟩ := hrel
    by_cases hlt : k < L.length
    · have hki : (k : Int) < L.length := by omega
      obtain ⟨b1, o1, a1, d1, rfl, hb1, hc1, -⟩ := H.out k hlt
      by_cases h20 : (20 : Int) < L[k].length
      · go_wp2
        go_ret
        exact ⟨false, rfl, rfl, fun h => by cases h⟩
      · have HN : Hid (∀ j (h : j < L.length), j < k + 1 → L[j].length ≤ 20) := Lib.hid (fun j h hj => by
          by_cases e : j = k
          · subst e; omega
          · exact hf.out j h (by omega))
        go_wp2
        go_round
        case rel => exact ⟨k + 1, by omega, by go_num, HN⟩
        case measure => simp [intOf]; omega
    · have hki : ¬ (k : Int) < L.length := by omega
      go_wp2
      go_ret
      refine ⟨true, rfl, rfl, fun _ => ⟨by omega, fun y hy => ?_⟩⟩
      obtain ⟨j, hj, rfl⟩ := List.getElem_of_mem hy
      exact hf.out j hj (by omega)
end Go.Proofs.Ytoiinikbbkmjoaa
