/- Alternatives as text again: the walk. -/
import Derived.Test.YticdihfjnmjkmaaBackA
namespace Go.Proofs.Yticdihfjnmjkmaa
open Go.RowKit
attribute [local go_sem] run_store_float
theorem enc42 : Utf8.encode 42 = { data := #[42] } := by kernel_rfl
theorem enc43 : Utf8.encode 43 = { data := #[43] } := by kernel_rfl
theorem enc63 : Utf8.encode 63 = { data := #[63] } := by kernel_rfl
theorem bytes_of {X : ByteArray} {l : List UInt8} (h : X.data.toList = l) : X = bOf l := by rw [← h, bOf_self]
theorem app_data (a c : ByteArray) : (a ++ c).data.toList = a.data.toList ++ c.data.toList := by rw [ByteArray.data_append]; simp
theorem bOf_data2 (l : List UInt8) : (bOf l).data.toList = l := rfl
theorem size_of {X : ByteArray} {n : Nat} (h : X.data.toList.length ≤ n) : X.size ≤ n := by rw [Lib.size_eq]; exact h
def WriteAny (n : Nat) : Prop := ∀ (t : MN), _root_.SizeOf.sizeOf t ≤ n → PN.FormL true (t.kids.map MN.pn) → PN.Few 100001 t.pn → PN.OpsL (t.kids.map MN.pn) → (PN.wrL true 0 (t.kids.map MN.pn)).length ≤ 1000000 → ∀ w, MN.At w 0 66 3 68 5 t →
  Calls Try.prog 24 #[t.sl] w fun e w' => e = .returned (.string (bOf (PN.wrL true 0 (t.kids.map MN.pn)))) ∧ Below w.heap.size w w'
set_option maxRecDepth 100000 in
set_option maxHeartbeats 4000000 in
theorem write_step {n : Nat} (IH : WriteAny n) : WriteAny (n + 1) := by
  intro t hsz hform hfew hops hlen w hat
  obtain ⟨pre, post, v, ms⟩ := t
  obtain ⟨x, c, rfl⟩ := at_shape hat
  obtain ⟨hms, hfk⟩ := Few_kid hfew
  have HAT := Lib.hid hat
  have HFK := Lib.hid hfk
  have HFO := Lib.hid hform
  have HOP := Lib.hid hops
  have HSZ := Lib.hid (fun m hm a' b' v' its hm2 i hi => Nat.lt_of_lt_of_le (rounds_lt (a' := a') (b' := b') (v' := v') (its := its) (i := i) rfl (m := m) hm hm2 hi) hsz)
  have HIH := Lib.hid IH
  have HLN := Lib.hid hlen
  have HSm := fun f W => Lib.hid (fsame_val f 0 W)
  have HNu := fun f W => Lib.hid (number_any f W)
  simp only [MN.sl, MN.kids] at *
  clear hat hfk hform hfew hsz IH hops hlen
  go_enter Try.func24, Try.ntmps24
  go_wp2_with fail
  go_loopw [3, 10] (fun o i wr => ∃ (k : Nat), k ≤ ms.length ∧ i = .int .i64 k ∧ o = .string (bOf (PN.wrL true 0 ((ms.map MN.pn).take k))) ∧ Hid (Below w.heap.size w wr)) (fun _ i _ => ms.length - (intOf i).toNat)
  case atStart => exact ⟨0, by omega, rfl, rfl, Below.refl _ _⟩
  case round =>
    obtain ⟨k, hk, rfl, rfl, HI⟩ := hrel
    have hbs := HI.out.size
    by_cases hlt : k < ms.length
    · have hmem := List.getElem_mem hlt
      obtain ⟨at', wt, v2, its, hmk, hfi⟩ := form_alt (Form_kid HFO.out hmem)
      obtain ⟨hil, hif⟩ := Few_kid (by rw [← hmk]; exact HFK.out _ hmem)
      have hka := kid_at HAT.out hmem
      obtain ⟨g, cap, hx, hg, hc⟩ := kid_cells HAT.out hlt
      have hopk := PN.opsL_iff.1 HOP.out _ (List.mem_map_of_mem hmem)
      have hnx := wrL_next true (xs := ms.map MN.pn) (k := k) (by simpa using hlt)
      rw [List.getElem_map] at hnx
      rw [hmk] at hka hc hopk hnx
      simp only [MN.pn, MN.pnL_map, PN.Ops] at hopk hnx
      rw [wr_alt] at hnx
      have hopi := hopk.2
      obtain ⟨x2, c2, rfl⟩ := at_shape hka
      simp only [Value.slice.injEq] at hx
      obtain ⟨rfl, _, rfl⟩ := hx
      have cc0 := (HI.out.cell (p := ⟨g, k * 3 + 0, none⟩) hg).trans (hc 0 (by omega))
      have cc1 := (HI.out.cell (p := ⟨g, k * 3 + 1, none⟩) hg).trans (hc 1 (by omega))
      have cc2 := (HI.out.cell (p := ⟨g, k * 3 + 2, none⟩) hg).trans (hc 2 (by omega))
      simp only [MN.cells, List.cons_append, List.nil_append, List.getElem?_cons_succ, List.getElem?_cons_zero, Nat.add_zero] at cc0 cc1 cc2
      have hle := wrL_le true (ms.map MN.pn) (k + 1)
      have HMK := Lib.hid hmk
      have HKA := Lib.hid hka
      have HFI := Lib.hid hfi
      have HIF := Lib.hid hif
      have HOI := Lib.hid hopi
      have hki : (k : Int) < ms.length := by omega
      have hgw : g < wr.heap.size := by omega
      have hnl := numS_short wt
      have hlt2 := HLN.out
      have hlk : (PN.wrL true 0 ((ms.map MN.pn).take k)).length + (PN.wrL false 0 (its.map MN.pn)).length + 8 ≤ 1000020 := by
        rw [hnx] at hle
        simp only [List.length_append] at hle
        omega
      have hIt : (PN.wrL false 0 (its.map MN.pn)).length ≤ 1000000 := by
        rw [hnx] at hle
        simp only [List.length_append] at hle
        omega
      have HNX := Lib.hid hnx
      clear hmk hka hfi hif hc hopk hopi hnx hle hlt2
      have hPl : (PN.wrL true 0 ((ms.map MN.pn).take k) ++ ((if k = 0 then [] else [32, 124]) ++ (if sameF wt 0 = true then [] else [32, 37] ++ numS wt))).length + (PN.wrL false 0 (its.map MN.pn)).length ≤ 1000020 := by
        have h1 : (if k = 0 then [] else [32, 124] : List UInt8).length ≤ 2 := by split <;> simp
        have h2 : (if sameF wt 0 = true then [] else [32, 37] ++ numS wt).length ≤ 6 := by
          split
          · simp
          · rw [List.length_append]; simp; omega
        simp only [List.length_append] at *
        omega
      have HN2 : Hid (PN.wrL true 0 ((ms.map MN.pn).take (k + 1)) = (PN.wrL true 0 ((ms.map MN.pn).take k) ++ ((if k = 0 then [] else [32, 124]) ++ (if sameF wt 0 = true then [] else [32, 37] ++ numS wt))) ++ PN.wrL false 0 (its.map MN.pn)) := Lib.hid (by rw [HNX.out]; simp only [List.append_assoc])
      have hSz : (bOf (PN.wrL true 0 ((ms.map MN.pn).take k))).size ≤ 1000020 := size_of (by rw [bOf_data2]; omega)
      have hNz : (bOf (numS wt)).size ≤ 4 := size_of (by rw [bOf_data2]; omega)
      have HSw := fun W => HSm wt W
      have HNw := fun W => HNu wt W
      unfold NumPost at HNw
      have hP0 : ∀ P : List UInt8, bOf (P ++ PN.wrL false 0 ((its.map MN.pn).take 0)) = bOf P := fun P => by simp [PN.wrL]
      have hPE : ∀ P : List UInt8, bOf (P ++ PN.wrL false 0 ((its.map MN.pn).take its.length)) = bOf (P ++ PN.wrL false 0 (its.map MN.pn)) := fun P => by rw [List.take_of_length_le (by simp)]
      have HP0 := Lib.hid hP0
      have HPE := Lib.hid hPE
      clear hP0 hPE HNX hlk hnl
      obtain ⟨P, hP⟩ : ∃ P, P = PN.wrL true 0 ((ms.map MN.pn).take k) ++ ((if k = 0 then [] else [32, 124]) ++ (if sameF wt 0 = true then [] else [32, 37] ++ numS wt)) := ⟨_, rfl⟩
      have HNP : Hid (PN.wrL true 0 ((ms.map MN.pn).take (k + 1)) = P ++ PN.wrL false 0 (its.map MN.pn)) := Lib.hid (by rw [hP]; exact HN2.out)
      rw [← hP] at hPl
      have HKZ := Lib.hid (show (∀ X : ByteArray, X.data.toList = PN.wrL true 0 ((ms.map MN.pn).take k) ++ ((if k = 0 then [] else [32, 124]) ++ (if sameF wt 0 = true then [] else [32, 37] ++ numS wt)) → X = bOf P) from fun X h => by rw [hP]; exact bytes_of h)
      clear hP HN2
      generalize PN.wrL true 0 ((ms.map MN.pn).take k) = S0 at *
      generalize hN : numS wt = N at *
      clear hN
      generalize sameF wt 0 = sf at *
      obtain ⟨wo, hwo⟩ : ∃ x, x = wr := ⟨_, rfl⟩
      subst hwo
      by_cases hk0 : k = 0
      · have hk0i : ¬ (0 : Int) < k := by omega
        have hk0b : ((k : Int) > 0) = False := by simp [hk0]
        rw [if_pos hk0] at HKZ
        clear hk0
        cases sf
        all_goals
          go_wp2_with (first
            | (go_at_call 41; refine (HNw _).out.mono ?_; rintro e w1 ⟨rfl, hb⟩; have HB1 := Lib.hid hb; have bk := (hb.block wo.heap.size (by simp)).trans (heap_alloc_this wo (.cells #[.int .i64 at', .float .f64 wt, .slice x2 its.length c2] 66)); obtain ⟨e0, e1, e2⟩ := blk3 bk; have hA1 := lt_of_some bk; clear hb bk)
            | (go_at_call 18; refine (HSw _).out.mono ?_; rintro e w0 ⟨rfl, rfl⟩))
          go_loopw [3, 32] (fun o i wq => ∃ (j : Nat), j ≤ its.length ∧ i = .int .i64 j ∧ o = .string (bOf (P ++ PN.wrL false 0 ((its.map MN.pn).take j))) ∧ Hid (Below w.heap.size w wq)) (fun _ i _ => its.length - (intOf i).toNat)
          case atStart => exact ⟨0, by omega, rfl, congrArg Value.string ((HKZ.out _ (by simp [bOf_data2])).trans (HP0.out P).symm), by first | exact Lib.hid ((HI.out.alloc hbs _).trans (HB1.out.mono (by simp; omega))) | exact Lib.hid (HI.out.alloc hbs _)⟩
          case round =>
            clear HKZ
            obtain ⟨j, hj, rfl, rfl, HQ⟩ := hrel
            have hsq := HQ.out.size
            by_cases hlj : j < its.length
            · have hmem2 := List.getElem_mem hlj
              obtain ⟨ai, kd, op, tx, v3, als, hmk3, hfi3⟩ := form_item (Form_kid HFI.out hmem2)
              have hif3 := HIF.out _ hmem2
              have hka3 := kid_at HKA.out hmem2
              obtain ⟨g3, cap3, hx3, hg3, hc3⟩ := kid_cells HKA.out hlj
              have hop3 := PN.opsL_iff.1 HOI.out _ (List.mem_map_of_mem hmem2)
              have hnx := wrL_next false (xs := its.map MN.pn) (k := j) (by simpa using hlj)
              rw [List.getElem_map] at hnx
              rw [hmk3] at hka3 hc3 hif3 hop3 hnx
              simp only [MN.pn, MN.pnL_map, PN.Ops] at hop3 hnx
              rw [wr_item] at hnx
              have hopv := hop3.1 op rfl
              have hop4 := hop3.2
              obtain ⟨x3, c3, rfl⟩ := at_shape hka3
              simp only [Value.slice.injEq] at hx3
              obtain ⟨rfl, _, rfl⟩ := hx3
              have cc0 := (HQ.out.cell (p := ⟨g3, j * 5 + 0, none⟩) hg3).trans (hc3 0 (by omega))
              have cc1 := (HQ.out.cell (p := ⟨g3, j * 5 + 1, none⟩) hg3).trans (hc3 1 (by omega))
              have cc2 := (HQ.out.cell (p := ⟨g3, j * 5 + 2, none⟩) hg3).trans (hc3 2 (by omega))
              have cc3 := (HQ.out.cell (p := ⟨g3, j * 5 + 3, none⟩) hg3).trans (hc3 3 (by omega))
              have cc4 := (HQ.out.cell (p := ⟨g3, j * 5 + 4, none⟩) hg3).trans (hc3 4 (by omega))
              simp only [MN.cells, List.cons_append, List.nil_append, List.getElem?_cons_succ, List.getElem?_cons_zero, Nat.add_zero] at cc0 cc1 cc2 cc3 cc4
              have hle2 := wrL_le false (its.map MN.pn) (j + 1)
              rw [hnx] at hle2
              simp only [List.length_append] at hle2
              have hji : (j : Int) < its.length := by omega
              have hgw3 : g3 < wr.heap.size := by omega
              have hSj : (bOf (P ++ PN.wrL false 0 ((its.map MN.pn).take j))).size ≤ 1000020 := size_of (by rw [bOf_data2, List.length_append]; omega)
              have HX2 := Lib.hid (show ∀ X : ByteArray, X.data.toList = (P ++ PN.wrL false 0 ((its.map MN.pn).take j)) ++ ((if kd = 0 then [32] ++ tx.data.toList else if kd = 1 then [32, 39] ++ tx.data.toList ++ [39] else [32, 40] ++ PN.wrL true 0 (als.map MN.pn) ++ [32, 41]) ++ (if op = 0 then [] else [op.toNat.toUInt8])) → X = bOf (P ++ PN.wrL false 0 ((its.map MN.pn).take (j + 1))) from fun X h => by rw [bytes_of h, hnx, List.append_assoc])
              by_cases hk0 : kd = 0
              · subst hk0
                simp only [if_true, List.length_append] at hle2
                have htx : tx.size ≤ 1000020 := size_of (by omega)
                clear hmk3 hka3 hfi3 hif3 hc3 hnx hle2 hop3 hop4
                generalize hSJ : bOf (P ++ PN.wrL false 0 ((its.map MN.pn).take j)) = SJ at *
                have HSJ : Hid (SJ.data.toList = P ++ PN.wrL false 0 ((its.map MN.pn).take j)) := Lib.hid (by rw [← hSJ]; rfl)
                clear hSJ
                have u1 := enc42
                have u2 := enc43
                have u3 := enc63
                rcases hopv with rfl | rfl | rfl | rfl
                all_goals
                  go_wp2
                  go_roundw
                  all_goals first
                    | exact ⟨j + 1, by omega, by go_num, congrArg Value.string (HX2.out _ (by simp [HSJ.out])), Lib.hid (HQ.out.alloc hsq _)⟩
                    | (simp [intOf]; omega)
              · by_cases hk1 : kd = 1
                · subst hk1
                  simp only [if_true, if_neg hk0, List.length_append] at hle2
                  have htx : tx.size ≤ 1000020 := size_of (by omega)
                  clear hmk3 hka3 hfi3 hif3 hc3 hnx hle2 hop3 hop4 hk0
                  generalize hSJ : bOf (P ++ PN.wrL false 0 ((its.map MN.pn).take j)) = SJ at *
                  have HSJ : Hid (SJ.data.toList = P ++ PN.wrL false 0 ((its.map MN.pn).take j)) := Lib.hid (by rw [← hSJ]; rfl)
                  clear hSJ
                  have u1 := enc42
                  have u2 := enc43
                  have u3 := enc63
                  rcases hopv with rfl | rfl | rfl | rfl
                  all_goals
                    go_wp2
                    go_roundw
                    all_goals first
                      | exact ⟨j + 1, by omega, by go_num, congrArg Value.string (HX2.out _ (by simp [HSJ.out])), Lib.hid (HQ.out.alloc hsq _)⟩
                      | (simp [intOf]; omega)
                · simp only [if_neg hk0, if_neg hk1, List.length_append] at hle2
                  have hin : (PN.wrL true 0 (als.map MN.pn)).length ≤ 1000000 := by omega
                  have HC := Lib.hid (fun W (h : Below w.heap.size w W) => HIH.out (.node [.int .i64 ai, .int .i64 kd, .string tx] [.int .u8 op] (.slice x3 als.length c3) als) (by have := HSZ.out _ hmem _ _ _ its HMK.out _ hmem2; rw [hmk3] at this; omega) hfi3 hif3 hop4 hin W (hka3.below h))
                  simp only [MN.sl, MN.kids] at HC
                  have hb0 : (kd == 0) = false := by simpa using hk0
                  have hb1 : (kd == 1) = false := by simpa using hk1
                  rw [if_neg hk0, if_neg hk1] at HX2
                  clear hmk3 hka3 hfi3 hif3 hc3 hnx hle2 hop3 hop4 hk0 hk1
                  generalize hSJ : bOf (P ++ PN.wrL false 0 ((its.map MN.pn).take j)) = SJ at *
                  have HSJ : Hid (SJ.data.toList = P ++ PN.wrL false 0 ((its.map MN.pn).take j)) := Lib.hid (by rw [← hSJ]; rfl)
                  clear hSJ
                  have hiz : (bOf (PN.wrL true 0 (als.map MN.pn))).size ≤ 1000000 := size_of (by rw [bOf_data2]; omega)
                  generalize hIN : bOf (PN.wrL true 0 (als.map MN.pn)) = IN at *
                  have HIN : Hid (IN.data.toList = PN.wrL true 0 (als.map MN.pn)) := Lib.hid (by rw [← hIN]; rfl)
                  clear hIN
                  have u1 := enc42
                  have u2 := enc43
                  have u3 := enc63
                  rcases hopv with rfl | rfl | rfl | rfl
                  all_goals
                    go_wp2_with (first | (go_at_call 24; refine (HC.out _ (HQ.out.alloc hsq _)).mono ?_; rintro e w2 ⟨rfl, hb⟩; have HB2 := Lib.hid hb; have bk5 := (hb.block wr.heap.size (by simp)).trans (heap_alloc_this wr _); obtain ⟨q0, q1, q2, q3, q4⟩ := blk5 bk5; have hq := lt_of_some bk5; clear hb bk5))
                    go_roundw
                    all_goals first
                      | exact ⟨j + 1, by omega, by go_num, congrArg Value.string (HX2.out _ (by simp [HSJ.out, HIN.out])), Lib.hid ((HQ.out.alloc hsq _).trans (HB2.out.mono (by simp; omega)))⟩
                      | (simp [intOf]; omega)
            · obtain rfl : j = its.length := by omega
              have HE2 := Lib.hid (show bOf (P ++ PN.wrL false 0 ((its.map MN.pn).take its.length)) = bOf (PN.wrL true 0 ((ms.map MN.pn).take (k + 1))) by rw [HPE.out, HNP.out])
              generalize bOf (P ++ PN.wrL false 0 ((its.map MN.pn).take its.length)) = E at *
              go_wp2_with fail
              go_roundw
              all_goals first
                | exact ⟨k + 1, by omega, by go_num, congrArg Value.string HE2.out, HQ⟩
                | (simp [intOf]; omega)
      · have hk0i : (0 : Int) < k := by omega
        rw [if_neg hk0] at HKZ
        clear hk0
        cases sf
        all_goals
          go_wp2_with (first
            | (go_at_call 41; refine (HNw _).out.mono ?_; rintro e w1 ⟨rfl, hb⟩; have HB1 := Lib.hid hb; have bk := (hb.block wo.heap.size (by simp)).trans (heap_alloc_this wo (.cells #[.int .i64 at', .float .f64 wt, .slice x2 its.length c2] 66)); obtain ⟨e0, e1, e2⟩ := blk3 bk; have hA1 := lt_of_some bk; clear hb bk)
            | (go_at_call 18; refine (HSw _).out.mono ?_; rintro e w0 ⟨rfl, rfl⟩))
          go_loopw [3, 32] (fun o i wq => ∃ (j : Nat), j ≤ its.length ∧ i = .int .i64 j ∧ o = .string (bOf (P ++ PN.wrL false 0 ((its.map MN.pn).take j))) ∧ Hid (Below w.heap.size w wq)) (fun _ i _ => its.length - (intOf i).toNat)
          case atStart => exact ⟨0, by omega, rfl, congrArg Value.string ((HKZ.out _ (by simp [bOf_data2])).trans (HP0.out P).symm), by first | exact Lib.hid ((HI.out.alloc hbs _).trans (HB1.out.mono (by simp; omega))) | exact Lib.hid (HI.out.alloc hbs _)⟩
          case round =>
            clear HKZ
            obtain ⟨j, hj, rfl, rfl, HQ⟩ := hrel
            have hsq := HQ.out.size
            by_cases hlj : j < its.length
            · have hmem2 := List.getElem_mem hlj
              obtain ⟨ai, kd, op, tx, v3, als, hmk3, hfi3⟩ := form_item (Form_kid HFI.out hmem2)
              have hif3 := HIF.out _ hmem2
              have hka3 := kid_at HKA.out hmem2
              obtain ⟨g3, cap3, hx3, hg3, hc3⟩ := kid_cells HKA.out hlj
              have hop3 := PN.opsL_iff.1 HOI.out _ (List.mem_map_of_mem hmem2)
              have hnx := wrL_next false (xs := its.map MN.pn) (k := j) (by simpa using hlj)
              rw [List.getElem_map] at hnx
              rw [hmk3] at hka3 hc3 hif3 hop3 hnx
              simp only [MN.pn, MN.pnL_map, PN.Ops] at hop3 hnx
              rw [wr_item] at hnx
              have hopv := hop3.1 op rfl
              have hop4 := hop3.2
              obtain ⟨x3, c3, rfl⟩ := at_shape hka3
              simp only [Value.slice.injEq] at hx3
              obtain ⟨rfl, _, rfl⟩ := hx3
              have cc0 := (HQ.out.cell (p := ⟨g3, j * 5 + 0, none⟩) hg3).trans (hc3 0 (by omega))
              have cc1 := (HQ.out.cell (p := ⟨g3, j * 5 + 1, none⟩) hg3).trans (hc3 1 (by omega))
              have cc2 := (HQ.out.cell (p := ⟨g3, j * 5 + 2, none⟩) hg3).trans (hc3 2 (by omega))
              have cc3 := (HQ.out.cell (p := ⟨g3, j * 5 + 3, none⟩) hg3).trans (hc3 3 (by omega))
              have cc4 := (HQ.out.cell (p := ⟨g3, j * 5 + 4, none⟩) hg3).trans (hc3 4 (by omega))
              simp only [MN.cells, List.cons_append, List.nil_append, List.getElem?_cons_succ, List.getElem?_cons_zero, Nat.add_zero] at cc0 cc1 cc2 cc3 cc4
              have hle2 := wrL_le false (its.map MN.pn) (j + 1)
              rw [hnx] at hle2
              simp only [List.length_append] at hle2
              have hji : (j : Int) < its.length := by omega
              have hgw3 : g3 < wr.heap.size := by omega
              have hSj : (bOf (P ++ PN.wrL false 0 ((its.map MN.pn).take j))).size ≤ 1000020 := size_of (by rw [bOf_data2, List.length_append]; omega)
              have HX2 := Lib.hid (show ∀ X : ByteArray, X.data.toList = (P ++ PN.wrL false 0 ((its.map MN.pn).take j)) ++ ((if kd = 0 then [32] ++ tx.data.toList else if kd = 1 then [32, 39] ++ tx.data.toList ++ [39] else [32, 40] ++ PN.wrL true 0 (als.map MN.pn) ++ [32, 41]) ++ (if op = 0 then [] else [op.toNat.toUInt8])) → X = bOf (P ++ PN.wrL false 0 ((its.map MN.pn).take (j + 1))) from fun X h => by rw [bytes_of h, hnx, List.append_assoc])
              by_cases hk0 : kd = 0
              · subst hk0
                simp only [if_true, List.length_append] at hle2
                have htx : tx.size ≤ 1000020 := size_of (by omega)
                clear hmk3 hka3 hfi3 hif3 hc3 hnx hle2 hop3 hop4
                generalize hSJ : bOf (P ++ PN.wrL false 0 ((its.map MN.pn).take j)) = SJ at *
                have HSJ : Hid (SJ.data.toList = P ++ PN.wrL false 0 ((its.map MN.pn).take j)) := Lib.hid (by rw [← hSJ]; rfl)
                clear hSJ
                have u1 := enc42
                have u2 := enc43
                have u3 := enc63
                rcases hopv with rfl | rfl | rfl | rfl
                all_goals
                  go_wp2
                  go_roundw
                  all_goals first
                    | exact ⟨j + 1, by omega, by go_num, congrArg Value.string (HX2.out _ (by simp [HSJ.out])), Lib.hid (HQ.out.alloc hsq _)⟩
                    | (simp [intOf]; omega)
              · by_cases hk1 : kd = 1
                · subst hk1
                  simp only [if_true, if_neg hk0, List.length_append] at hle2
                  have htx : tx.size ≤ 1000020 := size_of (by omega)
                  clear hmk3 hka3 hfi3 hif3 hc3 hnx hle2 hop3 hop4 hk0
                  generalize hSJ : bOf (P ++ PN.wrL false 0 ((its.map MN.pn).take j)) = SJ at *
                  have HSJ : Hid (SJ.data.toList = P ++ PN.wrL false 0 ((its.map MN.pn).take j)) := Lib.hid (by rw [← hSJ]; rfl)
                  clear hSJ
                  have u1 := enc42
                  have u2 := enc43
                  have u3 := enc63
                  rcases hopv with rfl | rfl | rfl | rfl
                  all_goals
                    go_wp2
                    go_roundw
                    all_goals first
                      | exact ⟨j + 1, by omega, by go_num, congrArg Value.string (HX2.out _ (by simp [HSJ.out])), Lib.hid (HQ.out.alloc hsq _)⟩
                      | (simp [intOf]; omega)
                · simp only [if_neg hk0, if_neg hk1, List.length_append] at hle2
                  have hin : (PN.wrL true 0 (als.map MN.pn)).length ≤ 1000000 := by omega
                  have HC := Lib.hid (fun W (h : Below w.heap.size w W) => HIH.out (.node [.int .i64 ai, .int .i64 kd, .string tx] [.int .u8 op] (.slice x3 als.length c3) als) (by have := HSZ.out _ hmem _ _ _ its HMK.out _ hmem2; rw [hmk3] at this; omega) hfi3 hif3 hop4 hin W (hka3.below h))
                  simp only [MN.sl, MN.kids] at HC
                  have hb0 : (kd == 0) = false := by simpa using hk0
                  have hb1 : (kd == 1) = false := by simpa using hk1
                  rw [if_neg hk0, if_neg hk1] at HX2
                  clear hmk3 hka3 hfi3 hif3 hc3 hnx hle2 hop3 hop4 hk0 hk1
                  generalize hSJ : bOf (P ++ PN.wrL false 0 ((its.map MN.pn).take j)) = SJ at *
                  have HSJ : Hid (SJ.data.toList = P ++ PN.wrL false 0 ((its.map MN.pn).take j)) := Lib.hid (by rw [← hSJ]; rfl)
                  clear hSJ
                  have hiz : (bOf (PN.wrL true 0 (als.map MN.pn))).size ≤ 1000000 := size_of (by rw [bOf_data2]; omega)
                  generalize hIN : bOf (PN.wrL true 0 (als.map MN.pn)) = IN at *
                  have HIN : Hid (IN.data.toList = PN.wrL true 0 (als.map MN.pn)) := Lib.hid (by rw [← hIN]; rfl)
                  clear hIN
                  have u1 := enc42
                  have u2 := enc43
                  have u3 := enc63
                  rcases hopv with rfl | rfl | rfl | rfl
                  all_goals
                    go_wp2_with (first | (go_at_call 24; refine (HC.out _ (HQ.out.alloc hsq _)).mono ?_; rintro e w2 ⟨rfl, hb⟩; have HB2 := Lib.hid hb; have bk5 := (hb.block wr.heap.size (by simp)).trans (heap_alloc_this wr _); obtain ⟨q0, q1, q2, q3, q4⟩ := blk5 bk5; have hq := lt_of_some bk5; clear hb bk5))
                    go_roundw
                    all_goals first
                      | exact ⟨j + 1, by omega, by go_num, congrArg Value.string (HX2.out _ (by simp [HSJ.out, HIN.out])), Lib.hid ((HQ.out.alloc hsq _).trans (HB2.out.mono (by simp; omega)))⟩
                      | (simp [intOf]; omega)
            · obtain rfl : j = its.length := by omega
              have HE2 := Lib.hid (show bOf (P ++ PN.wrL false 0 ((its.map MN.pn).take its.length)) = bOf (PN.wrL true 0 ((ms.map MN.pn).take (k + 1))) by rw [HPE.out, HNP.out])
              generalize bOf (P ++ PN.wrL false 0 ((its.map MN.pn).take its.length)) = E at *
              go_wp2_with fail
              go_roundw
              all_goals first
                | exact ⟨k + 1, by omega, by go_num, congrArg Value.string HE2.out, HQ⟩
                | (simp [intOf]; omega)
    · obtain rfl : k = ms.length := by omega
      have hE : (ms.map MN.pn).take ms.length = ms.map MN.pn := List.take_of_length_le (by simp)
      have HE := Lib.hid (show bOf (PN.wrL true 0 ((ms.map MN.pn).take ms.length)) = bOf (PN.wrL true 0 (ms.map MN.pn)) by rw [hE])
      generalize bOf (PN.wrL true 0 ((ms.map MN.pn).take ms.length)) = T at *
      clear hE
      go_wp2_with fail
      go_ret
      exact ⟨congrArg (fun s => Ending.returned (.string s)) HE.out, HI.out⟩
end Go.Proofs.Yticdihfjnmjkmaa
