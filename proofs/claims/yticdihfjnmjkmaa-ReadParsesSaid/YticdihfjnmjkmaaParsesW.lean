/- The walk of ReadParses. -/
import Derived.Test.YticdihfjnmjkmaaSm1
import Derived.Deep.RegionHeld3
namespace Go.Proofs.Yticdihfjnmjkmaa
open Go.RowKit
attribute [local go_sem] run_store_float
theorem plain_all : ∀ n, PlainAny n
  | 0 => fun t h => absurd h (by have : 0 < _root_.SizeOf.sizeOf t := by cases t; simp only [MN.node.sizeOf_spec]; omega
                                 omega)
  | n + 1 => plain_step (plain_all n)
theorem same_all : ∀ n, SameAny n
  | 0 => fun t _ h => absurd h (by have : 0 < _root_.SizeOf.sizeOf t := by cases t; simp only [MN.node.sizeOf_spec]; omega
                                   omega)
  | n + 1 => same_step (same_all n)
theorem qparse_any {s : ByteArray} {o : Out} (h : ParseT s o) (w : World) : Calls Try.prog 21 #[.string s] w (QParsePost o w) := by
  rcases h with ⟨hs, ⟨ts, hl, hp⟩ | ⟨ts, er, a, he, hl, rfl⟩⟩ | ⟨hs, rfl⟩
  · have hlen := hl.len
    rw [size_len] at hlen
    refine qparse_ok (fun w => (rall_any s hs ts 0 0 hl w).mono ?_) (LexL.ends hl rfl) (by omega) hp w
    rintro e w' ⟨v, rfl, h1, _, hb⟩
    obtain ⟨ad, ca, rfl, _, h2, _, _⟩ := (h1 rfl).shape
    exact ⟨ad, ca, rfl, h2, hb⟩
  · refine qparse_lex (fun w => (rall_any s hs ts er a hl w).mono ?_) he w
    rintro e w' ⟨v, rfl, _, h1, hb⟩
    obtain rfl := h1 he
    exact ⟨none, 0, 0, rfl, hb⟩
  · refine qparse_lex (a := 0) (fun w => (rall_long s hs w).mono ?_) (by decide) w
    rintro e w' ⟨v, rfl, _, h1, hb⟩
    obtain rfl := h1 (by decide)
    exact ⟨none, 0, 0, rfl, hb⟩
/-- The cells of a row's k-th tree. -/
theorem rowg_cells {w : World} {lo : Nat} {e e' e2 : TypeId} {sz sz' sz2 : Nat} {v : Value} {ms : List MN} (h : RowG w lo e sz e' sz' e2 sz2 v ms) {k : Nat} (hk : k < ms.length) :
    ∃ g cap, v = .slice (some ⟨g, 0, none⟩) ms.length cap ∧ g < w.heap.size ∧ ∀ j, j < sz → w.cell? ⟨g, k * sz + j, none⟩ = (ms[k]).cells[j]? := by
  obtain ⟨h1, h2, _, _⟩ := h
  obtain ⟨g, cap, rfl, hg, hl, hc, hr⟩ := row_cells h1 (by omega)
  refine ⟨g, cap, rfl, hl, fun j hj => ?_⟩
  rw [hr _ (by rw [rowC_lenN sz ms h2]; have := Nat.mul_le_mul_right sz (show k + 1 ≤ ms.length from hk); rw [Nat.succ_mul] at this; omega)]
  exact rowC_getN sz ms h2 k hk j hj
theorem def_form {m : MN} {t : Tok} {ks : List PN} (h : m.pn = defN t ks) : ∃ v kids, m = .node [.int .i64 t.pos, .string (bOf t.text)] [] v kids ∧ kids.map MN.pn = ks := by
  obtain ⟨v, kids, rfl, h2⟩ := pn_inv h
  exact ⟨v, kids, rfl, h2⟩
theorem ParseT.forms2 {s : ByteArray} {ns : List PN} {r : List Tok} (h : ParseT s (.ok ns r)) : (∀ n ∈ ns, ∃ t ks, n = defN t ks ∧ PN.FormL true ks) ∧ PN.FewL 100001 ns ∧ ns.length ≤ 65537 := by
  obtain ⟨ts, hl, hp⟩ := h.ok_inv
  have hlen := hl.len
  rw [size_len] at hlen
  have hs : s.size ≤ 65536 := by
    rcases h with ⟨hs, _⟩ | ⟨_, h⟩
    · exact hs
    · cases h
  exact ⟨pds_forms hp _ _ rfl, pds_few hp (LexL.ends hl rfl) (by omega) _ _ rfl, by have := h.few.1; omega⟩
theorem six_keep {w w' : World} (hb : Below w.heap.size w w') {C g : Nat} (hC : C < w.heap.size) (hg : g < w.heap.size) {i j k : Nat} {a b c d e f : Value}
    (h : w.cell? ⟨C, 0, none⟩ = some a ∧ w.cell? ⟨C, 1, none⟩ = some b ∧ w.cell? ⟨C, 2, none⟩ = some c ∧ w.cell? ⟨g, i, none⟩ = some d ∧ w.cell? ⟨g, j, none⟩ = some e ∧ w.cell? ⟨g, k, none⟩ = some f) :
    w'.cell? ⟨C, 0, none⟩ = some a ∧ w'.cell? ⟨C, 1, none⟩ = some b ∧ w'.cell? ⟨C, 2, none⟩ = some c ∧ w'.cell? ⟨g, i, none⟩ = some d ∧ w'.cell? ⟨g, j, none⟩ = some e ∧ w'.cell? ⟨g, k, none⟩ = some f :=
  ⟨(hb.cell (p := ⟨C, 0, none⟩) hC).trans h.1, (hb.cell (p := ⟨C, 1, none⟩) hC).trans h.2.1, (hb.cell (p := ⟨C, 2, none⟩) hC).trans h.2.2.1, (hb.cell (p := ⟨g, i, none⟩) hg).trans h.2.2.2.1, (hb.cell (p := ⟨g, j, none⟩) hg).trans h.2.2.2.2.1, (hb.cell (p := ⟨g, k, none⟩) hg).trans h.2.2.2.2.2⟩
set_option maxRecDepth 100000 in
set_option maxHeartbeats 4000000 in
theorem parses_walk {w : World} (s : ByteArray) (hs : s.size ≤ maxLen) : Calls Try.prog 7 #[.string s] w fun e w' => e = .returned (.bool true) ∧ Below w.heap.size w w' := by
  unfold maxLen at hs
  go_enter Try.func7, Try.ntmps7
  go_wp2_with fail
  refine (alive5_any _).mono ?_
  rintro e w1 ⟨rfl, hb⟩
  have H1 := Lib.hid hb
  clear hb
  by_cases hl1 : (1500 : Int) < s.size ∧ (s.size : Int) ≤ 65536
  · obtain ⟨hl1, hl2⟩ := hl1
    go_wp2
    go_ret
    exact ⟨rfl, H1.out⟩
  have hgo : decide ((1500 : Int) < s.size) = false ∨ decide ((1500 : Int) < s.size) = true ∧ decide ((s.size : Int) ≤ 65536) = false := by
    by_cases h : (1500 : Int) < s.size
    · exact .inr ⟨by simpa using h, by simp; omega⟩
    · exact .inl (by simpa using h)
  clear hl1
  obtain ⟨o, hP⟩ := parse_total s
  have HA := fun W => Lib.hid (parse_any hP W)
  have HQ := fun W => Lib.hid (qparse_any hP W)
  cases o with
  | err er ps =>
    clear hP
    unfold ParsePost at HA
    unfold QParsePost at HQ
    simp only at HA HQ
    rcases hgo with hgo | ⟨hgo, hgo2⟩
    all_goals
      go_wp2_with fail
      refine (HA _).out.mono ?_
      rintro e w2 ⟨rfl, hb2⟩
      have HB2 := Lib.hid hb2
      clear hb2
      go_wp2_with fail
      refine (HQ _).out.mono ?_
      rintro e w3 ⟨rfl, hb3⟩
      have g2 := hb3.block w2.heap.size (by simp)
      rw [heap_alloc_this] at g2
      obtain ⟨c0, c1⟩ := blk2 g2
      have HB3 := Lib.hid (H1.out.trans ((HB2.out.trans (((below_one w2 _).trans (hb3.mono (by simp))).mono HB2.out.size)).mono H1.out.size))
      clear hb3 g2
      go_wp2_with fail
      go_loopw [50] (fun i wr => i = .int .i64 0 ∧ Hid (Below w.heap.size w wr)) (fun _ _ => 0)
      case atStart => exact ⟨rfl, HB3.out⟩
      case round =>
        obtain ⟨rfl, HF⟩ := hrel
        go_wp2_with fail
        go_ret
        exact ⟨rfl, HF.out⟩
  | ok ns r =>
    obtain ⟨hfo, hfe, hfl⟩ := hP.forms2
    have HFO := Lib.hid hfo
    have HFE := Lib.hid (PN.fewL_iff.1 hfe)
    clear hP hfo hfe
    unfold ParsePost at HA
    unfold QParsePost at HQ
    simp only at HA HQ
    rcases hgo with hgo | ⟨hgo, hgo2⟩
    all_goals
      go_wp2_with fail
      refine (HA _).out.mono ?_
      rintro e w2 ⟨x, c, ms, rfl, hns, hrow, hb2⟩
      have HB2 := Lib.hid hb2
      have HNS := Lib.hid hns
      have HROW := Lib.hid hrow
      clear hb2 hns hrow
      go_wp2_with fail
      refine (HQ _).out.mono ?_
      rintro e w3 ⟨y, d, ms2, rfl, hns2, hrow2, hb3⟩
      have HNS2 := Lib.hid hns2
      have HROW2 := Lib.hid hrow2
      have g2 := hb3.block w2.heap.size (by simp)
      rw [heap_alloc_this] at g2
      obtain ⟨c0, c1⟩ := blk2 g2
      have HROW3 := Lib.hid (HROW.out.go (kept_of_below (S := fun _ => False) ((below_one w2 _).trans (hb3.mono (by simp)))) (fun _ h => h.elim))
      have HB3 := Lib.hid (H1.out.trans ((HB2.out.trans (((below_one w2 _).trans (hb3.mono (by simp))).mono HB2.out.size)).mono H1.out.size))
      have hml : ms2.length = ms.length := by
        have e1 := congrArg List.length HNS.out
        have e2 := congrArg List.length hns2
        simp only [List.length_map] at e1 e2
        omega
      have hmn : ms.length ≤ 65537 := by
        have e1 := congrArg List.length HNS.out
        simp only [List.length_map] at e1
        omega
      rw [hml] at HROW2 ⊢
      have hb31 : w1.heap.size ≤ w3.heap.size := by have := hb3.size; have := HB2.out.size; simp only [World.size_alloc] at *; omega
      clear hb3 g2 hns2 hrow2
      go_wp2_with fail
      go_loopw [50] (fun i wr => ∃ k : Nat, k ≤ ms.length ∧ i = .int .i64 k ∧ Hid (Below w3.heap.size w3 wr)) (fun i _ => ms.length - (intOf i).toNat)
      case atStart => exact ⟨0, by omega, rfl, Below.refl _ _⟩
      case round =>
        obtain ⟨k, hk, rfl, HF⟩ := hrel
        have hsz := HF.out.size
        clear c0 c1
        by_cases hlt : k < ms.length
        · have hlt2 : k < ms2.length := by omega
          obtain ⟨g, cap, hx, hg, hc⟩ := rowg_cells HROW3.out hlt
          have hr2 := HROW2.out
          rw [← hml] at hr2
          obtain ⟨g', cap', hx', hg', hc'⟩ := rowg_cells hr2 hlt2
          have hmem := List.getElem_mem hlt
          have hmem2 := List.getElem_mem hlt2
          have hnk : k < ns.length := by
            have e1 := congrArg List.length HNS.out
            simp only [List.length_map] at e1
            omega
          have hp1 : (ms[k]).pn = ns[k] := by
            have := List.getElem_of_eq HNS.out (i := k) (by simpa using hlt)
            simpa using this
          have hp2 : (ms2[k]).pn = ns[k] := by
            have := List.getElem_of_eq HNS2.out (i := k) (by simpa using hlt2)
            simpa using this
          obtain ⟨t, ks, hnt, hks⟩ := HFO.out _ (List.getElem_mem hnk)
          have hfk := HFE.out _ (List.getElem_mem hnk)
          rw [hnt] at hp1 hp2 hfk
          obtain ⟨v1, als, hm1, hks1⟩ := def_form hp1
          obtain ⟨v2, als2, hm2, hks2⟩ := def_form hp2
          have hat := HROW3.out.lies _ hmem
          have hat2 := hr2.lies _ hmem2
          rw [hm1] at hc hat hp1
          rw [hm2] at hc' hat2 hp2
          obtain ⟨x1, c1, rfl⟩ := at_shape hat
          obtain ⟨x2, c2, rfl⟩ := at_shape hat2
          simp only [Value.slice.injEq] at hx hx'
          obtain ⟨rfl, hj1, rfl⟩ := hx
          obtain ⟨rfl, hj2, rfl⟩ := hx'
          clear hj1 hj2
          have a0 := (HF.out.cell (p := ⟨g, k * 3 + 0, none⟩) hg).trans (hc 0 (by omega))
          have a1 := (HF.out.cell (p := ⟨g, k * 3 + 1, none⟩) hg).trans (hc 1 (by omega))
          have a2 := (HF.out.cell (p := ⟨g, k * 3 + 2, none⟩) hg).trans (hc 2 (by omega))
          have b0 := (HF.out.cell (p := ⟨g', k * 3 + 0, none⟩) hg').trans (hc' 0 (by omega))
          have b1 := (HF.out.cell (p := ⟨g', k * 3 + 1, none⟩) hg').trans (hc' 1 (by omega))
          have b2 := (HF.out.cell (p := ⟨g', k * 3 + 2, none⟩) hg').trans (hc' 2 (by omega))
          simp only [MN.cells, List.cons_append, List.nil_append, List.getElem?_cons_succ, List.getElem?_cons_zero, Nat.add_zero] at a0 a1 a2 b0 b1 b2
          have hfo1 : PN.FormL true (als.map MN.pn) := by rw [hks1]; exact hks
          have HP := Lib.hid (fun W (h : Below w3.heap.size w3 W) => plain_all _ (.node [.int .i64 t.pos, .string (bOf t.text)] [] (.slice x1 als.length c1) als) (Nat.le_refl _) hfo1 (by rw [hp1]; exact hfk) W ((hat.below h).low (Nat.zero_le _)))
          have HS := Lib.hid (fun W W2 a c (ms3 : List MN) (h : Below w3.heap.size w3 W) (hW : W.heap.size ≤ W2.heap.size) (h1 : ms3.map MN.pn = als.map MN.pn) (h2 : RowOf W2 W.heap.size 81 3 83 5 (.slice a ms3.length c) ms3) (hb : Below W.heap.size W W2) =>
            same_all _ (.node [] [] (.slice a ms3.length c) ms3) (.node [.int .i64 t.pos, .string (bOf t.text)] [] (.slice x2 als2.length c2) als2) (Nat.le_refl _) (by simp only [MN.kids]; rw [h1, hks1, hks2]) (by simp only [MN.kids]; rw [h1]; exact hfo1)
              (by have hh := hfk; rw [← hp1] at hh; simp only [MN.pn, MN.pnL_map, PN.Few] at hh ⊢; rw [h1]; exact hh) W2 ((h2.at [] []).low (Nat.zero_le _)) ((hat2.below (h.trans (hb.mono h.size))).low (Nat.zero_le _)))
          simp only [MN.sl, MN.kids] at HP HS
          have hki : (k : Int) < ms.length := by omega
          have hgw : g < wr.heap.size := by omega
          have hgw' : g' < wr.heap.size := by omega
          clear hc hc' hr2 hp1 hp2 hnt hfk hm1 hm2 hks1 hks2 hat hat2 hfo1 hks
          generalize t.pos = ps at *
          generalize bOf t.text = T at *
          go_wp2_with fail
          have hC := heap_alloc_this wr (.cells #[.int .i64 ps, .string T, .slice x1 als.length c1] 50)
          obtain ⟨d0, d1, d2⟩ := blk3 hC
          have HWd : Hid (Below w3.heap.size w3 (wr.alloc (.cells #[.int .i64 ps, .string T, .slice x1 als.length c1] 50)).drew) := below_drew (HF.out.alloc hsz _)
          have e0 := cell_alloc_keep (o := .cells #[.int .i64 ps, .string T, .slice x1 als.length c1] 50) hgw' b0
          have e1 := cell_alloc_keep (o := .cells #[.int .i64 ps, .string T, .slice x1 als.length c1] 50) hgw' b1
          have e2 := cell_alloc_keep (o := .cells #[.int .i64 ps, .string T, .slice x1 als.length c1] 50) hgw' b2
          have hCl := lt_of_some hC
          have hgW : g' < (wr.alloc (.cells #[.int .i64 ps, .string T, .slice x1 als.length c1] 50)).heap.size := by omega
          clear a0 a1 a2 b0 b1 b2 hC
          generalize (wr.alloc (.cells #[.int .i64 ps, .string T, .slice x1 als.length c1] 50)) = W0 at *
          have hSd : W0.drew.cell? ⟨wr.heap.size, 0, none⟩ = some (.int .i64 ps) ∧ W0.drew.cell? ⟨wr.heap.size, 1, none⟩ = some (.string T) ∧ W0.drew.cell? ⟨wr.heap.size, 2, none⟩ = some (.slice x1 als.length c1) ∧ W0.drew.cell? ⟨g', k * 3, none⟩ = some (.int .i64 ps) ∧ W0.drew.cell? ⟨g', k * 3 + 1, none⟩ = some (.string T) ∧ W0.drew.cell? ⟨g', k * 3 + 2, none⟩ = some (.slice x2 als2.length c2) := ⟨d0, d1, d2, e0, e1, e2⟩
          go_region_held3 (fun w' => w'.cell? ⟨wr.heap.size, 0, none⟩ = some (.int .i64 ps) ∧ w'.cell? ⟨wr.heap.size, 1, none⟩ = some (.string T) ∧ w'.cell? ⟨wr.heap.size, 2, none⟩ = some (.slice x1 als.length c1) ∧ w'.cell? ⟨g', k * 3, none⟩ = some (.int .i64 ps) ∧ w'.cell? ⟨g', k * 3 + 1, none⟩ = some (.string T) ∧ w'.cell? ⟨g', k * 3 + 2, none⟩ = some (.slice x2 als2.length c2))
            (first | with_reducible exact hS2 | with_reducible exact hS1 | with_reducible exact hSd)
            (first
            | (go_at_call 22; refine (HS.out _ _ _ _ _ HWd.out H4.out.1 H4.out.2.1 H4.out.2.2.1 H4.out.2.2.2).mono ?_; rintro e w5 ⟨rfl, hb5⟩
               have hS2 : w5.cell? ⟨wr.heap.size, 0, none⟩ = some (.int .i64 ps) ∧ w5.cell? ⟨wr.heap.size, 1, none⟩ = some (.string T) ∧ w5.cell? ⟨wr.heap.size, 2, none⟩ = some (.slice x1 als.length c1) ∧ w5.cell? ⟨g', k * 3, none⟩ = some (.int .i64 ps) ∧ w5.cell? ⟨g', k * 3 + 1, none⟩ = some (.string T) ∧ w5.cell? ⟨g', k * 3 + 2, none⟩ = some (.slice x2 als2.length c2) := six_keep hb5 (Nat.lt_of_lt_of_le hCl H4.out.1) (Nat.lt_of_lt_of_le hgW H4.out.1) hS1
               have H5 := Lib.hid ((HWd.out.trans (H4.out.2.2.2.mono HWd.out.size)).trans (hb5.mono (Nat.le_trans HWd.out.size H4.out.1)))
               clear hb5)
            | (go_at_call 23; refine (HP.out _ HWd.out).mono ?_; rintro e w4 ⟨a4, c4, ms4, rfl, hpn4, hrow4, hb4⟩
               have hS1 : w4.cell? ⟨wr.heap.size, 0, none⟩ = some (.int .i64 ps) ∧ w4.cell? ⟨wr.heap.size, 1, none⟩ = some (.string T) ∧ w4.cell? ⟨wr.heap.size, 2, none⟩ = some (.slice x1 als.length c1) ∧ w4.cell? ⟨g', k * 3, none⟩ = some (.int .i64 ps) ∧ w4.cell? ⟨g', k * 3 + 1, none⟩ = some (.string T) ∧ w4.cell? ⟨g', k * 3 + 2, none⟩ = some (.slice x2 als2.length c2) := six_keep hb4 hCl hgW hSd
               have H4 := Lib.hid (And.intro (show W0.heap.size ≤ w4.heap.size from hb4.size) (And.intro hpn4 (And.intro hrow4 hb4)))
               clear hpn4 hrow4 hb4))
          all_goals
            go_wp2_with fail
            go_roundw
            case rel => exact ⟨k + 1, by omega, by go_num, H5.out⟩
            case measure => simp [intOf]; omega
        · go_wp2_with fail
          go_ret
          exact ⟨rfl, HB3.out.trans (HF.out.mono HB3.out.size)⟩
end Go.Proofs.Yticdihfjnmjkmaa
