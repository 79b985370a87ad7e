/- The reference's look at two lists of alternatives. -/
import Derived.Test.YticdihfjnmjkmaaPl2
import Derived.Deep.QuietTactic
import Derived.BigQuiet
namespace Go.Proofs.Yticdihfjnmjkmaa
open Go.RowKit
attribute [local go_sem] run_store_float
def SameAny (n : Nat) : Prop := ∀ (t u : MN), _root_.SizeOf.sizeOf t ≤ n → t.kids.map MN.pn = u.kids.map MN.pn → PN.FormL true (t.kids.map MN.pn) → PN.Few 100001 t.pn → ∀ w, MN.At w 0 81 3 83 5 t → MN.At w 0 81 3 83 5 u → Calls Try.prog 22 #[t.sl, u.sl] w fun e w' => e = .returned (.bool true) ∧ Below w.heap.size w w'
theorem fsame_self (f : Nat) (w : World) : Calls Try.prog 18 #[.float .f64 f, .float .f64 f] w fun e w' => e = .returned (.bool true) ∧ w' = w := by
  refine (fsame_val f f w).mono ?_
  rintro e w' ⟨rfl, rfl⟩
  exact ⟨by rw [sameF_self], rfl⟩
theorem kids_eq {xs ys : List MN} (h : xs.map MN.pn = ys.map MN.pn) {k : Nat} (hk : k < xs.length) : ∃ hk2 : k < ys.length, (xs[k]).pn = (ys[k]).pn := by
  have hl : xs.length = ys.length := by have := congrArg List.length h; simpa using this
  refine ⟨by omega, ?_⟩
  have := List.getElem_of_eq h (i := k) (by simpa using hk)
  simpa using this
theorem alt_twin {m : MN} {a f : Nat} {v : Value} {its : List MN} (h : (MN.node [.int .i64 a, .float .f64 f] [] v its).pn = m.pn) : ∃ v2 its2, m = .node [.int .i64 a, .float .f64 f] [] v2 its2 ∧ its.map MN.pn = its2.map MN.pn := by
  obtain ⟨pre, post, v2, kids⟩ := m
  simp only [MN.pn, MN.pnL_map, PN.node.injEq] at h
  obtain ⟨rfl, rfl, h2⟩ := h
  exact ⟨v2, kids, rfl, h2⟩
theorem item_twin {m : MN} {a : Nat} {kd op : Int} {tx : ByteArray} {v : Value} {its : List MN} (h : (MN.node [.int .i64 a, .int .i64 kd, .string tx] [.int .u8 op] v its).pn = m.pn) : ∃ v2 its2, m = .node [.int .i64 a, .int .i64 kd, .string tx] [.int .u8 op] v2 its2 ∧ its.map MN.pn = its2.map MN.pn := by
  obtain ⟨pre, post, v2, kids⟩ := m
  simp only [MN.pn, MN.pnL_map, PN.node.injEq] at h
  obtain ⟨rfl, rfl, h2⟩ := h
  exact ⟨v2, kids, rfl, h2⟩
set_option maxRecDepth 100000 in
set_option maxHeartbeats 4000000 in
theorem same_step {n : Nat} (IH : SameAny n) : SameAny (n + 1) := by
  intro t u hsz heq hform hfew w hat hau
  obtain ⟨pre, post, v, ms⟩ := t
  obtain ⟨pre2, post2, v2, ms2⟩ := u
  simp only [MN.sl, MN.kids] at *
  have hml : ms2.length = ms.length := by have := congrArg List.length heq; simp at this; omega
  obtain ⟨x, c, rfl⟩ := at_shape hat
  obtain ⟨x2, c2, rfl⟩ := at_shape hau
  obtain ⟨hms, hfk⟩ := Few_kid hfew
  have HAT := Lib.hid hat
  have HAU := Lib.hid hau
  have HFK := Lib.hid hfk
  have HFO := Lib.hid hform
  have HEQ := Lib.hid heq
  have HSZ := Lib.hid (fun m hm a' b' v' its hm2 i hi => Nat.lt_of_lt_of_le (rounds_lt (a' := a') (b' := b') (v' := v') (its := its) (i := i) rfl (m := m) hm hm2 hi) hsz)
  have HIH := Lib.hid IH
  rw [hml] at HAU ⊢
  clear hat hfk hform hfew hsz IH hau heq hml
  go_enter Try.func22, Try.ntmps22
  go_wp2_with fail
  go_loopw [5] (fun i wr => ∃ (k : Nat), k ≤ ms.length ∧ i = .int .i64 k ∧ Hid (Below w.heap.size w wr)) (fun i _ => ms.length - (intOf i).toNat)
  case atStart => exact ⟨0, by omega, rfl, Below.refl _ _⟩
  case round =>
    obtain ⟨k, hk, rfl, HB⟩ := hrel
    have hbs := HB.out.size
    by_cases hlt : k < ms.length
    · have hmem := List.getElem_mem hlt
      obtain ⟨hlt2, hpe⟩ := kids_eq HEQ.out hlt
      have hmem2 := List.getElem_mem hlt2
      obtain ⟨at', wt, v3, its, hmk, hfi⟩ := form_alt (Form_kid HFO.out hmem)
      rw [hmk] at hpe
      obtain ⟨v4, its2, hmk2, hie⟩ := alt_twin hpe
      have hil2 : its2.length = its.length := by have := congrArg List.length hie; simp at this; omega
      obtain ⟨hil, hif⟩ := Few_kid (by rw [← hmk]; exact HFK.out _ hmem)
      have hka := kid_at HAT.out hmem
      obtain ⟨g, cap, hx, hg, hc⟩ := kid_cells HAT.out hlt
      have hkb := kid_at HAU.out hmem2
      obtain ⟨g2, cap2, hx2, hg2, hc2⟩ := kid_cells HAU.out hlt2
      rw [hmk] at hka hc
      rw [hmk2] at hkb hc2
      obtain ⟨x3, c3, rfl⟩ := at_shape hka
      obtain ⟨x4, c4, rfl⟩ := at_shape hkb
      rw [hil2] at hkb hc2 hmk2
      simp only [Value.slice.injEq] at hx hx2
      obtain ⟨rfl, hj1, rfl⟩ := hx
      obtain ⟨rfl, hj2, rfl⟩ := hx2
      clear hj1 hj2
      have cc0 := (HB.out.cell (p := ⟨g, k * 3 + 0, none⟩) hg).trans (hc 0 (by omega))
      have cc1 := (HB.out.cell (p := ⟨g, k * 3 + 1, none⟩) hg).trans (hc 1 (by omega))
      have cc2 := (HB.out.cell (p := ⟨g, k * 3 + 2, none⟩) hg).trans (hc 2 (by omega))
      have dd0 := (HB.out.cell (p := ⟨g2, k * 3 + 0, none⟩) hg2).trans (hc2 0 (by omega))
      have dd1 := (HB.out.cell (p := ⟨g2, k * 3 + 1, none⟩) hg2).trans (hc2 1 (by omega))
      have dd2 := (HB.out.cell (p := ⟨g2, k * 3 + 2, none⟩) hg2).trans (hc2 2 (by omega))
      simp only [MN.cells, List.cons_append, List.nil_append, List.getElem?_cons_succ, List.getElem?_cons_zero, Nat.add_zero] at cc0 cc1 cc2 dd0 dd1 dd2
      have HMK := Lib.hid hmk
      have HKA := Lib.hid hka
      have HKB := Lib.hid hkb
      have HFI := Lib.hid hfi
      have HIF := Lib.hid hif
      have HIE := Lib.hid hie
      have HC0 := Lib.hid (hc 2 (by omega))
      have HC2 := Lib.hid (hc2 2 (by omega))
      have hki : (k : Int) < ms.length := by omega
      have hgw : g < wr.heap.size := by omega
      have hgw2 : g2 < wr.heap.size := by omega
      have HS := fun W => Lib.hid (fsame_self wt W)
      clear hmk hka hfi hif hc hmk2 hkb hc2 hie hil2 hpe
      go_wp2_with fail
      go_quiet ((go_at_call 18; exact Calls.quiet_of_same (HS _).out))
      have HB2 := Lib.hid (below_drewN HB.out nq)
      clear cc0 cc1 cc2 dd0 dd1 dd2 HS
      generalize wr.drewN nq = wo at *
      go_wp2_with fail
      go_loopw [6] (fun i wq => ∃ (j : Nat), j ≤ its.length ∧ i = .int .i64 j ∧ Hid (Below w.heap.size w wq)) (fun i _ => its.length - (intOf i).toNat)
      case atStart => exact ⟨0, by omega, rfl, HB2.out⟩
      case round =>
        obtain ⟨j, hj, rfl, HQ⟩ := hrel
        have hqs := HQ.out.size
        have cc2 := (HQ.out.cell (p := ⟨g, k * 3 + 2, none⟩) hg).trans HC0.out
        have dd2 := (HQ.out.cell (p := ⟨g2, k * 3 + 2, none⟩) hg2).trans HC2.out
        simp only [MN.cells, List.cons_append, List.nil_append, List.getElem?_cons_succ, List.getElem?_cons_zero] at cc2 dd2
        have hgq : g < wr.heap.size := by omega
        have hgq2 : g2 < wr.heap.size := by omega
        by_cases hlj : j < its.length
        · have hmj := List.getElem_mem hlj
          obtain ⟨hlj2, hpe⟩ := kids_eq HIE.out hlj
          have hmj2 := List.getElem_mem hlj2
          obtain ⟨ai, kd, op, tx, v5, als, hmk5, hfi5⟩ := form_item (Form_kid HFI.out hmj)
          have hif5 := HIF.out _ hmj
          rw [hmk5] at hpe
          obtain ⟨v6, als2, hmk6, hie6⟩ := item_twin hpe
          have hil2 : als2.length = als.length := by have := congrArg List.length hie6; simp at this; omega
          have hka := kid_at HKA.out hmj
          obtain ⟨h, hap, hx, hh, hc⟩ := kid_cells HKA.out hlj
          have hkb := kid_at HKB.out hmj2
          obtain ⟨h2, hap2, hx2, hh2, hc2⟩ := kid_cells HKB.out hlj2
          rw [hmk5] at hka hc hif5
          rw [hmk6] at hkb hc2
          obtain ⟨x5, c5, rfl⟩ := at_shape hka
          obtain ⟨x6, c6, rfl⟩ := at_shape hkb
          simp only [Value.slice.injEq] at hx hx2
          obtain ⟨rfl, hj1, rfl⟩ := hx
          obtain ⟨rfl, hj2, rfl⟩ := hx2
          clear hj1 hj2
          have a0 := (HQ.out.cell (p := ⟨h, j * 5 + 0, none⟩) hh).trans (hc 0 (by omega))
          have a1 := (HQ.out.cell (p := ⟨h, j * 5 + 1, none⟩) hh).trans (hc 1 (by omega))
          have a2 := (HQ.out.cell (p := ⟨h, j * 5 + 2, none⟩) hh).trans (hc 2 (by omega))
          have a3 := (HQ.out.cell (p := ⟨h, j * 5 + 3, none⟩) hh).trans (hc 3 (by omega))
          have a4 := (HQ.out.cell (p := ⟨h, j * 5 + 4, none⟩) hh).trans (hc 4 (by omega))
          have b0 := (HQ.out.cell (p := ⟨h2, j * 5 + 0, none⟩) hh2).trans (hc2 0 (by omega))
          have b1 := (HQ.out.cell (p := ⟨h2, j * 5 + 1, none⟩) hh2).trans (hc2 1 (by omega))
          have b2 := (HQ.out.cell (p := ⟨h2, j * 5 + 2, none⟩) hh2).trans (hc2 2 (by omega))
          have b3 := (HQ.out.cell (p := ⟨h2, j * 5 + 3, none⟩) hh2).trans (hc2 3 (by omega))
          have b4 := (HQ.out.cell (p := ⟨h2, j * 5 + 4, none⟩) hh2).trans (hc2 4 (by omega))
          simp only [MN.cells, List.cons_append, List.nil_append, List.getElem?_cons_succ, List.getElem?_cons_zero, Nat.add_zero] at a0 a1 a2 a3 a4 b0 b1 b2 b3 b4
          have HC := Lib.hid (fun W (hW : Below w.heap.size w W) => HIH.out (.node [.int .i64 ai, .int .i64 kd, .string tx] [.int .u8 op] (.slice x5 als.length c5) als) (.node [.int .i64 ai, .int .i64 kd, .string tx] [.int .u8 op] (.slice x6 als2.length c6) als2) (by have := HSZ.out _ hmem _ _ _ its HMK.out _ hmj; rw [hmk5] at this; omega) hie6 hfi5 hif5 W (hka.below hW) (hkb.below hW))
          simp only [MN.sl] at HC
          have hji : (j : Int) < its.length := by omega
          have hhq : h < wr.heap.size := by omega
          have hhq2 : h2 < wr.heap.size := by omega
          clear hmk5 hka hfi5 hif5 hc hmk6 hkb hc2 hie6 hil2 hpe
          go_wp2_with fail
          refine (HC.out _ ((HQ.out.alloc hqs _).alloc (by simp only [World.size_alloc]; omega) _)).mono ?_
          rintro e w1 ⟨rfl, hb1⟩
          have HQ1 := Lib.hid (((HQ.out.alloc hqs _).alloc (by simp only [World.size_alloc]; omega) _).trans (hb1.mono (by simp only [World.size_alloc]; omega)))
          clear hb1
          go_wp2_with fail
          go_roundw
          case rel => exact ⟨j + 1, by omega, by go_num, HQ1.out⟩
          case measure => simp [intOf]; omega
        · obtain rfl : j = its.length := by omega
          go_wp2_with fail
          go_roundw
          case rel => exact ⟨k + 1, by omega, by go_num, HQ.out⟩
          case measure => simp [intOf]; omega
    · obtain rfl : k = ms.length := by omega
      go_wp2_with fail
      go_ret
      exact ⟨rfl, HB.out⟩
end Go.Proofs.Yticdihfjnmjkmaa
