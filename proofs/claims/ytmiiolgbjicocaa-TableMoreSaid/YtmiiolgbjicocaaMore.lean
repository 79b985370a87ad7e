/-
  TableMore answers true, and leaves its argument as it was, for every grammar. No conditions.
-/
import Derived.Test.YtmiiolgbjicocaaMoreL
import Derived.Test.YtmiiolgbjicocaaOpen
import Derived.Test.YtmiiolgbjicocaaRows
import Derived.Deep.RegionHeld3
import Derived.WalkKit
import Derived.ProofKit
import Derived.OpenShut
import Derived.ShutString
import Derived.ChangeOld
import Derived.Below
namespace Go.Proofs.Ytmiiolgbjicocaa.tableMore
open Go.ChangeShapes Go.WideShapes Go.ChangeAt Go.RowKit
set_option linter.unusedVariables false
attribute [local go_sem] run_store_float
theorem own : ownKnob Try.prog.godebug = none := by kernel_rfl
theorem laidOut : laidOutB Try.prog = true := by kernel_rfl

def TruePost (w : World) (e : Ending) (w' : World) : Prop := e = .returned (.bool true) ∧ Below w.heap.size w w'
set_option maxRecDepth 100000 in
set_option maxHeartbeats 4000000 in
theorem walk {w : World} {g : GramD} (hg : GramAt w w.heap.size g) (hwf : WfG g) : Calls Try.prog 5 #[GV g] w (TruePost w) := by
  have HS := Lib.hid (box_start hg)
  have HP : Hid (∀ W, Grow w W → TruePost w (.returned (.bool true)) W) := Lib.hid (fun W h => ⟨rfl, h⟩)
  have HWF := Lib.hid hwf
  clear hg hwf
  generalize TruePost w = Po at *
  unfold GV
  go_enter Try.func5, Try.ntmps5
  go_wp2_with fail
  refine (alive_any _).mono ?_
  rintro e w1 ⟨rfl, hb⟩
  have H1 := Lib.hid (HS.out.go hb)
  have g0 := H1.out.c0
  have g1 := H1.out.c1
  have g2 := H1.out.c2
  clear hb HS
  go_wp2_with fail
  refine (whole_bx H1.out).mono ?_
  rintro e w2 ⟨rfl | ⟨rfl, hok⟩, hb⟩
  · have H2 := Lib.hid (H1.out.go hb)
    clear hb g0 g1 g2 H1
    go_wp2_with fail
    exact HP.out _ H2.out.grow
  have H2 := Lib.hid (H1.out.go hb)
  have HG := Lib.hid (goodW_of hok HWF.out)
  clear hb hok g0 g1 g2 H1 HWF
  have g0 := H2.out.c0
  have g1 := H2.out.c1
  have g2 := H2.out.c2
  go_wp2_with fail
  refine (first_bx H2.out HG.out (by decide) (by decide)).mono ?_
  rintro e w3 ⟨hb, ⟨sb1, F1, Fo1, rfl, hs1⟩ | ⟨rfl, -⟩⟩
  rotate_left
  · have H3 := Lib.hid (H2.out.go hb)
    clear hb g0 g1 g2 H2
    have g0 := H3.out.c0
    have g1 := H3.out.c1
    have g2 := H3.out.c2
    go_wp2_with fail
    refine (first_bx H3.out HG.out (by decide) (by decide)).mono ?_
    rintro e w4 ⟨hb, ⟨sb2, F2, Fo2, rfl, -⟩ | ⟨rfl, -⟩⟩
    all_goals
      have H4 := Lib.hid (H3.out.go hb)
      clear hb g0 g1 g2 H3
      go_wp2_with fail
      exact HP.out _ H4.out.grow
  have H3 := Lib.hid (H2.out.go hb)
  have HS3 := Lib.hid hs1
  clear hb g0 g1 g2 H2 hs1
  have g0 := H3.out.c0
  have g1 := H3.out.c1
  have g2 := H3.out.c2
  go_wp2_with fail
  refine (first_bx H3.out HG.out (by decide) (by decide)).mono ?_
  rintro e w4 ⟨hb, ⟨sb2, F2, Fo2, rfl, hs2⟩ | ⟨rfl, -⟩⟩
  rotate_left
  · have H4 := Lib.hid (H3.out.go hb)
    clear hb g0 g1 g2 H3
    go_wp2_with fail
    exact HP.out _ H4.out.grow
  have H4 := Lib.hid (H3.out.go hb)
  have HSA := Lib.hid (HS3.out.go hb)
  have HSB := Lib.hid hs2
  clear hb g0 g1 g2 H3 HS3 hs2
  go_wp2_with fail
  have HD := Lib.hid (H4.out.go (grow_drew w4))
  have HDA := Lib.hid (HSA.out.go (grow_drew w4))
  have HDB := Lib.hid (HSB.out.go (grow_drew w4))
  have q0 := HD.out.c0
  have q1 := HD.out.c1
  have q2 := HD.out.c2
  refine wp_region_held_drew (S := fun w' => w'.cell? ⟨w.heap.size, 0, none⟩ = some (.slice g.ta g.terms.length g.tc) ∧ w'.cell? ⟨w.heap.size, 1, none⟩ = some (.slice g.va g.vars.length g.vc) ∧ w'.cell? ⟨w.heap.size, 2, none⟩ = some (.slice g.ra g.rules.length g.rc)) (by kernel_rfl) (⟨q0, q1, q2⟩) (fun hHeld => ?_)
  refine wpAnyH_take (i := 0) (v := ?_) rfl (by kernel_rfl) (by kernel_rfl) (by kernel_rfl) (fun _ _ _ h => h) (Or.inl ⟨by rfl, ?_⟩) (by with_reducible assumption) ?_
  rotate_left
  · intro w hSw
    try dsimp only at hSw
    go_simp
    try with_reducible rfl
  try simp only [Act.put, List.setIfInBounds_toArray]
  refine wpAnyH_take (i := 1) (v := ?_) rfl (by kernel_rfl) (by kernel_rfl) (by kernel_rfl) (fun _ _ _ h => h) (Or.inl ⟨by rfl, ?_⟩) (by with_reducible assumption) ?_
  rotate_left
  · intro w hSw
    try dsimp only at hSw
    go_simp
    try with_reducible rfl
  try simp only [Act.put]
  refine wpAnyH_take (i := 3) (v := ?_) rfl (by kernel_rfl) (by kernel_rfl) (by kernel_rfl) (fun _ _ _ h => h) (Or.inl ⟨by rfl, ?_⟩) (by with_reducible assumption) ?_
  rotate_left
  · intro w hSw
    try dsimp only at hSw
    go_simp
    try with_reducible rfl
  try simp only [Act.put]
  refine wpAnyH_take (i := 4) (v := ?_) rfl (by kernel_rfl) (by kernel_rfl) (by kernel_rfl) (fun _ _ _ h => h) (Or.inl ⟨by rfl, ?_⟩) (by with_reducible assumption) ?_
  rotate_left
  · intro w hSw
    try dsimp only at hSw
    go_simp
    try with_reducible rfl
  try simp only [Act.put]
  refine wpAnyH_ready (rs := [2]) (by kernel_rfl) (by simp) ?_
  refine AllReadyH.cons (o := _) rfl (fun K hK => ?_) ?_
  · go_simp
    go_at_call 11
    refine (table_bx HD.out HG.out (by decide) HDA.out).mono ?_
    rintro e w5 ⟨tb1, T1, rfl, hb, ht, hst, hto, htl⟩
    have H5 := Lib.hid (HD.out.go hb)
    have HT5 := Lib.hid ht
    have HST1 := Lib.hid (And.intro hst (And.intro hto htl))
    have HSB5 := Lib.hid (HDB.out.go hb)
    have r0 := H5.out.c0
    have r1 := H5.out.c1
    have r2 := H5.out.c2
    clear hb ht hst hto htl
    refine hK.out _ _ (⟨r0, r1, r2⟩) (fun hHeld => ?_)
    clear hK K
    try simp only [Act.put, List.setIfInBounds_toArray, List.set_cons_zero, List.set_cons_succ]
    refine wpAnyH_ready (rs := [5]) (by kernel_rfl) (by simp) ?_
    refine AllReadyH.cons (o := _) rfl (fun K hK => ?_) ?_
    · go_simp
      go_at_call 11
      refine (table_bx H5.out HG.out (by decide) HSB5.out).mono ?_
      rintro e w6 ⟨tb2, T2, rfl, hb, ht, hst, hto, htl⟩
      have H6 := Lib.hid (H5.out.go hb)
      have HTA := Lib.hid (HT5.out.go hb)
      have HTB := Lib.hid ht
      have HST2 := Lib.hid (And.intro hst (And.intro hto htl))
      have t0 := H6.out.c0
      have t1 := H6.out.c1
      have t2 := H6.out.c2
      clear hb ht hst hto htl
      refine hK.out _ _ (⟨t0, t1, t2⟩) (fun hHeld => ?_)
      clear hK K
      try simp only [Act.put, List.setIfInBounds_toArray, List.set_cons_zero, List.set_cons_succ]
      refine wpAnyH_take (i := 6) (v := ?_) rfl (by kernel_rfl) (by kernel_rfl) (by kernel_rfl) (fun _ _ _ h => h) (Or.inl ⟨by rfl, ?_⟩) (by with_reducible assumption) ?_
      rotate_left
      · intro w hSw
        try dsimp only at hSw
        go_simp
        try with_reducible rfl
      try simp only [Act.put, List.setIfInBounds_toArray]
      refine wpAnyH_take (i := 7) (v := ?_) rfl (by kernel_rfl) (by kernel_rfl) (by kernel_rfl) (fun _ _ _ h => h) (Or.inl ⟨by rfl, ?_⟩) (by with_reducible assumption) ?_
      rotate_left
      · intro w hSw
        try dsimp only at hSw
        go_simp
        try with_reducible rfl
      try simp only [Act.put]
      refine wpAnyH_done (by kernel_rfl) ?_ _
      go_wp2_with fail
      have HM := Lib.hid (fun (c : ClD) (hc : c ∈ clV g.rules T2 g.vars.length) => more_clash HG.out HSA.out HSB.out HST1.out.2.1 HST2.out.2.1 HST1.out.2.2 HST2.out.2.2 hc)
      have HMC := Lib.hid (fun (v : Nat) (hv : v < g.vars.length) hc => more_clear HG.out HSA.out HSB.out HST1.out.2.1 HST2.out.2.1 HST1.out.2.2 HST2.out.2.2 hv hc)
      clear r0 r1 r2 t0 t1 t2 q0 q1 q2 hHeld HSB5 H5 HT5 HD HDA HDB HSA HSB H4
      generalize hra0 : g.ra = ra
      have HRA := Lib.hid hra0
      clear hra0
      refine (clashes_bx H6.out HG.out HTB.out HST2.out.1).mono ?_
      rintro e w7 ⟨cv, rfl, hco, hg7⟩
      obtain ⟨ca, cc, rfl⟩ := cout_form hco
      have HCO := Lib.hid hco
      have H7 := Lib.hid (H6.out.go hg7)
      have HTA7 := Lib.hid (HTA.out.go hg7)
      have HTB7 := Lib.hid (HTB.out.go hg7)
      have HCL := Lib.hid (clV_len g.rules T1 g.vars.length)
      have hcl1 := clV_len g.rules T2 g.vars.length
      have hm1 : g.rules.length * g.rules.length ≤ 24 * 24 := Nat.mul_le_mul HG.out.nr HG.out.nr
      have hm2 : g.rules.length * g.rules.length * g.vars.length ≤ 24 * 24 * 8 := Nat.mul_le_mul hm1 HG.out.nv.2
      have hclL : (clV g.rules T2 g.vars.length).length ≤ 10000 := by omega
      have HDL : Hid ((clV g.rules T1 g.vars.length).length ≤ 10000) := Lib.hid (by have := HCL.out; omega)
      clear hco hg7 HTA HTB H6 hcl1 hm1 hm2 HCL
      generalize clV g.rules T2 g.vars.length = C at *
      go_wp2_with fail
      go_loopw [45] (fun i wr => ∃ k : Nat, k ≤ C.length ∧ i = .int .i64 k ∧ Hid (Grow w7 wr)) (fun i _ => C.length - (intOf i).toNat)
      case atStart => exact ⟨0, by omega, rfl, Lib.hid (Grow.refl _)⟩
      case round =>
        obtain ⟨k, hk, rfl, hh⟩ := hrel
        by_cases hkt : k < C.length
        · have hki : (k : Int) < C.length := by omega
          obtain ⟨rb, la, lc, rfl, hrb, e0, e1, e2, e3, e4⟩ := cout_at HCO.out hkt
          have HMK := Lib.hid (HM.out C[k] (List.getElem_mem hkt))
          have d0 := (below_cell hh.out hrb).trans e0
          have d1 := (below_cell hh.out hrb).trans e1
          have d2 := (below_cell hh.out hrb).trans e2
          have d3 := (below_cell hh.out hrb).trans e3
          generalize C[k] = c at *
          obtain ⟨cv, cx, cy, cl⟩ := c
          dsimp only at *
          have HCB := Lib.hid (heap_alloc_this wr (.cells #[.int .i64 (cv : Nat), .int .i64 (cx : Nat), .int .i64 (cy : Nat), .slice la cl.length lc] 59))
          have HGA := Lib.hid (hh.out.trans (grow_one wr (.cells #[.int .i64 (cv : Nat), .int .i64 (cx : Nat), .int .i64 (cy : Nat), .slice la cl.length lc] 59)))
          clear e0 e1 e2 e3 e4 hh
          go_wp2_with fail
          generalize wr.alloc (.cells #[.int .i64 (cv : Nat), .int .i64 (cx : Nat), .int .i64 (cy : Nat), .slice la cl.length lc] 59) = wa at *
          generalize wr.heap.size = cb at *
          clear d0 d1 d2 d3
          refine (clashes_bx (H7.out.go HGA.out) HG.out (HTA7.out.go HGA.out) HST1.out.1).mono ?_
          rintro e w8 ⟨dv, rfl, hdo, hg8⟩
          obtain ⟨da, dc, rfl⟩ := cout_form hdo
          have HDO := Lib.hid hdo
          have HG8 := Lib.hid (HGA.out.trans hg8)
          have HCB8 := Lib.hid ((hg8.block cb (lt_of_block HCB.out)).trans HCB.out)
          have hdl := HDL.out
          clear hdo hg8 HCB HGA
          generalize clV g.rules T1 g.vars.length = D at *
          go_wp2_with fail
          go_loopw [11, 52] (fun n i ws => ∃ j : Nat, j ≤ D.length ∧ i = .int .i64 j ∧ n = .int .i64 (cnt3 (D.take j) cv cx cy : Nat) ∧ Hid (Grow w8 ws)) (fun _ i _ => D.length - (intOf i).toNat)
          case atStart => exact ⟨0, by omega, rfl, rfl, Lib.hid (Grow.refl _)⟩
          case round =>
            obtain ⟨j, hj, rfl, rfl, hh⟩ := hrel
            by_cases hjt : j < D.length
            · have hji : (j : Int) < D.length := by omega
              obtain ⟨db, ma, mc, rfl, hdb, e0, e1, e2, e3, e4⟩ := cout_at HDO.out hjt
              have HTK := Lib.hid (cnt3_take hjt cv cx cy)
              have hcn := cnt3_le (D.take j) cv cx cy
              have hcn2 : cnt3 (D.take j) cv cx cy ≤ 10000 := by rw [List.length_take] at hcn; omega
              have f0 := (below_cell hh.out hdb).trans e0
              have f1 := (below_cell hh.out hdb).trans e1
              have f2 := (below_cell hh.out hdb).trans e2
              have f3 := (below_cell hh.out hdb).trans e3
              generalize D[j] = d at *
              obtain ⟨dv, dx, dy, dl⟩ := d
              dsimp only at *
              have hcb2 := (hh.out.block cb (lt_of_block HCB8.out)).trans HCB8.out
              have hcbl : cb < wr.heap.size := lt_of_block hcb2
              have c0 : wr.cell? ⟨cb, 0, none⟩ = some (.int .i64 (cv : Nat)) := cell_of_block (off := 0) hcb2
              have c1 : wr.cell? ⟨cb, 1, none⟩ = some (.int .i64 (cx : Nat)) := cell_of_block (off := 1) hcb2
              have c2 : wr.cell? ⟨cb, 2, none⟩ = some (.int .i64 (cy : Nat)) := cell_of_block (off := 2) hcb2
              have HGB := Lib.hid (hh.out.trans (grow_one wr (.cells #[.int .i64 (dv : Nat), .int .i64 (dx : Nat), .int .i64 (dy : Nat), .slice ma dl.length mc] 59)))
              clear e0 e1 e2 e3 e4 hcn hh hcb2
              generalize cnt3 (D.take j) cv cx cy = n at *
              by_cases x0 : dv = cv
              · have y0 : (((dv : Nat) : Int) == (cv : Nat)) = true := by simp; omega
                by_cases x1 : dx = cx
                · have y1 : (((dx : Nat) : Int) == (cx : Nat)) = true := by simp; omega
                  by_cases x2 : dy = cy
                  · have y2 : (((dy : Nat) : Int) == (cy : Nat)) = true := by simp; omega
                    rw [if_pos ⟨x0, x1, x2⟩] at HTK
                    clear x0 x1 x2
                    go_wp2_with fail
                    go_roundw
                    case rel => exact ⟨j + 1, by omega, by go_num, by rw [HTK.out]; go_num, HGB⟩
                    case measure => simp [intOf]; omega
                  · have y2 : (((dy : Nat) : Int) == (cy : Nat)) = false := by simp; omega
                    rw [if_neg (fun h => x2 h.2.2), Nat.add_zero] at HTK
                    clear x0 x1 x2
                    go_wp2_with fail
                    go_roundw
                    case rel => exact ⟨j + 1, by omega, by go_num, by rw [HTK.out]; rfl, HGB⟩
                    case measure => simp [intOf]; omega
                · have y1 : (((dx : Nat) : Int) == (cx : Nat)) = false := by simp; omega
                  rw [if_neg (fun h => x1 h.2.1), Nat.add_zero] at HTK
                  clear x0 x1
                  go_wp2_with fail
                  go_roundw
                  case rel => exact ⟨j + 1, by omega, by go_num, by rw [HTK.out]; rfl, HGB⟩
                  case measure => simp [intOf]; omega
              · have y0 : (((dv : Nat) : Int) == (cv : Nat)) = false := by simp; omega
                rw [if_neg (fun h => x0 h.1), Nat.add_zero] at HTK
                clear x0
                go_wp2_with fail
                go_roundw
                case rel => exact ⟨j + 1, by omega, by go_num, by rw [HTK.out]; rfl, HGB⟩
                case measure => simp [intOf]; omega
            · have hji : ¬ (j : Int) < D.length := by omega
              have hte : D.take j = D := List.take_of_length_le (by omega)
              obtain ⟨hcn, hxy, hx, hy, hlx, hly⟩ := HMK.out
              rw [hte, hcn]
              have HG9 := Lib.hid (HG8.out.trans hh.out)
              have hcb2 := (hh.out.block cb (lt_of_block HCB8.out)).trans HCB8.out
              have hcbl : cb < wr.heap.size := lt_of_block hcb2
              have c0 : wr.cell? ⟨cb, 0, none⟩ = some (.int .i64 (cv : Nat)) := cell_of_block (off := 0) hcb2
              have c1 : wr.cell? ⟨cb, 1, none⟩ = some (.int .i64 (cx : Nat)) := cell_of_block (off := 1) hcb2
              have c2 : wr.cell? ⟨cb, 2, none⟩ = some (.int .i64 (cy : Nat)) := cell_of_block (off := 2) hcb2
              have HB9 := Lib.hid (H7.out.go HG9.out)
              have b2 := HB9.out.c2
              obtain ⟨rb2, off, hra, hrb2, u0, -⟩ := HB9.out.gram.rules cx hx
              obtain ⟨rb3, off3, hra3, hrb3, v0, -⟩ := HB9.out.gram.rules cy hy
              rw [HRA.out] at hra hra3 b2
              subst hra
              injection hra3 with hra3
              injection hra3 with q1 q2
              subst q1 q2
              rw [hlx] at u0
              rw [hly] at v0
              have hxi : (cx : Int) < g.rules.length := by omega
              have hyi : (cy : Int) < g.rules.length := by omega
              have hge : decide ((cy : Int) ≤ (cx : Int)) = false := decide_eq_false (by omega)
              have hge2 : decide (cy ≤ cx) = false := decide_eq_false (by omega)
              have hne1 : (((cv : Nat) : Int) != (cv : Nat)) = false := by simp
              have hrw2 : rb2 < wr.heap.size := block_of_cell u0
              clear hte hcn hxy hx hy hlx hly hh hcb2
              go_wp2_with fail
              go_quiet (fail)
              go_wp2_with fail
              go_roundw
              case rel => exact ⟨k + 1, by omega, by go_num, Lib.hid (HG9.out.trans ⟨rfl, rfl, rfl, Nat.le_refl _, fun _ _ => rfl⟩)⟩
              case measure => simp [intOf]; omega
        · have hki : ¬ (k : Int) < C.length := by omega
          have hnv8 := HG.out.nv.2
          have HB8 := Lib.hid (H7.out.go hh.out)
          have HG8 := Lib.hid hh.out
          have b1 := HB8.out.c1
          clear hh
          go_wp2_with fail
          clear b1
          go_loopw [115] (fun i ws => ∃ v : Nat, v ≤ g.vars.length ∧ i = .int .i64 v ∧ Hid (Grow w7 ws)) (fun i _ => g.vars.length - (intOf i).toNat)
          case atStart => exact ⟨0, by omega, rfl, HG8⟩
          case round =>
            obtain ⟨v, hv, rfl, hh⟩ := hrel
            have b1 := (H7.out.go hh.out).c1
            by_cases hvt : v < g.vars.length
            · have hvi : (v : Int) < g.vars.length := by omega
              have HC1 := Lib.hid (clear_bx (HTA7.out.go hh.out) HST1.out.1 hvt)
              have HMV := Lib.hid (HMC.out v hvt)
              generalize clearT (T1.getD v []) = x1 at *
              clear b1
              cases x1
              · go_wp2_with fail
                refine HC1.out.mono ?_
                rintro e w9 ⟨rfl, hg9⟩
                have HG9 := Lib.hid (hh.out.trans hg9)
                clear hh hg9 HC1
                go_wp2_with fail
                go_roundw
                case rel => exact ⟨v + 1, by omega, by go_num, HG9⟩
                case measure => simp [intOf]; omega
              · have hcl := HMV.out rfl
                go_wp2_with fail
                refine HC1.out.mono ?_
                rintro e w9 ⟨rfl, hg9⟩
                have HG9 := Lib.hid (hh.out.trans hg9)
                clear hh hg9 HC1
                have HC2 := Lib.hid (clear_bx (HTB7.out.go HG9.out) HST2.out.1 hvt)
                rw [hcl] at HC2
                clear hcl
                go_wp2_with fail
                refine HC2.out.mono ?_
                rintro e w10 ⟨rfl, hg10⟩
                have HG10 := Lib.hid (HG9.out.trans hg10)
                clear hg10 HC2 HG9
                go_wp2_with fail
                go_roundw
                case rel => exact ⟨v + 1, by omega, by go_num, HG10⟩
                case measure => simp [intOf]; omega
            · have hvi : ¬ (v : Int) < g.vars.length := by omega
              have HHH := hh
              clear hh
              go_wp2_with fail
              exact HP.out _ (H7.out.go HHH.out).grow
    exact AllReadyH.nil
  exact AllReadyH.nil

set_option maxRecDepth 100000 in
theorem lifted (os : Os) (started : os.Started) (H : Type) (enc : TypeId × Value → H) :
    ReturnsInHanded {} Try.checked os 5 .any (Rows.tableMoreSpec.pre6 enc Try.prog Try.f5 Rows.tableMoreRow.domain false) (Rows.tableMoreSpec.post enc Try.prog Try.f5 false true false false) := by
  refine returnsInHanded_of_change (C := Try.checked) own started (by kernel_rfl) Try.func5
    (ChangeSpec.witness6 (enc := enc) (C := Try.checked) false ⟨#[], #[.agg #[.slice none 0 0, .slice none 0 0, .slice none 0 0]], []⟩ 8 (by kernel_rfl) (by kernel_rfl) (by kernel_rfl) (by kernel_rfl)) ?_
  intro W base args ds gs before hval0 hW hcnd _
  have hval : ∀ (j : Nat) t v, Try.f5.params[j]? = some t → args[j]? = some v → Value.okWide Try.prog W .any base t v := hval0
  have hW' := hW
  obtain ⟨p, q, hA0, hV, rfl, hfz, hnd⟩ := hW
  have hA : DataW.TrodAll enc Try.prog W 0 (fun _ => true) true Try.f5.params.toList args.toList ds p := hA0
  rw [Try.params5] at hA hval
  obtain ⟨v0, vs0, d0, ds0, p0, q0, hargs, rfl, rfl, h0, r0⟩ := trodAll_cons hA
  obtain ⟨rfl, rfl, rfl⟩ := trodAll_nil r0
  obtain rfl : args = #[v0] := by cases args; simp_all
  obtain ⟨rfl, rfl⟩ := trodVars_none hV
  have k0 := h0
  have lt0 : ∀ x ∈ p0, x.block < W.heap.size := by obtain ⟨m, hm⟩ := k0; exact DataW.trod_lt m _ _ _ hm
  obtain ⟨g, rfl, hgr, hwf⟩ := gram_of_trod_wf (hval 0 25 v0 rfl rfl) h0
  clear hA0 hval0
  refine (walk hgr hwf).mono fun e W' ⟨he, bel⟩ => ?_
  subst he
  exact ⟨_, rfl, _, _, _, [], _, [], hW', trodAll_mk1 (shut_bool Try.underlying4 _), (trodAll_cons_mk (Below.trod laidOut (by kernel_rfl) (of_decide_eq_true (by kernel_rfl)) k0 bel lt0) trodAll_mk0), rfl, bel.frame _, fun h => by cases h⟩

theorem over : Rows.tableMoreRow.holds Try.pinned (OpenSpec.ofChange Rows.tableMoreSpec) :=
  OpenClaim.holds_of_wide 5 Try.f5 rfl rfl rfl rfl rfl rfl rfl ⟨rfl, rfl, rfl, rfl, rfl⟩ rfl rfl rfl rfl rfl (by kernel_rfl) Try.func5 (by kernel_rfl)
    (of_decide_eq_true (by kernel_rfl)) (by unfold Func.isWrapper; first | (rw [if_pos (by decide +kernel)]; kernel_rfl) | (rw [if_neg (by decide +kernel)]; exact ⟨rfl, rfl⟩))
    (fun os started H enc _ => lifted os started H enc)

theorem proved : Rows.TableMoreSaid := over
#print axioms proved

end Go.Proofs.Ytmiiolgbjicocaa.tableMore
