/-
  TableClashes answers true, and leaves its argument as it was, for every grammar and number. No conditions.
-/
import Derived.Test.YtmiiolgbjicocaaRefF
import Derived.Test.YtmiiolgbjicocaaOpen
import Derived.Test.YtmiiolgbjicocaaRows
import Derived.Deep.RegionHeld3
import Derived.WalkKit
import Derived.ProofKit
import Derived.OpenShut
import Derived.ShutString
import Derived.ChangeOld
import Derived.Below
namespace Go.Proofs.Ytmiiolgbjicocaa.tableClashes
open Go.ChangeShapes Go.WideShapes Go.ChangeAt Go.RowKit
set_option linter.unusedVariables false
attribute [local go_sem] run_store_float
theorem own : ownKnob Try.prog.godebug = none := by kernel_rfl
theorem laidOut : laidOutB Try.prog = true := by kernel_rfl

theorem and_one (k : Int) : bits .and .i64 k 1 = 0 ∨ bits .and .i64 k 1 = 1 := by
  have e : bits .and .i64 k 1 = IntKind.i64.wrap ((BitVec.ofInt 64 k &&& BitVec.ofInt 64 1).toNat : Int) := rfl
  rw [e, BitVec.toNat_and, show (BitVec.ofInt 64 1).toNat = 1 from rfl, Nat.and_one_is_mod, IntKind.wrap_i64]
  omega
theorem clR_len {Kn : Int} {g : GramD} {F Fo : List Wds} (h : ∀ k, OkW (lookL Kn g F Fo k)) {n : Nat} : ∀ c ∈ clR Kn g F Fo n, c.2.2.2.length ≤ 2 := fun c hc => by
  unfold clR at hc
  obtain ⟨a, -, hc⟩ := List.mem_flatMap.1 hc
  unfold clRB at hc
  obtain ⟨b, -, hc⟩ := List.mem_filterMap.1 hc
  unfold clRof at hc
  split at hc
  · obtain ⟨l, hl, rfl⟩ := Option.map_eq_some_iff.1 hc
    exact (h a l (mem_meetL.1 (List.mem_of_mem_head? hl)).1).1
  · cases hc
theorem sameC {Kn n : Int} {g : GramD} {F Fo : List Wds} {sb : Nat} {T : List (List TRow)} {wr : World} (hg : GoodW g) (hK : 1 ≤ Kn ∧ Kn ≤ 2) (hS : GoodSets Kn n g sb F Fo wr) (hT : TOf (addsOf Kn g F Fo g.rules.length) T) (hl : T.length = g.vars.length) : clV g.rules T g.vars.length = clR Kn g F Fo g.rules.length :=
  clash_same (fun k => (hS.ok hg hK.2 k).2) hT hl (fun i hi => ⟨(hg.left i hi).1, by rw [leftN_at hi]; exact (hg.good _ (List.mem_of_getElem? (rulesOf_at hi))).1⟩) hg.up
theorem quiet_to {f : FuncId} {args : Array Value} {w : World} {n : Nat} {v : Value} (h : Calls Try.prog f args (w.drewN n) fun e w' => e = .returned v ∧ ∃ m, w' = (w.drewN n).drewN m) : Calls Try.prog f args (w.drewN n) fun e w'' => e = .returned v ∧ ∃ m, w'' = w.drewN m :=
  h.mono fun _ _ ⟨he, m, hm⟩ => ⟨he, n + m, by rw [hm, World.drewN_drewN]⟩
def TruePost (w : World) (e : Ending) (w' : World) : Prop := e = .returned (.bool true) ∧ Below w.heap.size w w'
set_option maxRecDepth 100000 in
set_option maxHeartbeats 4000000 in
theorem walk {w : World} {g : GramD} (hg : GramAt w w.heap.size g) (hwf : WfG g) (k : Int) : Calls Try.prog 4 #[GV g, .int .i64 k] w (TruePost w) := by
  have HS := Lib.hid (box_start hg)
  have HP : Hid (∀ W, Grow w W → TruePost w (.returned (.bool true)) W) := Lib.hid (fun W h => ⟨rfl, h⟩)
  have HWF := Lib.hid hwf
  clear hg hwf
  generalize TruePost w = Po at *
  unfold GV
  go_enter Try.func4, Try.ntmps4
  go_wp2_with fail
  refine (alive_any _).mono ?_
  rintro e w1 ⟨rfl, hb⟩
  have H1 := Lib.hid (HS.out.go hb)
  have g0 := H1.out.c0
  have g1 := H1.out.c1
  have g2 := H1.out.c2
  clear hb HS
  go_wp2_with fail
  refine (whole_bx H1.out).mono ?_
  rintro e w2 ⟨rfl | ⟨rfl, hok⟩, hb⟩
  · have H2 := Lib.hid (H1.out.go hb)
    clear hb g0 g1 g2 H1
    go_wp2_with fail
    exact HP.out _ H2.out.grow
  have H2 := Lib.hid (H1.out.go hb)
  have HG := Lib.hid (goodW_of hok HWF.out)
  clear hb hok g0 g1 g2 H1 HWF
  have g0 := H2.out.c0
  have g1 := H2.out.c1
  have g2 := H2.out.c2
  obtain ⟨Kn, hKd⟩ : ∃ Kn, Kn = 1 + bits .and .i64 k 1 := ⟨_, rfl⟩
  have hK : 1 ≤ Kn ∧ Kn ≤ 2 := by have := and_one k; omega
  have hKw : IntKind.i64.wrap (1 + bits .and .i64 k 1) = Kn := by rw [← hKd, IntKind.wrap_i64]; omega
  have HKK := Lib.hid hK
  have hab : 0 ≤ bits .and .i64 k 1 ∧ bits .and .i64 k 1 ≤ 1 := by have := and_one k; omega
  obtain ⟨hab1, hab2⟩ := hab
  go_wp2_with fail
  rw [← hKd]
  clear hKd hKw hab1 hab2 hK
  refine (rof_bx H2.out HG.out HKK.out (by decide)).mono ?_
  rintro e w3 ⟨hb, ⟨xb, cx, yb, cy, F, Fo, rfl, a1, a2, a3, a4, a5, a6⟩ | ⟨⟨xb, cx, yb, cy, rfl⟩, hov⟩⟩
  rotate_left
  · have H3 := Lib.hid (H2.out.go hb)
    have HOV := Lib.hid hov
    clear hb hov g0 g1 g2 H2
    have HA3 := Lib.hid (H3.out.go (grow_one w3 (.cells #[.int .i64 Kn, .slice (some ⟨xb, 0, none⟩) g.vars.length cx, .slice (some ⟨yb, 0, none⟩) g.vars.length cy] 31)))
    have g0 := HA3.out.c0
    have g1 := HA3.out.c1
    have g2 := HA3.out.c2
    unfold SV
    go_wp2_with fail
    refine (first_bx (n := 120) HA3.out HG.out HKK.out (by decide)).mono ?_
    rintro e w4 ⟨hb, ⟨sb, F', Fo', rfl, hs⟩ | ⟨rfl, -⟩⟩
    · exact absurd HOV.out (goodSets_not hs)
    · have HGR := Lib.hid (HA3.out.grow.trans hb)
      clear hb g0 g1 g2 H3 HA3
      go_wp2_with fail
      exact HP.out _ HGR.out
  have H3 := Lib.hid (H2.out.go hb)
  have HRS := Lib.hid (show RSets Kn 120 g xb yb F Fo w3 from ⟨a1, a2, a3, a4, a5, a6⟩)
  clear hb a1 a2 a3 a4 a5 a6 g0 g1 g2 H2
  have HA3 := Lib.hid (H3.out.go (grow_one w3 (.cells #[.int .i64 Kn, .slice (some ⟨xb, 0, none⟩) g.vars.length cx, .slice (some ⟨yb, 0, none⟩) g.vars.length cy] 31)))
  have g0 := HA3.out.c0
  have g1 := HA3.out.c1
  have g2 := HA3.out.c2
  unfold SV
  go_wp2_with fail
  refine (first_bx (n := 120) HA3.out HG.out HKK.out (by decide)).mono ?_
  rintro e w4 ⟨hb, ⟨sb, F', Fo', rfl, hs⟩ | ⟨rfl, hov⟩⟩
  rotate_left
  · exact absurd hov HRS.out.not
  obtain ⟨hF, hFo⟩ := sets_same HRS.out hs
  rw [hF, hFo] at hs
  clear hF hFo
  have H4 := Lib.hid (HA3.out.go hb)
  have HRS4 := Lib.hid ((HRS.out.go (grow_one w3 _)).go hb)
  have HS4 := Lib.hid hs
  have hXB := (hb.block _ (lt_of_block (heap_alloc_this w3 _))).trans (heap_alloc_this w3 _)
  clear hb hs g0 g1 g2 H3 HRS HA3
  generalize w3.heap.size = X at *
  have HXB := Lib.hid hXB
  clear hXB
  go_wp2_with fail
  have HD := Lib.hid (H4.out.go (grow_drew w4))
  have HRD := Lib.hid (HRS4.out.go (grow_drew w4))
  have HSD := Lib.hid (HS4.out.go (grow_drew w4))
  have HXD : Hid (w4.drew.heap[X]? = some _) := Lib.hid HXB.out
  have q0 := HD.out.c0
  have q1 := HD.out.c1
  have q2 := HD.out.c2
  have q3 : w4.drew.cell? ⟨X, 0, none⟩ = some (.int .i64 Kn) := cell_of_block (off := 0) HXD.out
  have q4 : w4.drew.cell? ⟨X, 1, none⟩ = some (.slice (some ⟨xb, 0, none⟩) g.vars.length cx) := cell_of_block (off := 1) HXD.out
  have q5 : w4.drew.cell? ⟨X, 2, none⟩ = some (.slice (some ⟨yb, 0, none⟩) g.vars.length cy) := cell_of_block (off := 2) HXD.out
  refine wp_region_held_drew (S := fun w' => w'.cell? ⟨w.heap.size, 0, none⟩ = some (.slice g.ta g.terms.length g.tc) ∧ w'.cell? ⟨w.heap.size, 1, none⟩ = some (.slice g.va g.vars.length g.vc) ∧ w'.cell? ⟨w.heap.size, 2, none⟩ = some (.slice g.ra g.rules.length g.rc) ∧ w'.cell? ⟨X, 0, none⟩ = some (.int .i64 Kn) ∧ w'.cell? ⟨X, 1, none⟩ = some (.slice (some ⟨xb, 0, none⟩) g.vars.length cx) ∧ w'.cell? ⟨X, 2, none⟩ = some (.slice (some ⟨yb, 0, none⟩) g.vars.length cy)) (by kernel_rfl) (⟨q0, q1, q2, q3, q4, q5⟩) (fun hHeld => ?_)
  refine wpAnyH_take (i := 0) (v := ?_) rfl (by kernel_rfl) (by kernel_rfl) (by kernel_rfl) (fun _ _ _ h => h) (Or.inl ⟨by rfl, ?_⟩) (by with_reducible assumption) ?_
  rotate_left
  · intro w hSw
    try dsimp only at hSw
    go_simp
    try with_reducible rfl
  try simp only [Act.put, List.setIfInBounds_toArray]
  refine wpAnyH_take (i := 1) (v := ?_) rfl (by kernel_rfl) (by kernel_rfl) (by kernel_rfl) (fun _ _ _ h => h) (Or.inl ⟨by rfl, ?_⟩) (by with_reducible assumption) ?_
  rotate_left
  · intro w hSw
    try dsimp only at hSw
    go_simp
    try with_reducible rfl
  try simp only [Act.put]
  refine wpAnyH_take (i := 4) (v := ?_) rfl (by kernel_rfl) (by kernel_rfl) (by kernel_rfl) (fun _ _ _ h => h) (Or.inl ⟨by rfl, ?_⟩) (by with_reducible assumption) ?_
  rotate_left
  · intro w hSw
    try dsimp only at hSw
    go_simp
    try with_reducible rfl
  try simp only [Act.put]
  refine wpAnyH_take (i := 5) (v := ?_) rfl (by kernel_rfl) (by kernel_rfl) (by kernel_rfl) (fun _ _ _ h => h) (Or.inl ⟨by rfl, ?_⟩) (by with_reducible assumption) ?_
  rotate_left
  · intro w hSw
    try dsimp only at hSw
    go_simp
    try with_reducible rfl
  try simp only [Act.put]
  refine wpAnyH_ready (rs := [2]) (by kernel_rfl) (by simp) ?_
  refine AllReadyH.cons (o := _) rfl (fun K hK => ?_) ?_
  · go_simp
    go_at_call 11
    refine (table_bx HD.out HG.out HKK.out HSD.out).mono ?_
    rintro e w5 ⟨tb, T, rfl, hb, ht, hst, hto, htl⟩
    have HB5 := Lib.hid (HD.out.go hb)
    have HT5 := Lib.hid ht
    have HST := Lib.hid hst
    have HSC := Lib.hid (sameC HG.out HKK.out HSD.out hto htl)
    have HR5 := Lib.hid (HRD.out.go hb)
    have HX5 := Lib.hid ((hb.block X (lt_of_block HXD.out)).trans HXD.out)
    have r0 := HB5.out.c0
    have r1 := HB5.out.c1
    have r2 := HB5.out.c2
    have r3 : w5.cell? ⟨X, 0, none⟩ = some (.int .i64 Kn) := cell_of_block (off := 0) HX5.out
    have r4 : w5.cell? ⟨X, 1, none⟩ = some (.slice (some ⟨xb, 0, none⟩) g.vars.length cx) := cell_of_block (off := 1) HX5.out
    have r5 : w5.cell? ⟨X, 2, none⟩ = some (.slice (some ⟨yb, 0, none⟩) g.vars.length cy) := cell_of_block (off := 2) HX5.out
    clear hb ht hst hto htl
    refine hK.out _ _ (⟨r0, r1, r2, r3, r4, r5⟩) (fun hHeld => ?_)
    clear hK K
    try simp only [Act.put, List.setIfInBounds_toArray, List.set_cons_zero, List.set_cons_succ]
    refine wpAnyH_ready (rs := [3]) (by kernel_rfl) (by simp) ?_
    refine AllReadyH.cons (o := _) rfl (fun K hK => ?_) ?_
    · go_simp
      go_at_call 19
      refine (clashes_bx HB5.out HG.out HT5.out HST.out).mono ?_
      rintro e w6 ⟨cv, rfl, hco, hg6⟩
      rw [HSC.out] at hco
      obtain ⟨ca, cc, rfl⟩ := cout_form hco
      have HCO := Lib.hid hco
      have HB6 := Lib.hid (HB5.out.go hg6)
      have HR6 := Lib.hid (HR5.out.go hg6)
      have HX6 := Lib.hid ((hg6.block X (lt_of_block HX5.out)).trans HX5.out)
      have t0 := HB6.out.c0
      have t1 := HB6.out.c1
      have t2 := HB6.out.c2
      have t3 : w6.cell? ⟨X, 0, none⟩ = some (.int .i64 Kn) := cell_of_block (off := 0) HX6.out
      have t4 : w6.cell? ⟨X, 1, none⟩ = some (.slice (some ⟨xb, 0, none⟩) g.vars.length cx) := cell_of_block (off := 1) HX6.out
      have t5 : w6.cell? ⟨X, 2, none⟩ = some (.slice (some ⟨yb, 0, none⟩) g.vars.length cy) := cell_of_block (off := 2) HX6.out
      clear hco hg6 HT5 HST HSC HR5 HX5
      refine hK.out _ _ (⟨t0, t1, t2, t3, t4, t5⟩) (fun hHeld => ?_)
      clear hK K
      try simp only [Act.put, List.setIfInBounds_toArray, List.set_cons_zero, List.set_cons_succ]
      refine wpAnyH_ready (rs := [6]) (by kernel_rfl) (by simp) ?_
      refine AllReadyH.cons (o := _) rfl (fun K hK => ?_) ?_
      · go_simp
        go_at_call 20
        refine (rclash_bx (cx := cx) (cy := cy) HB6.out HG.out HKK.out HR6.out).mono ?_
        rintro e w7 ⟨dv, rfl, hdo, hg7⟩
        obtain ⟨da, dc, rfl⟩ := coutR_form hdo
        have HCR := Lib.hid hdo
        have HCOB := Lib.hid (HCO.out.grow hg7)
        clear HCO
        have HCO := HCOB
        clear HCOB
        have HB7 := Lib.hid (HB6.out.go hg7)
        have HX7 := Lib.hid ((hg7.block X (lt_of_block HX6.out)).trans HX6.out)
        have HCW := Lib.hid (clR_len (fun k => (HSD.out.ok HG.out HKK.out.2 k).1) (n := g.rules.length))
        have HCN := Lib.hid (show (clR Kn g F Fo g.rules.length).length ≤ 10000 from by have h1 := clR_ml Kn g F Fo g.rules.length; have h2 : g.rules.length * g.rules.length ≤ 24 * 24 := Nat.mul_le_mul HG.out.nr HG.out.nr; omega)
        have p0 := HB7.out.c0
        have p1 := HB7.out.c1
        have p2 := HB7.out.c2
        have p3 : w7.cell? ⟨X, 0, none⟩ = some (.int .i64 Kn) := cell_of_block (off := 0) HX7.out
        have p4 : w7.cell? ⟨X, 1, none⟩ = some (.slice (some ⟨xb, 0, none⟩) g.vars.length cx) := cell_of_block (off := 1) HX7.out
        have p5 : w7.cell? ⟨X, 2, none⟩ = some (.slice (some ⟨yb, 0, none⟩) g.vars.length cy) := cell_of_block (off := 2) HX7.out
        clear hdo hg7 HR6 HX6
        refine hK.out _ _ (⟨p0, p1, p2, p3, p4, p5⟩) (fun hHeld => ?_)
        clear hK K
        try simp only [Act.put, List.setIfInBounds_toArray, List.set_cons_zero, List.set_cons_succ]
        refine wpAnyH_take (i := 7) (v := ?_) rfl (by kernel_rfl) (by kernel_rfl) (by kernel_rfl) (fun _ _ _ h => h) (Or.inl ⟨by rfl, ?_⟩) (by with_reducible assumption) ?_
        rotate_left
        · intro w hSw
          try dsimp only at hSw
          go_simp
          try with_reducible rfl
        try simp only [Act.put, List.setIfInBounds_toArray]
        refine wpAnyH_take (i := 8) (v := ?_) rfl (by kernel_rfl) (by kernel_rfl) (by kernel_rfl) (fun _ _ _ h => h) (Or.inl ⟨by rfl, ?_⟩) (by with_reducible assumption) ?_
        rotate_left
        · intro w hSw
          try dsimp only at hSw
          go_simp
          try with_reducible rfl
        try simp only [Act.put]
        refine wpAnyH_done (by kernel_rfl) ?_ _
        go_wp2_with fail
        have H7 := Lib.hid HB7.out
        clear r0 r1 r2 r3 r4 r5 t0 t1 t2 t3 t4 t5 p0 p1 p2 p3 p4 p5 q0 q1 q2 q3 q4 q5 hHeld H4 HB5 HB6 HB7 HD HRD HSD HXD HS4 HRS4 HXB
        generalize clR Kn g F Fo g.rules.length = C at *
        have hclL := HCN.out
        go_wp2_with fail
        go_loopw [56] (fun i wr => ∃ k : Nat, k ≤ C.length ∧ i = .int .i64 k ∧ Hid (Grow w7 wr)) (fun i _ => C.length - (intOf i).toNat)
        case atStart => exact ⟨0, by omega, rfl, Lib.hid (Grow.refl _)⟩
        case round =>
          obtain ⟨k, hk, rfl, hh⟩ := hrel
          by_cases hkt : k < C.length
          · have hki : (k : Int) < C.length := by omega
            obtain ⟨rb, la, lc, rfl, hrb, e0, e1, e2, e3, e4⟩ := cout_at HCO.out hkt
            obtain ⟨rd, ma, mc, rfl, hrd, f0, f1, f2, f3, f4⟩ := coutR_at HCR.out hkt
            have d0 := (below_cell hh.out hrb).trans e0
            have d1 := (below_cell hh.out hrb).trans e1
            have d2 := (below_cell hh.out hrb).trans e2
            have d3 := (below_cell hh.out hrb).trans e3
            have HLA := Lib.hid (e4.go hh.out)
            have hcl := HCW.out C[k] (List.getElem_mem hkt)
            have HGA := Lib.hid (fun o => hh.out.trans (grow_one wr o))
            have HFA := Lib.hid (fun o => And.intro ((below_cell (HGA.out o) hrd).trans f0) (And.intro ((below_cell (HGA.out o) hrd).trans f1) (And.intro ((below_cell (HGA.out o) hrd).trans f2) (And.intro ((below_cell (HGA.out o) hrd).trans f3) (f4.go (HGA.out o))))))
            generalize C[k] = c at *
            obtain ⟨cv, cp, cq, cl⟩ := c
            dsimp only at *
            have HCB := Lib.hid (heap_alloc_this wr (.cells #[.int .i64 (cv : Nat), .int .i64 (cp : Nat), .int .i64 (cq : Nat), .slice la cl.length lc] 59))
            have HGB := Lib.hid (HGA.out (.cells #[.int .i64 (cv : Nat), .int .i64 (cp : Nat), .int .i64 (cq : Nat), .slice la cl.length lc] 59))
            obtain ⟨v0, v1, v2, v3, v4⟩ := HFA.out (.cells #[.int .i64 (cv : Nat), .int .i64 (cp : Nat), .int .i64 (cq : Nat), .slice la cl.length lc] 59)
            have HLB := Lib.hid (HLA.out.go (grow_one wr (.cells #[.int .i64 (cv : Nat), .int .i64 (cp : Nat), .int .i64 (cq : Nat), .slice la cl.length lc] 59)))
            have HLC := Lib.hid v4
            have y0 : (((cv : Nat) : Int) != (cv : Nat)) = false := by simp
            have y1 : (((cp : Nat) : Int) != (cp : Nat)) = false := by simp
            have y2 : (((cq : Nat) : Int) != (cq : Nat)) = false := by simp
            clear e0 e1 e2 e3 e4 f0 f1 f2 f3 f4 hh HFA HGA HLA v4
            go_wp2_with fail
            generalize wr.alloc (.cells #[.int .i64 (cv : Nat), .int .i64 (cp : Nat), .int .i64 (cq : Nat), .slice la cl.length lc] 59) = wa at *
            generalize wr.heap.size = cb at *
            clear d0 d1 d2 d3
            have c0 : wa.cell? ⟨cb, 0, none⟩ = some (.int .i64 (cv : Nat)) := cell_of_block (off := 0) HCB.out
            have c1 : wa.cell? ⟨cb, 1, none⟩ = some (.int .i64 (cp : Nat)) := cell_of_block (off := 1) HCB.out
            have c2 : wa.cell? ⟨cb, 2, none⟩ = some (.int .i64 (cq : Nat)) := cell_of_block (off := 2) HCB.out
            have c3 : wa.cell? ⟨cb, 3, none⟩ = some (.slice la cl.length lc) := cell_of_block (off := 3) HCB.out
            have HSM := fun m => Lib.hid (same_any (B := wa.heap.size) (ca := lc) (cb := mc) (w := wa.drewN m) (show Ints _ _ la cl from HLB.out) (show Ints _ _ ma cl from HLC.out) (by omega) (by omega))
            rw [show decide (cl = cl) = true by simp] at HSM
            go_quiet ((go_at_call 15; exact quiet_to (HSM _).out))
            go_wp2_with fail
            go_roundw
            case rel => exact ⟨k + 1, by omega, by go_num, Lib.hid (HGB.out.trans ⟨rfl, rfl, rfl, Nat.le_refl _, fun _ _ => rfl⟩)⟩
            case measure => simp [intOf]; omega
          · have hki : ¬ (k : Int) < C.length := by omega
            have HG8 := Lib.hid (H7.out.go hh.out)
            clear hh
            go_wp2_with fail
            exact HP.out _ HG8.out.grow
      exact AllReadyH.nil
    exact AllReadyH.nil
  exact AllReadyH.nil

set_option maxRecDepth 100000 in
theorem lifted (os : Os) (started : os.Started) (H : Type) (enc : TypeId × Value → H) :
    ReturnsInHanded {} Try.checked os 4 .any (Rows.tableClashesSpec.pre6 enc Try.prog Try.f4 Rows.tableClashesRow.domain false) (Rows.tableClashesSpec.post enc Try.prog Try.f4 false true false false) := by
  refine returnsInHanded_of_change (C := Try.checked) own started (by kernel_rfl) Try.func4
    (ChangeSpec.witness6 (enc := enc) (C := Try.checked) false ⟨#[], #[.agg #[.slice none 0 0, .slice none 0 0, .slice none 0 0], .int .i64 0], []⟩ 8 (by kernel_rfl) (by kernel_rfl) (by kernel_rfl) (by kernel_rfl)) ?_
  intro W base args ds gs before hval0 hW hcnd _
  have hval : ∀ (j : Nat) t v, Try.f4.params[j]? = some t → args[j]? = some v → Value.okWide Try.prog W .any base t v := hval0
  have hW' := hW
  obtain ⟨p, q, hA0, hV, rfl, hfz, hnd⟩ := hW
  have hA : DataW.TrodAll enc Try.prog W 0 (fun _ => true) true Try.f4.params.toList args.toList ds p := hA0
  rw [Try.params4] at hA hval
  obtain ⟨v0, vs0, d0, ds0, p0, q0, hargs, rfl, rfl, h0, r0⟩ := trodAll_cons hA
  obtain ⟨v1, vs1, d1, ds1, p1, q1, rfl, rfl, rfl, h1, r1⟩ := trodAll_cons r0
  obtain ⟨rfl, rfl, rfl⟩ := trodAll_nil r1
  obtain rfl : args = #[v0, v1] := by cases args; simp_all
  obtain ⟨rfl, rfl⟩ := trodVars_none hV
  have k0 := h0
  have lt0 : ∀ x ∈ p0, x.block < W.heap.size := by obtain ⟨m, hm⟩ := k0; exact DataW.trod_lt m _ _ _ hm
  obtain ⟨g, rfl, hgr, hwf⟩ := gram_of_trod_wf (hval 0 25 v0 rfl rfl) h0
  obtain ⟨a1, rfl, rfl, rfl, w1⟩ := open_int Try.underlying3 (hval 1 3 v1 rfl rfl) h1
  clear hA0 hval0
  refine (walk hgr hwf a1).mono fun e W' ⟨he, bel⟩ => ?_
  subst he
  exact ⟨_, rfl, _, _, _, [], _, [], hW', trodAll_mk1 (shut_bool Try.underlying4 _), (trodAll_cons_mk (Below.trod laidOut (by kernel_rfl) (of_decide_eq_true (by kernel_rfl)) k0 bel lt0) (trodAll_cons_mk (shut_int Try.underlying3 w1) trodAll_mk0)), rfl, bel.frame _, fun h => by cases h⟩

theorem over : Rows.tableClashesRow.holds Try.pinned (OpenSpec.ofChange Rows.tableClashesSpec) :=
  OpenClaim.holds_of_wide 4 Try.f4 rfl rfl rfl rfl rfl rfl rfl ⟨rfl, rfl, rfl, rfl, rfl⟩ rfl rfl rfl rfl rfl (by kernel_rfl) Try.func4 (by kernel_rfl)
    (of_decide_eq_true (by kernel_rfl)) (by unfold Func.isWrapper; first | (rw [if_pos (by decide +kernel)]; kernel_rfl) | (rw [if_neg (by decide +kernel)]; exact ⟨rfl, rfl⟩))
    (fun os started H enc _ => lifted os started H enc)

theorem proved : Rows.TableClashesSaid := over
#print axioms proved

end Go.Proofs.Ytmiiolgbjicocaa.tableClashes
