/-
  TableTells answers true, and leaves its arguments as they were, for every grammar, number, list and variable. No conditions.
-/
import Derived.Test.YtmiiolgbjicocaaRefF
import Derived.Test.YtmiiolgbjicocaaOutW
import Derived.Test.YtmiiolgbjicocaaOpen
import Derived.Test.YtmiiolgbjicocaaRows
import Derived.Deep.RegionHeld3
import Derived.WalkKit
import Derived.ProofKit
import Derived.OpenShut
import Derived.ShutString
import Derived.ChangeOld
import Derived.Below
namespace Go.Proofs.Ytmiiolgbjicocaa.tableTells
open Go.ChangeShapes Go.WideShapes Go.ChangeAt Go.RowKit
set_option linter.unusedVariables false
attribute [local go_sem] run_store_float
theorem own : ownKnob Try.prog.godebug = none := by kernel_rfl
theorem laidOut : laidOutB Try.prog = true := by kernel_rfl

theorem and_one (k : Int) : bits .and .i64 k 1 = 0 ∨ bits .and .i64 k 1 = 1 := by
  have e : bits .and .i64 k 1 = IntKind.i64.wrap ((BitVec.ofInt 64 k &&& BitVec.ofInt 64 1).toNat : Int) := rfl
  rw [e, BitVec.toNat_and, show (BitVec.ofInt 64 1).toNat = 1 from rfl, Nat.and_one_is_mod, IntKind.wrap_i64]
  omega
theorem same_yes {a b : Option Addr} {ca cb : Nat} {xs : List Int} {w : World} (ha : Lst w a xs) (hb : Lst w b xs) (hl : xs.length ≤ 10000) : Calls Try.prog 15 #[.slice a xs.length ca, .slice b xs.length cb] w fun e w' => e = .returned (.bool true) ∧ Grow w w' :=
  (same_any (B := w.heap.size) (show Ints _ _ a xs from ha) (show Ints _ _ b xs from hb) (by omega) (by omega)).mono fun e w' h => by
    obtain ⟨rfl, n, rfl⟩ := h
    exact ⟨by rw [show decide (xs = xs) = true by simp], rfl, rfl, rfl, Nat.le_refl _, fun _ _ => rfl⟩
theorem ahead_cut {K : Int} {C : Nat → List Int → Prop} {f : List Int} {T : List Int → Prop} {w : List Int} (h : aheadP K C f T w) : cutL w K = w := by
  obtain ⟨p, t, -, -, rfl⟩ := aheadP_prod.1 h
  unfold cutL
  rw [List.take_take, Nat.min_self]
theorem look_cut {K : Int} {g : GramD} {F Fo : List Wds} {k : Nat} {w : List Int} (h : w ∈ lookL K g F Fo k) : cutL w K = w := by
  by_cases hk : k < g.rules.length
  · rw [lookL_at hk] at h
    exact ahead_cut (mem_ahead.1 h)
  · unfold lookL at h
    rw [List.getElem?_eq_none (by omega)] at h
    cases h
section
variable {K n : Int} {g : GramD} {F Fo : List Wds} {sb : Nat} {T : List (List TRow)} {wr : World}
/-- What is asked of a variable's rows. -/
structure Told (K : Int) (g : GramD) (F Fo : List Wds) (p : Nat) (x : List TRow) : Prop where
  looks : looksR K g F Fo p g.rules.length = x.map Prod.fst
  rules : ∀ i (h : i < x.length), rulesK K g F Fo p g.rules.length x[i].1 = x[i].2
  finds : ∀ i (h : i < x.length), findT x (cutL x[i].1 K) = x[i].2
  clear : clearT x = x.all (fun r => decide (r.2.length = 1))
  find : ∀ look, findT x look = rulesK K g F Fo p g.rules.length look
  small : ∀ i (h : i < x.length), x[i].1.length ≤ 2 ∧ x[i].2.length ≤ 24
theorem told_of (hg : GoodW g) (hK : 1 ≤ K ∧ K ≤ 2) (hS : GoodSets K n g sb F Fo wr) (hT : TOf (addsOf K g F Fo g.rules.length) T) (hl : T.length = g.vars.length) {p : Nat} (hp : p < g.vars.length) : Told K g F Fo p (T.getD p []) := by
  have hs := fun k => (hS.ok hg hK.2 k).2
  have hr : RowsOf (addsOf K g F Fo g.rules.length) p (T.getD p []) := hT p _ (by rw [List.getD_eq_getElem?_getD, List.getElem?_eq_getElem (by omega)]; rfl)
  have hlk := rows_looks hs hr
  have hm : ∀ i (h : i < (T.getD p []).length), ∃ k, (T.getD p [])[i].1 ∈ lookL K g F Fo k := fun i hi => by
    have h1 : (T.getD p [])[i].1 ∈ (T.getD p []).map Prod.fst := List.mem_map.2 ⟨_, List.getElem_mem hi, rfl⟩
    rw [hlk, mem_looksR] at h1
    obtain ⟨k, _, _, h2⟩ := h1
    exact ⟨k, h2⟩
  refine ⟨hlk.symm, fun i hi => (rows_snd hs hr hi).1.symm, fun i hi => ?_, one_clear hs hr, fun look => findT_rows hs hr look, fun i hi => ?_⟩
  · obtain ⟨k, hk⟩ := hm i hi
    rw [look_cut hk, findT_rows hs hr]
    exact (rows_snd hs hr hi).1.symm
  · obtain ⟨k, hk⟩ := hm i hi
    refine ⟨((hS.ok hg hK.2 k).1 _ hk).1, ?_⟩
    rw [(rows_snd hs hr hi).1]
    exact Nat.le_trans (rulesK_len _ _ _ _ _ _ _) hg.nr
theorem all_clear (hg : GoodW g) (hK : 1 ≤ K ∧ K ≤ 2) (hS : GoodSets K n g sb F Fo wr) (hT : TOf (addsOf K g F Fo g.rules.length) T) (hl : T.length = g.vars.length) : clV g.rules T g.vars.length = [] ↔ (List.range g.vars.length).all (fun v => clearT (T.getD v [])) = true := by
  rw [clash_clear (fun k => (hS.ok hg hK.2 k).2) hT hl (fun i hi => (hg.left i hi).1), List.all_eq_true]
  exact ⟨fun h v hv => h v (by simpa using hv), fun h v hv => h v (by simpa using hv)⟩
end
theorem range_all (f : Nat → Bool) (p : Nat) : (List.range (p + 1)).all f = ((List.range p).all f && f p) := by
  rw [List.range_succ, List.all_append]
  simp
theorem take_all {α : Type} (f : α → Bool) {l : List α} {j : Nat} (h : j < l.length) : (l.take (j + 1)).all f = ((l.take j).all f && f l[j]) := by
  rw [List.take_succ_eq_append_getElem h, List.all_append]
  simp
def TruePost (w : World) (e : Ending) (w' : World) : Prop := e = .returned (.bool true) ∧ Below w.heap.size w w'
set_option maxRecDepth 100000 in
set_option maxHeartbeats 8000000 in
theorem walk {w : World} {g : GramD} (hg : GramAt w w.heap.size g) (hwf : WfG g) (k : Int) {a : Option Addr} {cap : Nat} {ask : List Int} (hi : Ints w w.heap.size a ask) (hl : ask.length ≤ cap) (hm : cap ≤ maxLen) (hn : a = none → cap = 0) (v : Int) : Calls Try.prog 3 #[GV g, .int .i64 k, .slice a ask.length cap, .int .i64 v] w (TruePost w) := by
  have HS := Lib.hid (box_start hg)
  have HP : Hid (∀ W, Grow w W → TruePost w (.returned (.bool true)) W) := Lib.hid (fun W h => ⟨rfl, h⟩)
  have HWF := Lib.hid hwf
  have HAK := Lib.hid (show Lst w a ask from hi)
  have HNN := Lib.hid hn
  have hcap9 : cap ≤ 9223372036854775807 := by simpa [maxLen] using hm
  clear hg hwf hi hm hn
  generalize TruePost w = Po at *
  unfold GV
  go_enter Try.func3, Try.ntmps3
  go_wp2_with fail
  refine (alive_any _).mono ?_
  rintro e w1 ⟨rfl, hb⟩
  have H1 := Lib.hid (HS.out.go hb)
  have g0 := H1.out.c0
  have g1 := H1.out.c1
  have g2 := H1.out.c2
  clear hb HS
  go_wp2_with fail
  refine (whole_bx H1.out).mono ?_
  rintro e w2 ⟨rfl | ⟨rfl, hok⟩, hb⟩
  · have H2 := Lib.hid (H1.out.go hb)
    clear hb g0 g1 g2 H1
    go_wp2_with fail
    exact HP.out _ H2.out.grow
  have H2 := Lib.hid (H1.out.go hb)
  have HG := Lib.hid (goodW_of hok HWF.out)
  clear hb hok g0 g1 g2 H1 HWF
  by_cases hlong : (20 : Int) < ask.length
  · go_wp2_with fail
    exact HP.out _ H2.out.grow
  have hl20 : ask.length ≤ 20 := by omega
  have g0 := H2.out.c0
  have g1 := H2.out.c1
  have g2 := H2.out.c2
  obtain ⟨Kn, hKd⟩ : ∃ Kn, Kn = 1 + bits .and .i64 k 1 := ⟨_, rfl⟩
  have hK : 1 ≤ Kn ∧ Kn ≤ 2 := by have := and_one k; omega
  have hKw : IntKind.i64.wrap (1 + bits .and .i64 k 1) = Kn := by rw [← hKd, IntKind.wrap_i64]; omega
  have HKK := Lib.hid hK
  have hab : 0 ≤ bits .and .i64 k 1 ∧ bits .and .i64 k 1 ≤ 1 := by have := and_one k; omega
  obtain ⟨hab1, hab2⟩ := hab
  go_wp2_with fail
  rw [← hKd]
  clear hKd hKw hab1 hab2 hK
  refine (rof_bx H2.out HG.out HKK.out (by decide)).mono ?_
  rintro e w3 ⟨hb, ⟨xb, cx, yb, cy, F, Fo, rfl, a1, a2, a3, a4, a5, a6⟩ | ⟨⟨xb, cx, yb, cy, rfl⟩, hov⟩⟩
  rotate_left
  · have H3 := Lib.hid (H2.out.go hb)
    have HOV := Lib.hid hov
    clear hb hov g0 g1 g2 H2
    have HA3 := Lib.hid (H3.out.go (grow_one w3 (.cells #[.int .i64 Kn, .slice (some ⟨xb, 0, none⟩) g.vars.length cx, .slice (some ⟨yb, 0, none⟩) g.vars.length cy] 31)))
    have g0 := HA3.out.c0
    have g1 := HA3.out.c1
    have g2 := HA3.out.c2
    unfold SV
    go_wp2_with fail
    refine (first_bx (n := 120) HA3.out HG.out HKK.out (by decide)).mono ?_
    rintro e w4 ⟨hb, ⟨sb, F', Fo', rfl, hs⟩ | ⟨rfl, -⟩⟩
    · exact absurd HOV.out (goodSets_not hs)
    · have HGR := Lib.hid (HA3.out.grow.trans hb)
      clear hb g0 g1 g2 H3 HA3
      go_wp2_with fail
      exact HP.out _ HGR.out
  have H3 := Lib.hid (H2.out.go hb)
  have HRS := Lib.hid (show RSets Kn 120 g xb yb F Fo w3 from ⟨a1, a2, a3, a4, a5, a6⟩)
  clear hb a1 a2 a3 a4 a5 a6 g0 g1 g2 H2
  have HA3 := Lib.hid (H3.out.go (grow_one w3 (.cells #[.int .i64 Kn, .slice (some ⟨xb, 0, none⟩) g.vars.length cx, .slice (some ⟨yb, 0, none⟩) g.vars.length cy] 31)))
  have g0 := HA3.out.c0
  have g1 := HA3.out.c1
  have g2 := HA3.out.c2
  unfold SV
  go_wp2_with fail
  refine (first_bx (n := 120) HA3.out HG.out HKK.out (by decide)).mono ?_
  rintro e w4 ⟨hb, ⟨sb, F', Fo', rfl, hs⟩ | ⟨rfl, hov⟩⟩
  rotate_left
  · exact absurd hov HRS.out.not
  obtain ⟨hF, hFo⟩ := sets_same HRS.out hs
  rw [hF, hFo] at hs
  clear hF hFo
  have H4 := Lib.hid (HA3.out.go hb)
  have HRS4 := Lib.hid ((HRS.out.go (grow_one w3 _)).go hb)
  have HS4 := Lib.hid hs
  have hXB := (hb.block _ (lt_of_block (heap_alloc_this w3 _))).trans (heap_alloc_this w3 _)
  clear hb hs g0 g1 g2 H3 HRS HA3
  generalize w3.heap.size = X at *
  have HXB := Lib.hid hXB
  clear hXB
  have g0 := H4.out.c0
  have g1 := H4.out.c1
  have g2 := H4.out.c2
  go_wp2_with fail
  refine (table_bx H4.out HG.out HKK.out HS4.out).mono ?_
  rintro e w5 ⟨tb, T, rfl, hb, ht, hst, hto, htl⟩
  have H5 := Lib.hid (H4.out.go hb)
  have HT5 := Lib.hid ht
  have HST := Lib.hid hst
  have HR5 := Lib.hid (HRS4.out.go hb)
  have HX5 := Lib.hid ((hb.block X (lt_of_block HXB.out)).trans HXB.out)
  have HTV := Lib.hid (fun (p : Nat) (hp : p < g.vars.length) => told_of HG.out HKK.out HS4.out hto htl hp)
  have HAC := Lib.hid (all_clear HG.out HKK.out HS4.out hto htl)
  have HXC : Hid (∀ W, Grow w5 W → W.cell? ⟨X, 0, none⟩ = some (.int .i64 Kn) ∧ W.cell? ⟨X, 1, none⟩ = some (.slice (some ⟨xb, 0, none⟩) g.vars.length cx) ∧ W.cell? ⟨X, 2, none⟩ = some (.slice (some ⟨yb, 0, none⟩) g.vars.length cy)) := Lib.hid (fun W hW => by
    have h := (hW.block X (lt_of_block HX5.out)).trans HX5.out
    exact ⟨cell_of_block (off := 0) h, cell_of_block (off := 1) h, cell_of_block (off := 2) h⟩)
  have HNV := Lib.hid HG.out.nv
  clear hb ht hst hto htl g0 g1 g2 H4 HS4 HRS4 HXB
  have g1 := H5.out.c1
  have hnv := HNV.out.2
  go_wp2_with fail
  clear g1
  go_loopw [14, 62] (fun c i wr => ∃ p : Nat, p ≤ g.vars.length ∧ i = .int .i64 p ∧ c = .bool ((List.range p).all (fun v => clearT (T.getD v []))) ∧ Hid (Grow w5 wr)) (fun _ i _ => g.vars.length - (intOf i).toNat)
  case atStart => exact ⟨0, by omega, rfl, rfl, Lib.hid (Grow.refl _)⟩
  case round =>
    obtain ⟨p, hp, rfl, rfl, hh⟩ := hrel
    by_cases hpt : p < g.vars.length
    · have hpi : (p : Int) < g.vars.length := by omega
      have HB6 := Lib.hid (H5.out.go hh.out)
      have HR6 := Lib.hid (HR5.out.go hh.out)
      have HT6 := Lib.hid (HT5.out.go hh.out)
      have HGW := Lib.hid hh.out
      have HTO := Lib.hid (HTV.out p hpt)
      have HLK := Lib.hid (rlooks_bx (cx := cx) (cy := cy) HB6.out HG.out HKK.out HR6.out (v := p))
      rw [HTO.out.looks] at HLK
      have HRW := Lib.hid (fun W (hg : Grow wr W) => rows_bx (HT6.out.go hg) HST.out hpt)
      have HCL := Lib.hid (fun W (hg : Grow wr W) => clear_bx (HT6.out.go hg) HST.out hpt)
      have HFB := Lib.hid (fun W (hg : Grow wr W) a c xs (hx : Lst W a xs) (h1 : a = none → c = 0) (h2 : xs.length ≤ c) (h3 : xs.length ≤ 100000) => find_bx (HT6.out.go hg) HST.out hpt hx h1 h2 h3)
      have HRB := Lib.hid (fun W (hg : Grow wr W) ua uc u (hu : Lst W ua u) (hul : u.length ≤ 10000) => rrules_bx (cx := cx) (cy := cy) (v := p) (uc := uc) (HB6.out.go hg) HG.out HKK.out (HR6.out.go hg) hu hul)
      have HSX := Lib.hid ((HST.out p (T.getD p []) (by obtain ⟨x, h1, h2, h3⟩ := tabG_at HT6.out hpt; rw [h2]; exact h1)).2.1)
      have HBX := Lib.hid (fun W (hg : Grow wr W) => And.intro (HB6.out.go hg).c0 (And.intro (HB6.out.go hg).c1 (And.intro (HB6.out.go hg).c2 (HXC.out W (HGW.out.trans hg)))))
      have HRA := Lib.hid (range_all (fun v => clearT (T.getD v [])) p)
      obtain ⟨b0, b1, b2, b3, b4, b5⟩ := HBX.out wr (Grow.refl wr)
      clear hh
      generalize T.getD p [] = x at *
      generalize (List.range p).all (fun v => clearT (T.getD v [])) = c0 at *
      have hsx := HSX.out
      have hsx2 : (((x.length : Nat) : Int) != x.length) = false := by simp
      go_wp2_with fail
      refine HLK.out.mono ?_
      rintro e w6 ⟨lv, rfl, hml, hg6⟩
      obtain ⟨la, lc, rfl⟩ := hml.lit
      rw [List.length_map] at hml ⊢
      have HML := Lib.hid hml
      have HG6 := Lib.hid hg6
      clear hml hg6 HLK b0 b1 b2 b3 b4 b5
      go_wp2_with fail
      refine (HRW.out _ HG6.out).mono ?_
      rintro e w7 ⟨rv, rfl, hro, hg7⟩
      obtain ⟨ra, rc, rfl⟩ := rout_form hro
      have HRO := Lib.hid hro
      have HML7 : Hid (Made _ (.slice la x.length lc) (x.map Prod.fst) w7) := Lib.hid (HML.out.r.go hg7)
      have HG7 := Lib.hid (HG6.out.trans hg7)
      clear hro hg7 HML HG6 HRW
      go_wp2_with fail
      go_loopw [18, 79] (fun o i ws => ∃ j : Nat, j ≤ x.length ∧ i = .int .i64 j ∧ o = .bool ((x.take j).all (fun r => decide (r.2.length = 1))) ∧ Hid (Grow w7 ws)) (fun _ i _ => x.length - (intOf i).toNat)
      case atStart => exact ⟨0, by omega, rfl, rfl, Lib.hid (Grow.refl _)⟩
      case round =>
        obtain ⟨j, hj, rfl, rfl, hh⟩ := hrel
        by_cases hjt : j < x.length
        · have hji : (j : Int) < x.length := by omega
          have HTK : Hid ((x.take (j + 1)).all (fun r => decide (r.2.length = 1)) = ((x.take j).all (fun r => decide (r.2.length = 1)) && decide (x[j].2.length = 1))) := Lib.hid (take_all _ hjt)
          have HE1 := Lib.hid (HTO.out.rules j hjt)
          have HE2 := Lib.hid (HTO.out.finds j hjt)
          have hsm := HTO.out.small j hjt
          have hy1 : x[j].1.length ≤ 10000 := by omega
          have hy2 : x[j].2.length ≤ 10000 := by omega
          obtain ⟨rb, ma, mc, ua, uc, rfl, hrb, e1, e2, e3, e4⟩ := rout_at HRO.out hjt
          obtain ⟨lb, na, nc, rfl, d1, d2, d3⟩ := HML7.out.at (i := j) (by simp; omega)
          simp only [List.getElem_map] at d1 d2 d3
          have hlb := block_of_cell d1
          obtain ⟨_, _, z1, -, z2, -, -⟩ := e3.shape
          obtain ⟨_, _, z3, z4, -, -, z5⟩ := d2.shape
          injection z1 with z1 z7 z8
          injection z3 with z3 z9 z6
          subst z1 z3 z6
          clear z7 z8 z9
          have f1 := (below_cell hh.out hrb).trans e1
          have f2 := (below_cell hh.out hrb).trans e2
          have HMW := Lib.hid (show Lst w7 ma x[j].1 from z2)
          have HUW := Lib.hid e4
          have HLW := Lib.hid d3
          have HN : Hid ((na = none → nc = 0) ∧ x[j].1.length ≤ nc) := Lib.hid ⟨fun h => (z4 h).1, z5⟩
          have HD1 := Lib.hid d1
          have HRU := Lib.hid (fun W hg (hu : Lst W na x[j].1) (h : x[j].1.length ≤ 10000) => HRB.out W hg na nc x[j].1 hu h)
          have HFI := Lib.hid (fun W hg (hx : Lst W na x[j].1) (h1 : na = none → nc = 0) (h2 : x[j].1.length ≤ nc) (h3 : x[j].1.length ≤ 10000) => HFB.out W hg na nc x[j].1 hx h1 h2 (by omega))
          rw [HE2.out] at HFI
          clear d1 d2 d3 e1 e2 e3 e4 z2 z4 z5 hsm HE2
          generalize x[j] = y at *
          have HCB := Lib.hid (heap_alloc_this wr (.cells #[.slice ma y.1.length mc, .slice ua y.2.length uc] 44))
          have HGB := Lib.hid (hh.out.trans (grow_one wr (.cells #[.slice ma y.1.length mc, .slice ua y.2.length uc] 44)))
          clear hh
          go_wp2_with fail
          generalize wr.alloc (.cells #[.slice ma y.1.length mc, .slice ua y.2.length uc] 44) = wa at *
          generalize wr.heap.size = cb at *
          clear f1 f2
          have HGA := Lib.hid (HG7.out.trans HGB.out)
          have HMA := Lib.hid (HMW.out.go HGB.out)
          have HUA := Lib.hid (HUW.out.go HGB.out)
          have HLB := Lib.hid (HLW.out.go HGB.out)
          have HLC := Lib.hid (fun W (hg : Grow wa W) => (below_cell (HGB.out.trans hg) hlb).trans HD1.out)
          have HS23 := Lib.hid (fun W (hg : Grow wa W) => (show W.cell? ⟨w.heap.size, 0, none⟩ = some (.slice g.ta g.terms.length g.tc) ∧ W.cell? ⟨w.heap.size, 1, none⟩ = some (.slice g.va g.vars.length g.vc) ∧ W.cell? ⟨w.heap.size, 2, none⟩ = some (.slice g.ra g.rules.length g.rc) ∧ W.cell? ⟨X, 0, none⟩ = some (.int .i64 Kn) ∧ W.cell? ⟨X, 1, none⟩ = some (.slice (some ⟨xb, 0, none⟩) g.vars.length cx) ∧ W.cell? ⟨X, 2, none⟩ = some (.slice (some ⟨yb, 0, none⟩) g.vars.length cy) ∧ W.cell? ⟨lb, j, none⟩ = some (.slice na y.1.length nc) from ⟨(HBX.out W (HGA.out.trans hg)).1, (HBX.out W (HGA.out.trans hg)).2.1, (HBX.out W (HGA.out.trans hg)).2.2.1, (HBX.out W (HGA.out.trans hg)).2.2.2.1, (HBX.out W (HGA.out.trans hg)).2.2.2.2.1, (HBX.out W (HGA.out.trans hg)).2.2.2.2.2, HLC.out W hg⟩))
          have HS24 := Lib.hid (fun W (hg : Grow wa W) => (show W.cell? ⟨cb, 0, none⟩ = some (.slice ma y.1.length mc) ∧ W.cell? ⟨cb, 1, none⟩ = some (.slice ua y.2.length uc) ∧ W.cell? ⟨lb, j, none⟩ = some (.slice na y.1.length nc) from ⟨cell_of_block (off := 0) ((hg.block cb (lt_of_block HCB.out)).trans HCB.out), cell_of_block (off := 1) ((hg.block cb (lt_of_block HCB.out)).trans HCB.out), HLC.out W hg⟩))
          go_region_held3 (fun w' => w'.cell? ⟨w.heap.size, 0, none⟩ = some (.slice g.ta g.terms.length g.tc) ∧ w'.cell? ⟨w.heap.size, 1, none⟩ = some (.slice g.va g.vars.length g.vc) ∧ w'.cell? ⟨w.heap.size, 2, none⟩ = some (.slice g.ra g.rules.length g.rc) ∧ w'.cell? ⟨X, 0, none⟩ = some (.int .i64 Kn) ∧ w'.cell? ⟨X, 1, none⟩ = some (.slice (some ⟨xb, 0, none⟩) g.vars.length cx) ∧ w'.cell? ⟨X, 2, none⟩ = some (.slice (some ⟨yb, 0, none⟩) g.vars.length cy) ∧ w'.cell? ⟨lb, j, none⟩ = some (.slice na y.1.length nc))
            (first | with_reducible exact HS23.out _ HG8.out | with_reducible exact HS23.out _ (grow_drew wa))
            (first
              | (go_at_call 14
                 refine (HRU.out _ (HGA.out.trans (grow_drew wa)) (HLB.out.go (grow_drew wa)) hy1).mono ?_
                 rintro e w8 ⟨qv, rfl, hown, hb⟩
                 rw [HE1.out] at hown
                 obtain ⟨qa, qc, rfl, -, hqi, -, -⟩ := hown.shape
                 have HQ8 := Lib.hid (show Lst w8 qa y.2 from hqi)
                 have HG8 := Lib.hid (show Grow wa w8 from (grow_drew wa).trans hb)
                 clear hown hb hqi))
          go_wp2_with fail
          go_region_held3 (fun w' => w'.cell? ⟨cb, 0, none⟩ = some (.slice ma y.1.length mc) ∧ w'.cell? ⟨cb, 1, none⟩ = some (.slice ua y.2.length uc) ∧ w'.cell? ⟨lb, j, none⟩ = some (.slice na y.1.length nc))
            (first | with_reducible exact HS24.out _ HG12.out | with_reducible exact HS24.out _ HG11.out | with_reducible exact HS24.out _ HG10.out | with_reducible exact HS24.out _ HG9.out | with_reducible exact HS24.out _ (HG8.out.trans (grow_drew w8)))
            (first
              | (go_at_call 15
                 with_reducible refine Calls.mono (same_yes HZ.out HQ11.out hy2) ?_
                 rintro e w12 ⟨rfl, hb⟩
                 have HG12 := Lib.hid (HG11.out.trans hb)
                 clear hb)
              | (go_at_call 16
                 refine (HFI.out _ (HGA.out.trans HG10.out) (HLB.out.go HG10.out) HN.out.1 HN.out.2 hy1).mono ?_
                 rintro e w11 ⟨za, zc, rfl, hz, -, hb⟩
                 have HZ := Lib.hid hz
                 have HG11 := Lib.hid (HG10.out.trans hb)
                 have HQ11 := Lib.hid (HQ10.out.go hb)
                 clear hz hb)
              | (go_at_call 15
                 with_reducible refine Calls.mono (same_yes (HUA.out.go HG9.out) HQ9.out hy2) ?_
                 rintro e w10 ⟨rfl, hb⟩
                 have HG10 := Lib.hid (HG9.out.trans hb)
                 have HQ10 := Lib.hid (HQ9.out.go hb)
                 clear hb)
              | (go_at_call 15
                 with_reducible refine Calls.mono (same_yes (HMA.out.go (HG8.out.trans (grow_drew w8))) (HLB.out.go (HG8.out.trans (grow_drew w8))) hy1) ?_
                 rintro e w9 ⟨rfl, hb⟩
                 have HG9 := Lib.hid ((HG8.out.trans (grow_drew w8)).trans hb)
                 have HQ9 := Lib.hid ((HQ8.out.go (grow_drew w8)).go hb)
                 clear hb))
          have HGN := Lib.hid (HGB.out.trans HG12.out)
          clear HGA HG12 HG11 HG10 HG9 HG8 HZ HQ8 HQ9 HQ10 HQ11 HS23 HS24 HMA HUA HLB HLC
          generalize (x.take j).all (fun r => decide (r.2.length = 1)) = o1 at *
          by_cases h1 : y.2.length = 1
          · have h1i : (((y.2.length : Nat) : Int) == 1) = true := by simp; omega
            rw [decide_eq_true h1] at HTK
            clear h1
            cases o1
            all_goals
              go_wp2_with fail
              go_roundw
              case rel => exact ⟨j + 1, by omega, by go_num, by rw [HTK.out]; first | rfl | rw [h1i], HGN⟩
              case measure => simp [intOf]; omega
          · have h1i : (((y.2.length : Nat) : Int) == 1) = false := by simp; omega
            rw [decide_eq_false h1] at HTK
            clear h1
            cases o1
            all_goals
              go_wp2_with fail
              go_roundw
              case rel => exact ⟨j + 1, by omega, by go_num, by rw [HTK.out]; first | rfl | rw [h1i], HGN⟩
              case measure => simp [intOf]; omega
        · have hji : ¬ (j : Int) < x.length := by omega
          rw [show (x.take j).all (fun r => decide (r.2.length = 1)) = clearT x from by rw [List.take_of_length_le (by omega)]; exact HTO.out.clear.symm]
          have HG8 := Lib.hid (HG7.out.trans hh.out)
          clear hh
          have HC8 := Lib.hid (HCL.out _ HG8.out)
          generalize clearT x = d at *
          have hdd : (d != d) = false := by cases d <;> rfl
          go_wp2_with fail
          refine HC8.out.mono ?_
          rintro e w9 ⟨rfl, hg9⟩
          have HG9 := Lib.hid (HGW.out.trans (HG8.out.trans hg9))
          clear hg9 HC8
          cases c0
          · go_wp2_with fail
            go_roundw
            case rel => exact ⟨p + 1, by omega, by go_num, by rw [HRA.out]; rfl, HG9⟩
            case measure => simp [intOf]; omega
          · cases d
            all_goals
              go_wp2_with fail
              go_roundw
              case rel => exact ⟨p + 1, by omega, by go_num, by rw [HRA.out]; rfl, HG9⟩
              case measure => simp [intOf]; omega
    · obtain rfl : p = g.vars.length := by omega
      have hpi : ¬ (g.vars.length : Int) < g.vars.length := by omega
      have HGF := Lib.hid hh.out
      have H6 := Lib.hid (H5.out.go hh.out)
      have c1 := H6.out.c1
      have HTR := Lib.hid (tabG_rows (HT5.out.go hh.out) HNV.out.1)
      clear hh
      generalize (List.range g.vars.length).all (fun v => clearT (T.getD v [])) = c0 at *
      by_cases hv : v < 0 ∨ (g.vars.length : Int) ≤ v
      · obtain ⟨ob, oc, tc⟩ := HTR.out
        have HTC := Lib.hid (fun W (hg : Grow wr W) => (below_cell hg (block_of_cell tc)).trans tc)
        have HVV := Lib.hid hv
        clear tc
        have HO1 := Lib.hid (fun x => find_out (HTC.out _ (Grow.refl _)) hv x)
        rcases hv with hv | hv
        all_goals
          try have hv2 : ¬ v < 0 := by omega
          go_wp2_with fail
          refine (HO1.out _).mono ?_
          rintro e w10 ⟨rfl, hg10⟩
          have HG10 := Lib.hid hg10
          clear hg10
          go_wp2_with fail
          refine (rows_out (HTC.out _ HG10.out) HVV.out).mono ?_
          rintro e w11 ⟨rfl, hg11⟩
          have HG11 := Lib.hid (HG10.out.trans hg11)
          clear hg11
          go_wp2_with fail
          refine (clear_out (HTC.out _ HG11.out) HVV.out).mono ?_
          rintro e w12 ⟨rfl, hg12⟩
          have HGF := Lib.hid (HGF.out.trans (HG11.out.trans hg12))
          clear hg12
          go_wp2_with fail
          refine (clashes_bx (H5.out.go HGF.out) HG.out (HT5.out.go HGF.out) HST.out).mono ?_
          rintro e w20 ⟨cv, rfl, hco, hg20⟩
          obtain ⟨ca, cc, rfl⟩ := cout_form hco
          have HGE := Lib.hid (H5.out.go (HGF.out.trans hg20)).grow
          have k20 := tabG_K ((HT5.out.go HGF.out).go hg20)
          clear hco hg20
          generalize clV g.rules T g.vars.length = C at *
          cases c0
          · have hne : ((C.length : Nat) : Int) ≠ 0 := by
              intro h
              have h1 : C = [] := List.eq_nil_of_length_eq_zero (by omega)
              exact absurd (HAC.out.1 h1) (by decide)
            have hci : ((((C.length : Nat) : Int)) == 0) = false := by simpa using hne
            have hkk : (Kn == Kn) = true := by simp
            clear hne
            go_wp2_with fail
            exact HP.out _ HGE.out
          · obtain rfl : C = [] := HAC.out.2 rfl
            have hkk : (Kn == Kn) = true := by simp
            go_wp2_with fail
            exact HP.out _ HGE.out
      · have hv0 : ¬ v < 0 := by omega
        have hv1 : ¬ (g.vars.length : Int) ≤ v := by omega
        obtain ⟨vn, rfl⟩ : ∃ n : Nat, v = (n : Int) := ⟨v.toNat, by omega⟩
        have hvt : vn < g.vars.length := by omega
        have HTO := Lib.hid (HTV.out vn hvt)
        have HE4 := Lib.hid (HTO.out.find (cutL ask Kn))
        have HCU : Hid ((cutL ask Kn).length ≤ 10000) := Lib.hid (by unfold cutL; rw [List.length_take]; omega)
        have HRL : Hid ((rulesK Kn g F Fo vn g.rules.length (cutL ask Kn)).length ≤ 10000) := Lib.hid (by have := rulesK_len Kn g F Fo vn g.rules.length (cutL ask Kn); have := HG.out.nr; omega)
        have HT6 := Lib.hid (HT5.out.go HGF.out)
        have HR6 := Lib.hid (HR5.out.go HGF.out)
        have HS35 := Lib.hid (fun W' (hg : Grow wr W') => (show W'.cell? ⟨w.heap.size, 0, none⟩ = some (.slice g.ta g.terms.length g.tc) ∧ W'.cell? ⟨w.heap.size, 1, none⟩ = some (.slice g.va g.vars.length g.vc) ∧ W'.cell? ⟨w.heap.size, 2, none⟩ = some (.slice g.ra g.rules.length g.rc) ∧ W'.cell? ⟨X, 0, none⟩ = some (.int .i64 Kn) ∧ W'.cell? ⟨X, 1, none⟩ = some (.slice (some ⟨xb, 0, none⟩) g.vars.length cx) ∧ W'.cell? ⟨X, 2, none⟩ = some (.slice (some ⟨yb, 0, none⟩) g.vars.length cy) from ⟨(H6.out.go hg).c0, (H6.out.go hg).c1, (H6.out.go hg).c2, HXC.out W' (HGF.out.trans hg)⟩))
        go_wp2_with fail
        clear c1 hv hv0 hv1
        have HG6 := Lib.hid (H6.out.grow)
        generalize wr = W at *
        go_region_held3 (fun w' => w'.cell? ⟨w.heap.size, 0, none⟩ = some (.slice g.ta g.terms.length g.tc) ∧ w'.cell? ⟨w.heap.size, 1, none⟩ = some (.slice g.va g.vars.length g.vc) ∧ w'.cell? ⟨w.heap.size, 2, none⟩ = some (.slice g.ra g.rules.length g.rc) ∧ w'.cell? ⟨X, 0, none⟩ = some (.int .i64 Kn) ∧ w'.cell? ⟨X, 1, none⟩ = some (.slice (some ⟨xb, 0, none⟩) g.vars.length cx) ∧ w'.cell? ⟨X, 2, none⟩ = some (.slice (some ⟨yb, 0, none⟩) g.vars.length cy))
          (first | with_reducible exact HS35.out _ HG11.out | with_reducible exact HS35.out _ HG10.out | with_reducible exact HS35.out _ HG9.out | with_reducible exact HS35.out _ HG8.out | with_reducible exact HS35.out _ (grow_drew W))
          (first
            | (go_at_call 15
               refine (same_yes HZ10.out HQ10.out HRL.out).mono ?_
               rintro e w11 ⟨rfl, hb⟩
               have HG11 := Lib.hid (show Grow W w11 from HG10.out.trans hb)
               clear hb)
            | (go_at_call 14
               refine (rrules_bx (cx := cx) (cy := cy) (H6.out.go HG9.out) HG.out HKK.out (HR6.out.go HG9.out) HQ9.out HCU.out).mono ?_
               rintro e w10 ⟨qv2, rfl, hown, hb⟩
               obtain ⟨qa2, qc2, rfl, -, hqi, -, -⟩ := hown.shape
               have HQ10 := Lib.hid (show Lst w10 qa2 (rulesK Kn g F Fo vn g.rules.length (cutL ask Kn)) from hqi)
               have HZ10 := Lib.hid (HZ9.out.go hb)
               have HG10 := Lib.hid (show Grow W w10 from HG9.out.trans hb)
               clear hown hb hqi)
            | (go_at_call 18
               refine (rcut_any (B := w8.heap.size) (HAK.out.go (HG6.out.trans HG8.out)) (Nat.le_refl _) (by omega) Kn).mono ?_
               rintro e w9 ⟨qv, rfl, hown, hb⟩
               obtain ⟨qa, qc, rfl, -, hqi, -, -⟩ := hown.shape
               have HQ9 := Lib.hid (show Lst w9 qa (cutL ask Kn) from hqi)
               have HZ9 := Lib.hid (HZ.out.go hb)
               have HG9 := Lib.hid (show Grow W w9 from HG8.out.trans hb)
               clear hown hb hqi)
            | (go_at_call 16
               refine (find_bx (HT6.out.go (grow_drew W)) HST.out hvt (HAK.out.go (HG6.out.trans (grow_drew W))) HNN.out hl (by omega)).mono ?_
               rintro e w8 ⟨za, zc, rfl, hz, -, hb⟩
               rw [HE4.out] at hz ⊢
               have HZ := Lib.hid hz
               have HG8 := Lib.hid (show Grow W w8 from (grow_drew W).trans hb)
               clear hz hb))
        go_wp2_with fail
        have HGF := Lib.hid (HGF.out.trans HG11.out)
        clear HG11 HG10 HG9 HG8
        go_wp2_with fail
        refine (clashes_bx (H5.out.go HGF.out) HG.out (HT5.out.go HGF.out) HST.out).mono ?_
        rintro e w20 ⟨cv, rfl, hco, hg20⟩
        obtain ⟨ca, cc, rfl⟩ := cout_form hco
        have HGE := Lib.hid (H5.out.go (HGF.out.trans hg20)).grow
        have k20 := tabG_K ((HT5.out.go HGF.out).go hg20)
        clear hco hg20
        generalize clV g.rules T g.vars.length = C at *
        cases c0
        · have hne : ((C.length : Nat) : Int) ≠ 0 := by
            intro h
            have h1 : C = [] := List.eq_nil_of_length_eq_zero (by omega)
            exact absurd (HAC.out.1 h1) (by decide)
          have hci : ((((C.length : Nat) : Int)) == 0) = false := by simpa using hne
          have hkk : (Kn == Kn) = true := by simp
          clear hne
          go_wp2_with fail
          exact HP.out _ HGE.out
        · obtain rfl : C = [] := HAC.out.2 rfl
          have hkk : (Kn == Kn) = true := by simp
          go_wp2_with fail
          exact HP.out _ HGE.out

set_option maxRecDepth 100000 in
theorem lifted (os : Os) (started : os.Started) (H : Type) (enc : TypeId × Value → H) :
    ReturnsInHanded {} Try.checked os 3 .any (Rows.tableTellsSpec.pre6 enc Try.prog Try.f3 Rows.tableTellsRow.domain false) (Rows.tableTellsSpec.post enc Try.prog Try.f3 false true false false) := by
  refine returnsInHanded_of_change (C := Try.checked) own started (by kernel_rfl) Try.func3
    (ChangeSpec.witness6 (enc := enc) (C := Try.checked) false ⟨#[], #[.agg #[.slice none 0 0, .slice none 0 0, .slice none 0 0], .int .i64 0, .slice none 0 0, .int .i64 0], []⟩ 8 (by kernel_rfl) (by kernel_rfl) (by kernel_rfl) (by kernel_rfl)) ?_
  intro W base args ds gs before hval0 hW hcnd _
  have hval : ∀ (j : Nat) t v, Try.f3.params[j]? = some t → args[j]? = some v → Value.okWide Try.prog W .any base t v := hval0
  have hW' := hW
  obtain ⟨p, q, hA0, hV, rfl, hfz, hnd⟩ := hW
  have hA : DataW.TrodAll enc Try.prog W 0 (fun _ => true) true Try.f3.params.toList args.toList ds p := hA0
  rw [Try.params3] at hA hval
  obtain ⟨v0, vs0, d0, ds0, p0, q0, hargs, rfl, rfl, h0, r0⟩ := trodAll_cons hA
  obtain ⟨v1, vs1, d1, ds1, p1, q1, rfl, rfl, rfl, h1, r1⟩ := trodAll_cons r0
  obtain ⟨v2, vs2, d2, ds2, p2, q2, rfl, rfl, rfl, h2, r2⟩ := trodAll_cons r1
  obtain ⟨v3, vs3, d3, ds3, p3, q3, rfl, rfl, rfl, h3, r3⟩ := trodAll_cons r2
  obtain ⟨rfl, rfl, rfl⟩ := trodAll_nil r3
  obtain rfl : args = #[v0, v1, v2, v3] := by cases args; simp_all
  obtain ⟨rfl, rfl⟩ := trodVars_none hV
  have k0 := h0
  have lt0 : ∀ x ∈ p0, x.block < W.heap.size := by obtain ⟨m, hm⟩ := k0; exact DataW.trod_lt m _ _ _ hm
  obtain ⟨g, rfl, hgr, hwf⟩ := gram_of_trod_wf (hval 0 25 v0 rfl rfl) h0
  obtain ⟨a1, rfl, rfl, rfl, w1⟩ := open_int Try.underlying3 (hval 1 3 v1 rfl rfl) h1
  have k2 := h2
  have lt2 : ∀ x ∈ p2, x.block < W.heap.size := by obtain ⟨m, hm⟩ := k2; exact DataW.trod_lt m _ _ _ hm
  obtain ⟨a2, xs2, cap2, rfl, hi2, hl2, hm2, hn2⟩ := ints_of_val (hval 2 26 v2 rfl rfl) h2
  obtain ⟨a3, rfl, rfl, rfl, w3⟩ := open_int Try.underlying3 (hval 3 3 v3 rfl rfl) h3
  clear hA0 hval0
  refine (walk hgr hwf a1 hi2 hl2 hm2 hn2 a3).mono fun e W' ⟨he, bel⟩ => ?_
  subst he
  exact ⟨_, rfl, _, _, _, [], _, [], hW', trodAll_mk1 (shut_bool Try.underlying4 _), (trodAll_cons_mk (Below.trod laidOut (by kernel_rfl) (of_decide_eq_true (by kernel_rfl)) k0 bel lt0) (trodAll_cons_mk (shut_int Try.underlying3 w1) (trodAll_cons_mk (Below.trod laidOut (by kernel_rfl) (of_decide_eq_true (by kernel_rfl)) k2 bel lt2) (trodAll_cons_mk (shut_int Try.underlying3 w3) trodAll_mk0)))), rfl, bel.frame _, fun h => by cases h⟩

theorem over : Rows.tableTellsRow.holds Try.pinned (OpenSpec.ofChange Rows.tableTellsSpec) :=
  OpenClaim.holds_of_wide 3 Try.f3 rfl rfl rfl rfl rfl rfl rfl ⟨rfl, rfl, rfl, rfl, rfl⟩ rfl rfl rfl rfl rfl (by kernel_rfl) Try.func3 (by kernel_rfl)
    (of_decide_eq_true (by kernel_rfl)) (by unfold Func.isWrapper; first | (rw [if_pos (by decide +kernel)]; kernel_rfl) | (rw [if_neg (by decide +kernel)]; exact ⟨rfl, rfl⟩))
    (fun os started H enc _ => lifted os started H enc)

theorem proved : Rows.TableTellsSaid := over
#print axioms proved

end Go.Proofs.Ytmiiolgbjicocaa.tableTells
