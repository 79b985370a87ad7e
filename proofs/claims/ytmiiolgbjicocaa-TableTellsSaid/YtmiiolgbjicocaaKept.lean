/- Is a rule of use? The reference's look answers. -/
import Derived.Test.YtmiiolgbjicocaaUs
import Derived.Deep.RegionHeld3
namespace Go.Proofs.Ytmiiolgbjicocaa
open Go.RowKit
attribute [local go_sem] run_store_float
def BoolPost (w : World) (e : Ending) (w' : World) : Prop := ∃ x : Bool, e = .returned (.bool x) ∧ Below w.heap.size w w'
def KeptS (w : World) (g : GramD) (rb off : Nat) (left : Int) (xa : Option Addr) (xl xc wt : Nat) (ro : Nat) (w' : World) : Prop :=
  (w'.cell? ⟨w.heap.size, 0, none⟩ = some (.slice g.ta g.terms.length g.tc) ∧ w'.cell? ⟨w.heap.size, 1, none⟩ = some (.slice g.va g.vars.length g.vc) ∧ w'.cell? ⟨w.heap.size, 2, none⟩ = some (.slice (some ⟨rb, off, none⟩) g.rules.length g.rc)) ∧
  w'.cell? ⟨rb, ro, none⟩ = some (.int .i64 left) ∧ w'.cell? ⟨rb, ro + 1, none⟩ = some (.slice xa xl xc) ∧ w'.cell? ⟨rb, ro + 2, none⟩ = some (.float .f64 wt)
set_option maxRecDepth 100000 in
set_option maxHeartbeats 4000000 in
theorem kept_any {w : World} {B : Nat} {g : GramD} (hg : GramAt w B g) (hB : B ≤ w.heap.size) (hu : GoodU g) {k : Nat} (hk : k < g.rules.length) : Calls Try.prog 27 #[GV g, .int .i64 (k : Nat)] w (BoolPost w) := by
  have hki : (k : Int) < g.rules.length := by omega
  have hbx := heap_alloc_this w (.cells #[.slice g.ta g.terms.length g.tc, .slice g.va g.vars.length g.vc, .slice g.ra g.rules.length g.rc] 25)
  have hgw : Below w.heap.size w (w.alloc (.cells #[.slice g.ta g.terms.length g.tc, .slice g.va g.vars.length g.vc, .slice g.ra g.rules.length g.rc] 25)) := ((Kept.refl (fun _ => False) w).alloc _).below (Nat.le_refl _) (fun _ _ h => h)
  have hgr := hg.below (hgw.mono hB)
  have hsz : w.heap.size + 1 = (w.alloc (.cells #[.slice g.ta g.terms.length g.tc, .slice g.va g.vars.length g.vc, .slice g.ra g.rules.length g.rc] 25)).heap.size := by rw [World.size_alloc]
  obtain ⟨rb, off, hra, hrb, r0, r1, r2, hri, hrl2⟩ := hgr.rules k hk
  obtain ⟨⟨hl0, hl1⟩, hfr, hx8⟩ := hu.ok k hk
  have HC56 := Lib.hid (fun W (hb : Below (w.heap.size + 1) (w.alloc (.cells #[.slice g.ta g.terms.length g.tc, .slice g.va g.vars.length g.vc, .slice g.ra g.rules.length g.rc] 25)) W) => useful_any (w := W) (hgr.below (hb.mono (by omega))) (by have := hb.size; omega) hu)
  have HC58 := Lib.hid (fun W (hb : Below (w.heap.size + 1) (w.alloc (.cells #[.slice g.ta g.terms.length g.tc, .slice g.va g.vars.length g.vc, .slice g.ra g.rules.length g.rc] 25)) W) => prod_any (w := W) (hgr.below (hb.mono (by omega))) (by have := hb.size; omega) hu)
  have HRI := Lib.hid (fun W (hb : Below (w.heap.size + 1) (w.alloc (.cells #[.slice g.ta g.terms.length g.tc, .slice g.va g.vars.length g.vc, .slice g.ra g.rules.length g.rc] 25)) W) => ints_up2 (hri.below (hb.mono (show B ≤ w.heap.size + 1 by omega))) (show B ≤ W.heap.size by have := hb.size; omega))
  have HFR := Lib.hid hfr
  obtain ⟨l, hl⟩ := Int.eq_ofNat_of_zero_le hl0
  rw [hl] at r0 hl1
  have hln : l < g.vars.length := by omega
  have hlni : (l : Int) < g.vars.length := by omega
  have hS0 : KeptS w g rb off (l : Int) g.rules[k].ra g.rules[k].right.length g.rules[k].rc g.rules[k].wt (off + k * 3) (w.alloc (.cells #[.slice g.ta g.terms.length g.tc, .slice g.va g.vars.length g.vc, .slice g.ra g.rules.length g.rc] 25)) := by
    rw [hra] at hbx r0 r1 r2 ⊢
    exact ⟨⟨cell_of_block (off := 0) hbx, cell_of_block (off := 1) hbx, cell_of_block (off := 2) hbx⟩, r0, r1, r2⟩
  have HSK : Hid (∀ W, Below (w.heap.size + 1) (w.alloc (.cells #[.slice g.ta g.terms.length g.tc, .slice g.va g.vars.length g.vc, .slice g.ra g.rules.length g.rc] 25)) W → KeptS w g rb off (l : Int) g.rules[k].ra g.rules[k].right.length g.rules[k].rc g.rules[k].wt (off + k * 3) W) := Lib.hid (fun W hb => by
    have hrw : rb < w.heap.size + 1 := by omega
    obtain ⟨⟨a1, a2, a3⟩, a4, a5, a6⟩ := hS0
    exact ⟨⟨(below_cell hb (by omega)).trans a1, (below_cell hb (by omega)).trans a2, (below_cell hb (by omega)).trans a3⟩, (below_cell hb hrw).trans a4, (below_cell hb hrw).trans a5, (below_cell hb hrw).trans a6⟩)
  have HGD := Lib.hid (show Below (w.heap.size + 1) (w.alloc (.cells #[.slice g.ta g.terms.length g.tc, .slice g.va g.vars.length g.vc, .slice g.ra g.rules.length g.rc] 25)) (w.alloc (.cells #[.slice g.ta g.terms.length g.tc, .slice g.va g.vars.length g.vc, .slice g.ra g.rules.length g.rc] 25)).drew from ⟨rfl, rfl, rfl, Nat.le_refl _, fun _ _ => rfl⟩)
  have HP : Hid (∀ (x : Bool) W, Below (w.heap.size + 1) (w.alloc (.cells #[.slice g.ta g.terms.length g.tc, .slice g.va g.vars.length g.vc, .slice g.ra g.rules.length g.rc] 25)) W → BoolPost w (.returned (.bool x)) W) := Lib.hid (fun x W hb => ⟨x, rfl, hgw.trans (hb.mono (by omega))⟩)
  have HHS := Lib.hid hsz
  have HNV : Hid (l < g.vars.length) := Lib.hid hln
  have HPOS := Lib.hid hu.pos
  unfold GV at *
  clear hS0 hgw hbx hgr hsz r0 r1 r2 hri hrl2 hfr hl0 hg hu
  generalize g.ra = ra at *
  subst hra
  generalize g.rules[k] = r at *
  obtain ⟨left, xa, xs, xc, wt⟩ := r
  dsimp only at *
  generalize BoolPost w = BP at *
  go_enter Try.func27, Try.ntmps27
  go_wp2_with fail
  refine wp_region_held_drew (S := fun w' => (w'.cell? ⟨w.heap.size, 0, none⟩ = some (.slice g.ta g.terms.length g.tc) ∧ w'.cell? ⟨w.heap.size, 1, none⟩ = some (.slice g.va g.vars.length g.vc) ∧ w'.cell? ⟨w.heap.size, 2, none⟩ = some (.slice (some ⟨rb, off, none⟩) g.rules.length g.rc)) ∧ w'.cell? ⟨rb, off + k * 3, none⟩ = some (.int .i64 (l : Int)) ∧ w'.cell? ⟨rb, off + k * 3 + 1, none⟩ = some (.slice xa xs.length xc) ∧ w'.cell? ⟨rb, off + k * 3 + 2, none⟩ = some (.float .f64 wt)) (by kernel_rfl) (HSK.out _ HGD.out) (fun hHeld => ?_)
  refine wpAnyH_take (i := 0) (v := ?_) rfl (by kernel_rfl) (by kernel_rfl) (by kernel_rfl) (fun _ _ _ h => h) (Or.inl ⟨by rfl, ?_⟩) (by with_reducible assumption) ?_
  rotate_left
  · intro w hSw
    try dsimp only at hSw
    go_simp
    try with_reducible rfl
  try simp only [Act.put, List.setIfInBounds_toArray]
  refine wpAnyH_take (i := 2) (v := ?_) rfl (by kernel_rfl) (by kernel_rfl) (by kernel_rfl) (fun _ _ _ h => h) (Or.inl ⟨by rfl, ?_⟩) (by with_reducible assumption) ?_
  rotate_left
  · intro w hSw
    try dsimp only at hSw
    go_simp
    try with_reducible rfl
  try simp only [Act.put]
  refine wpAnyH_take (i := 3) (v := ?_) rfl (by kernel_rfl) (by kernel_rfl) (by kernel_rfl) (fun _ _ _ h => h) (Or.inl ⟨by rfl, ?_⟩) (by with_reducible assumption) ?_
  rotate_left
  · intro w hSw
    try dsimp only at hSw
    go_simp
    try with_reducible rfl
  try simp only [Act.put]
  refine wpAnyH_take (i := 4) (v := ?_) rfl (by kernel_rfl) (by kernel_rfl) (by kernel_rfl) (fun _ _ _ h => h) (Or.inl ⟨by rfl, ?_⟩) (by with_reducible assumption) ?_
  rotate_left
  · intro w hSw
    try dsimp only at hSw
    go_simp
    try with_reducible rfl
  try simp only [Act.put]
  refine wpAnyH_take (i := 5) (v := ?_) rfl (by kernel_rfl) (by kernel_rfl) (by kernel_rfl) (fun _ _ _ h => h) (Or.inl ⟨by rfl, ?_⟩) (by with_reducible assumption) ?_
  rotate_left
  · intro w hSw
    try dsimp only at hSw
    go_simp
    try with_reducible rfl
  try simp only [Act.put]
  refine wpAnyH_take (i := 6) (v := ?_) rfl (by kernel_rfl) (by kernel_rfl) (by kernel_rfl) (fun _ _ _ h => h) (Or.inl ⟨by rfl, ?_⟩) (by with_reducible assumption) ?_
  rotate_left
  · intro w hSw
    try dsimp only at hSw
    go_simp
    try with_reducible rfl
  try simp only [Act.put]
  refine wpAnyH_take (i := 7) (v := ?_) rfl (by kernel_rfl) (by kernel_rfl) (by kernel_rfl) (fun _ _ _ h => h) (Or.inl ⟨by rfl, ?_⟩) (by with_reducible assumption) ?_
  rotate_left
  · intro w hSw
    try dsimp only at hSw
    go_simp
    try with_reducible rfl
  try simp only [Act.put]
  refine wpAnyH_ready (rs := [1]) (by kernel_rfl) (by simp) ?_
  refine AllReadyH.cons (o := _) rfl (fun K hK => ?_) ?_
  · go_simp
    go_at_call 56
    refine (HC56.out _ HGD.out).mono ?_
    rintro e w1 ⟨v, rfl, hv, hb⟩
    have G1 := Lib.hid (HGD.out.trans (hb.mono (Nat.le_of_eq HHS.out)))
    obtain ⟨pb, pc, rfl, hpb, -⟩ := hv.lit HPOS.out
    obtain ⟨⟨y, hy⟩, -⟩ := hv.cell HNV.out
    have hS1 := HSK.out _ G1.out
    clear hv hb HC56
    refine hK.out _ _ (hS1) (fun hHeld => ?_)
    clear hK K
    try simp only [Act.put, List.setIfInBounds_toArray, List.set_cons_zero, List.set_cons_succ]
    refine wpAnyH_take (i := 8) (v := ?_) rfl (by kernel_rfl) (by kernel_rfl) (by kernel_rfl) (fun _ _ _ h => h) (Or.inl ⟨by rfl, ?_⟩) (by with_reducible assumption) ?_
    rotate_left
    · intro w hSw
      try dsimp only at hSw
      go_simp
      try with_reducible rfl
    try simp only [Act.put, List.setIfInBounds_toArray]
    refine wpAnyH_ready (rs := [9]) (by kernel_rfl) (by simp) ?_
    refine AllReadyH.cons (o := _) rfl (fun K hK => ?_) ?_
    · go_simp
      refine hK.out _ _ (hHeld) (fun hHeld => ?_)
      clear hK K
      try simp only [Act.put, List.setIfInBounds_toArray, List.set_cons_zero, List.set_cons_succ]
      cases y
      · refine wpAnyH_take (i := 10) (v := ?_) rfl (by kernel_rfl) (by kernel_rfl) (by kernel_rfl) (fun _ _ _ h => h) (Or.inl ⟨by rfl, ?_⟩) (by with_reducible assumption) ?_
        rotate_left
        · intro w hSw
          try dsimp only at hSw
          go_simp
          try with_reducible rfl
        try simp only [Act.put, List.setIfInBounds_toArray]
        refine wpAnyH_take (i := 11) (v := undef) rfl (by kernel_rfl) (by kernel_rfl) (by kernel_rfl) (fun _ _ _ h => h) (Or.inr ⟨by rfl, rfl⟩) (by with_reducible assumption) ?_
        try simp only [Act.put]
        refine wpAnyH_take (i := 12) (v := undef) rfl (by kernel_rfl) (by kernel_rfl) (by kernel_rfl) (fun _ _ _ h => h) (Or.inr ⟨by rfl, rfl⟩) (by with_reducible assumption) ?_
        try simp only [Act.put]
        refine wpAnyH_take (i := 13) (v := undef) rfl (by kernel_rfl) (by kernel_rfl) (by kernel_rfl) (fun _ _ _ h => h) (Or.inr ⟨by rfl, rfl⟩) (by with_reducible assumption) ?_
        try simp only [Act.put]
        refine wpAnyH_take (i := 14) (v := undef) rfl (by kernel_rfl) (by kernel_rfl) (by kernel_rfl) (fun _ _ _ h => h) (Or.inr ⟨by rfl, rfl⟩) (by with_reducible assumption) ?_
        try simp only [Act.put]
        refine wpAnyH_take (i := 15) (v := undef) rfl (by kernel_rfl) (by kernel_rfl) (by kernel_rfl) (fun _ _ _ h => h) (Or.inr ⟨by rfl, rfl⟩) (by with_reducible assumption) ?_
        try simp only [Act.put]
        refine wpAnyH_take (i := 16) (v := undef) rfl (by kernel_rfl) (by kernel_rfl) (by kernel_rfl) (fun _ _ _ h => h) (Or.inr ⟨by rfl, rfl⟩) (by with_reducible assumption) ?_
        try simp only [Act.put]
        refine wpAnyH_take (i := 17) (v := undef) rfl (by kernel_rfl) (by kernel_rfl) (by kernel_rfl) (fun _ _ _ h => h) (Or.inr ⟨by rfl, rfl⟩) (by with_reducible assumption) ?_
        try simp only [Act.put]
        refine wpAnyH_take (i := 18) (v := undef) rfl (by kernel_rfl) (by kernel_rfl) (by kernel_rfl) (fun _ _ _ h => h) (Or.inr ⟨by rfl, rfl⟩) (by with_reducible assumption) ?_
        try simp only [Act.put]
        refine wpAnyH_take (i := 19) (v := ?_) rfl (by kernel_rfl) (by kernel_rfl) (by kernel_rfl) (fun _ _ _ h => h) (Or.inl ⟨by rfl, ?_⟩) (by with_reducible assumption) ?_
        rotate_left
        · intro w hSw
          try dsimp only at hSw
          go_simp
          try with_reducible rfl
        try simp only [Act.put, List.setIfInBounds_toArray, List.set_cons_zero, List.set_cons_succ, List.getElem_toArray, List.getElem_cons_succ, List.getElem_cons_zero]
        refine wpAnyH_take (i := 20) (v := ?_) rfl (by kernel_rfl) (by kernel_rfl) (by kernel_rfl) (fun _ _ _ h => h) (Or.inl ⟨by rfl, ?_⟩) (by with_reducible assumption) ?_
        rotate_left
        · intro w hSw
          try dsimp only at hSw
          go_simp
          try with_reducible rfl
        try simp only [Act.put, List.setIfInBounds_toArray, List.set_cons_zero, List.set_cons_succ, List.getElem_toArray, List.getElem_cons_succ, List.getElem_cons_zero]
        refine wpAnyH_done (by kernel_rfl) ?_ _
        go_wp2_with fail
        first | exact HP.out _ _ G3.out | exact HP.out _ _ G1.out
      · refine wpAnyH_take (i := 10) (v := ?_) rfl (by kernel_rfl) (by kernel_rfl) (by kernel_rfl) (fun _ _ _ h => h) (Or.inl ⟨by rfl, ?_⟩) (by with_reducible assumption) ?_
        rotate_left
        · intro w hSw
          try dsimp only at hSw
          go_simp
          try with_reducible rfl
        try simp only [Act.put, List.setIfInBounds_toArray]
        refine wpAnyH_take (i := 11) (v := ?_) rfl (by kernel_rfl) (by kernel_rfl) (by kernel_rfl) (fun _ _ _ h => h) (Or.inl ⟨by rfl, ?_⟩) (by with_reducible assumption) ?_
        rotate_left
        · intro w hSw
          try dsimp only at hSw
          go_simp
          try with_reducible rfl
        try simp only [Act.put]
        refine wpAnyH_take (i := 12) (v := ?_) rfl (by kernel_rfl) (by kernel_rfl) (by kernel_rfl) (fun _ _ _ h => h) (Or.inl ⟨by rfl, ?_⟩) (by with_reducible assumption) ?_
        rotate_left
        · intro w hSw
          try dsimp only at hSw
          go_simp
          try with_reducible rfl
        try simp only [Act.put]
        refine wpAnyH_take (i := 13) (v := ?_) rfl (by kernel_rfl) (by kernel_rfl) (by kernel_rfl) (fun _ _ _ h => h) (Or.inl ⟨by rfl, ?_⟩) (by with_reducible assumption) ?_
        rotate_left
        · intro w hSw
          try dsimp only at hSw
          go_simp
          try with_reducible rfl
        try simp only [Act.put]
        refine wpAnyH_take (i := 14) (v := ?_) rfl (by kernel_rfl) (by kernel_rfl) (by kernel_rfl) (fun _ _ _ h => h) (Or.inl ⟨by rfl, ?_⟩) (by with_reducible assumption) ?_
        rotate_left
        · intro w hSw
          try dsimp only at hSw
          go_simp
          try with_reducible rfl
        try simp only [Act.put]
        refine wpAnyH_take (i := 15) (v := ?_) rfl (by kernel_rfl) (by kernel_rfl) (by kernel_rfl) (fun _ _ _ h => h) (Or.inl ⟨by rfl, ?_⟩) (by with_reducible assumption) ?_
        rotate_left
        · intro w hSw
          try dsimp only at hSw
          go_simp
          try with_reducible rfl
        try simp only [Act.put]
        refine wpAnyH_take (i := 16) (v := ?_) rfl (by kernel_rfl) (by kernel_rfl) (by kernel_rfl) (fun _ _ _ h => h) (Or.inl ⟨by rfl, ?_⟩) (by with_reducible assumption) ?_
        rotate_left
        · intro w hSw
          try dsimp only at hSw
          go_simp
          try with_reducible rfl
        try simp only [Act.put]
        refine wpAnyH_ready (rs := [17]) (by kernel_rfl) (by simp) ?_
        refine AllReadyH.cons (o := _) rfl (fun K hK => ?_) ?_
        · go_simp
          go_at_call 58
          refine (HC58.out _ G1.out).mono ?_
          rintro e w2 ⟨v, rfl, hv, hb⟩
          have G2 := Lib.hid (G1.out.trans (hb.mono (by have := G1.out.size; rw [← HHS.out] at this; exact this)))
          obtain ⟨qb, qc, rfl, -, -⟩ := hv.lit HPOS.out
          have HV2 := Lib.hid hv
          have hS2 := HSK.out _ G2.out
          clear hv hb HC58
          refine hK.out _ _ (hS2) (fun hHeld => ?_)
          clear hK K
          try simp only [Act.put, List.setIfInBounds_toArray, List.set_cons_zero, List.set_cons_succ]
          refine wpAnyH_ready (rs := [18]) (by kernel_rfl) (by simp) ?_
          refine AllReadyH.cons (o := _) rfl (fun K hK => ?_) ?_
          · go_simp
            go_at_call 57
            refine (rall_any HV2.out (l : Int) wt (xc := xc) (HRI.out _ G2.out) hx8 HFR.out false).mono ?_
            rintro e w3 ⟨x, rfl, hb⟩
            have G3 := Lib.hid (G2.out.trans (hb.mono (by have := G2.out.size; rw [← HHS.out] at this; exact this)))
            have hS3 := HSK.out _ G3.out
            clear hb
            refine hK.out _ _ (hS3) (fun hHeld => ?_)
            clear hK K
            try simp only [Act.put, List.setIfInBounds_toArray, List.set_cons_zero, List.set_cons_succ]
            refine wpAnyH_take (i := 19) (v := ?_) rfl (by kernel_rfl) (by kernel_rfl) (by kernel_rfl) (fun _ _ _ h => h) (Or.inl ⟨by rfl, ?_⟩) (by with_reducible assumption) ?_
            rotate_left
            · intro w hSw
              try dsimp only at hSw
              go_simp
              try with_reducible rfl
            try simp only [Act.put, List.setIfInBounds_toArray, List.set_cons_zero, List.set_cons_succ, List.getElem_toArray, List.getElem_cons_succ, List.getElem_cons_zero]
            refine wpAnyH_take (i := 20) (v := ?_) rfl (by kernel_rfl) (by kernel_rfl) (by kernel_rfl) (fun _ _ _ h => h) (Or.inl ⟨by rfl, ?_⟩) (by with_reducible assumption) ?_
            rotate_left
            · intro w hSw
              try dsimp only at hSw
              go_simp
              try with_reducible rfl
            try simp only [Act.put, List.setIfInBounds_toArray, List.set_cons_zero, List.set_cons_succ, List.getElem_toArray, List.getElem_cons_succ, List.getElem_cons_zero]
            refine wpAnyH_done (by kernel_rfl) ?_ _
            go_wp2_with fail
            first | exact HP.out _ _ G3.out | exact HP.out _ _ G1.out
          exact AllReadyH.nil
        exact AllReadyH.nil
    exact AllReadyH.nil
  exact AllReadyH.nil
end Go.Proofs.Ytmiiolgbjicocaa
