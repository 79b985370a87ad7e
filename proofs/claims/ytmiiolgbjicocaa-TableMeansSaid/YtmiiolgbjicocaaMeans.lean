/-
  TableMeans answers true, and leaves its arguments as they were, for every grammar, number and list of rules. No conditions.
-/
import Derived.Test.YtmiiolgbjicocaaMeansL
import Derived.Test.YtmiiolgbjicocaaOpen
import Derived.Test.YtmiiolgbjicocaaRows
import Derived.Deep.RegionHeld3
import Derived.WalkKit
import Derived.ProofKit
import Derived.OpenShut
import Derived.ShutString
import Derived.ChangeOld
import Derived.Below
namespace Go.Proofs.Ytmiiolgbjicocaa.tableMeans
open Go.ChangeShapes Go.WideShapes Go.ChangeAt Go.RowKit Go.Proofs.Ytmiiolgbjicocaa.Dv
set_option linter.unusedVariables false
attribute [local go_sem] run_store_float
theorem own : ownKnob Try.prog.godebug = none := by kernel_rfl
theorem laidOut : laidOutB Try.prog = true := by kernel_rfl

set_option maxRecDepth 10000 in
theorem slice_l (W : World) (a : Option Addr) (len cap c : Nat) (h : c ≤ len) :
    (Instr.slice 26 (.slice a len cap) (some (.int .i64 (c : Int))) none none).run Try.prog W = .ok (.slice (if cap = c then a else a.map (fun x => x.add c)) (len - c) (cap - c)) W := by
  have hz : (Go.sizeOf 3).run Try.prog W = .ok 1 W := rfl
  have he : Try.prog.elem 26 = 3 := by simp [Program.elem, Try.underlying26]
  rw [run_slice_l W 26 _ _ _ (by simp [Program.elem, Try.underlying26]) .i64 _ (by omega) (by omega), he, hz]
  simp [Result.andThen, sliced]
theorem lst_take {w : World} {a : Option Addr} {xs : List Int} (h : Lst w a xs) (c : Nat) : Lst w a (xs.take c) := fun i hi => by
  have h1 : i < xs.length := by simp at hi; omega
  obtain ⟨b, off, ha, hb, hc⟩ := h i h1
  exact ⟨b, off, ha, hb, by rw [List.getElem_take]; exact hc⟩
theorem lst_drop {w : World} {a : Option Addr} {xs : List Int} (h : Lst w a xs) {cap : Nat} (hl : xs.length ≤ cap) (c : Nat) : Lst w (if cap = c then a else a.map (fun x => x.add c)) (xs.drop c) := fun i hi => by
  have h1 : c + i < xs.length := by simp at hi; omega
  obtain ⟨b, off, ha, hb, hc⟩ := h (c + i) h1
  rw [if_neg (by omega)]
  subst ha
  exact ⟨b, off + c, by rw [Option.map_some, addr_add], hb, by rw [List.getElem_drop, Nat.add_assoc]; exact hc⟩
theorem and_one (k : Int) : bits .and .i64 k 1 = 0 ∨ bits .and .i64 k 1 = 1 := by
  have e : bits .and .i64 k 1 = IntKind.i64.wrap ((BitVec.ofInt 64 k &&& BitVec.ofInt 64 1).toNat : Int) := rfl
  rw [e, BitVec.toNat_and, show (BitVec.ofInt 64 1).toNat = 1 from rfl, Nat.and_one_is_mod, IntKind.wrap_i64]
  omega
theorem drop_slice {w : World} {a : Option Addr} {cap : Nat} {xs : List Int} (h : Lst w a xs) (hl : xs.length ≤ cap) (hn : a = none → cap = 0) {m : Nat} (hm : m ≤ xs.length) :
    ∃ A c, (∀ W, (Instr.slice 26 (.slice a xs.length cap) (some (.int .i64 (m : Int))) none none).run Try.prog W = .ok (.slice A (xs.drop m).length c) W) ∧ Hid (Lst w A (xs.drop m) ∧ (A = none → c = 0) ∧ (xs.drop m).length ≤ c) := by
  refine ⟨if cap = m then a else a.map (fun x => x.add m), cap - m, fun W => by rw [List.length_drop]; exact slice_l W a xs.length cap m hm, Lib.hid ⟨lst_drop h hl m, fun hA => ?_, by rw [List.length_drop]; omega⟩⟩
  by_cases e : cap = m
  · omega
  · rw [if_neg e] at hA
    cases a with
    | none => have := hn rfl; omega
    | some x => cases hA
theorem replay_bx {w wr : World} {g : GramD} (h : Box w g wr) (hsm : Small g) {a : Option Addr} {cap : Nat} {form : List Int} (hf : Lst wr a form) {a2 : Option Addr} {cap2 : Nat} {rules : List Int} (hr : Lst wr a2 rules) (hl : form.length + 8 * rules.length ≤ 400000) (hrl : rules.length ≤ 4096) :
    Calls Try.prog 22 #[.agg #[.slice g.ta g.terms.length g.tc, .slice g.va g.vars.length g.vc, .slice g.ra g.rules.length g.rc], .slice a form.length cap, .slice a2 rules.length cap2] wr (ReplayPost wr (repS g form 0 rules)) := replay_any h.gram' (Nat.le_refl _) hsm hf hr hl hrl
theorem yield_bx {w wr : World} {g : GramD} (h : Box w g wr) (hsm : Small g) {a : Option Addr} {cap : Nat} {form : List Int} (hf : Lst wr a form) {a2 : Option Addr} {cap2 : Nat} {rules : List Int} (hr : Lst wr a2 rules) (hl : form.length + 8 * rules.length ≤ 400000) (hrl : rules.length ≤ 4096) :
    Calls Try.prog 21 #[.agg #[.slice g.ta g.terms.length g.tc, .slice g.va g.vars.length g.vc, .slice g.ra g.rules.length g.rc], .slice a form.length cap, .slice a2 rules.length cap2] wr (StepPost wr (yieldS g form rules)) := yield_any h.gram' (Nat.le_refl _) hsm hf hr hl hrl
theorem yield_len {g : GramD} (hsm : Small g) (rules : List Int) : (yieldS g [0] rules).1.length ≤ 1 + 8 * rules.length := by
  unfold yieldS
  have h1 := repS_len g hsm rules [0] 0
  split
  · simp
  · split
    · simp
    · unfold leadL
      simp only [List.length_map, List.length_take]
      simp only [List.length_cons, List.length_nil] at h1
      omega
def TruePost (w : World) (e : Ending) (w' : World) : Prop := e = .returned (.bool true) ∧ Below w.heap.size w w'
set_option maxRecDepth 100000 in
set_option maxHeartbeats 4000000 in
theorem walk {w : World} {g : GramD} (hg : GramAt w w.heap.size g) (hwf : WfG g) (k : Int) {a : Option Addr} {cap : Nat} {rules : List Int} (hi : Ints w w.heap.size a rules) (hl : rules.length ≤ cap) (hm : cap ≤ maxLen) (hn : a = none → cap = 0) : Calls Try.prog 6 #[GV g, .int .i64 k, .slice a rules.length cap] w (TruePost w) := by
  have HS := Lib.hid (box_start hg)
  have HP : Hid (∀ W, Grow w W → TruePost w (.returned (.bool true)) W) := Lib.hid (fun W h => ⟨rfl, h⟩)
  have HWF := Lib.hid hwf
  have HR := Lib.hid (show Lst w a rules from hi)
  have hcap9 : cap ≤ 9223372036854775807 := by simpa [maxLen] using hm
  clear hg hwf hi hm
  generalize TruePost w = Po at *
  unfold GV
  go_enter Try.func6, Try.ntmps6
  go_wp2_with fail
  refine (alive_any _).mono ?_
  rintro e w1 ⟨rfl, hb⟩
  have H1 := Lib.hid (HS.out.go hb)
  have g0 := H1.out.c0
  have g1 := H1.out.c1
  have g2 := H1.out.c2
  clear hb HS
  go_wp2_with fail
  refine (whole_bx H1.out).mono ?_
  rintro e w2 ⟨rfl | ⟨rfl, hok⟩, hb⟩
  · have H2 := Lib.hid (H1.out.go hb)
    clear hb g0 g1 g2 H1
    go_wp2_with fail
    exact HP.out _ H2.out.grow
  have H2 := Lib.hid (H1.out.go hb)
  have HG := Lib.hid (goodW_of hok HWF.out)
  have HSM := Lib.hid hok.2
  clear hb hok g0 g1 g2 H1
  by_cases hlong : (60 : Int) < rules.length
  · go_wp2_with fail
    exact HP.out _ H2.out.grow
  have hl60 : rules.length ≤ 60 := by omega
  have g0 := H2.out.c0
  have g1 := H2.out.c1
  have g2 := H2.out.c2
  obtain ⟨K, hKd⟩ : ∃ K, K = 1 + bits .and .i64 k 1 := ⟨_, rfl⟩
  have hK : 1 ≤ K ∧ K ≤ 2 := by have := and_one k; omega
  have hKw : IntKind.i64.wrap (1 + bits .and .i64 k 1) = K := by rw [← hKd, IntKind.wrap_i64]; omega
  have HKK := Lib.hid hK
  have hab : 0 ≤ bits .and .i64 k 1 ∧ bits .and .i64 k 1 ≤ 1 := by have := and_one k; omega
  obtain ⟨hab1, hab2⟩ := hab
  go_wp2_with fail
  rw [← hKd]
  clear hKd hKw hab1 hab2 hK
  have HYL := Lib.hid (yield_len HSM.out rules)
  refine (first_bx H2.out HG.out HKK.out (by decide)).mono ?_
  rintro e w3 ⟨hb, ⟨sb, F, Fo, rfl, hs⟩ | ⟨rfl, -⟩⟩
  rotate_left
  · have H3 := Lib.hid (H2.out.go hb)
    clear hb g0 g1 g2 H2
    have g0 := H3.out.c0
    have g1 := H3.out.c1
    have g2 := H3.out.c2
    have HB3 := Lib.hid (H3.out.go (grow_one w3 (.cells #[.int .i64 0] 3)))
    have HY := Lib.hid (yield_bx (cap := 1) (cap2 := cap) HB3.out HSM.out (show Lst (w3.alloc (.cells #[.int .i64 0] 3)) (some ⟨w3.heap.size, 0, none⟩) [0] from ints_new _ _ _ rfl) (HR.out.go HB3.out.grow) (by simp; omega) (by omega))
    go_wp2_with fail
    refine HY.out.mono ?_
    rintro e w4 ⟨v, rfl, -, hb⟩
    have H4 := Lib.hid (HB3.out.go hb)
    clear hb g0 g1 g2 H3 HY HB3
    go_wp2_with fail
    exact HP.out _ H4.out.grow
  have H3 := Lib.hid (H2.out.go hb)
  have HS3 := Lib.hid hs
  clear hb g0 g1 g2 H2 hs
  have g0 := H3.out.c0
  have g1 := H3.out.c1
  have g2 := H3.out.c2
  have HB3 := Lib.hid (H3.out.go (grow_one w3 (.cells #[.int .i64 0] 3)))
  have HY := Lib.hid (yield_bx (cap := 1) (cap2 := cap) HB3.out HSM.out (show Lst (w3.alloc (.cells #[.int .i64 0] 3)) (some ⟨w3.heap.size, 0, none⟩) [0] from ints_new _ _ _ rfl) (HR.out.go HB3.out.grow) (by simp; omega) (by omega))
  go_wp2_with fail
  refine HY.out.mono ?_
  rintro e w4 ⟨v, rfl, hown, hb⟩
  obtain ⟨wa, wc, rfl, hwn, hwi, hwm, hwl⟩ := hown.shape
  have H4 := Lib.hid (HB3.out.go hb)
  have HS4 := Lib.hid ((HS3.out.go (grow_one w3 (.cells #[.int .i64 0] 3))).go hb)
  have HW4 := Lib.hid (show Lst w4 wa (yieldS g [0] rules).1 from hwi)
  have hwn2 : wa = none → wc = 0 := fun h => (hwn h).1
  have hwc9 : wc ≤ 9223372036854775807 := by simpa [maxLen] using hwm
  clear hb g0 g1 g2 H3 HB3 HS3 HY hown hwn hwi hwm
  by_cases hz : (yieldS g [0] rules).2 = 0
  rotate_left
  · have hz1 : ((yieldS g [0] rules).2 != 0) = true := by simpa using hz
    clear hz
    go_wp2_with fail
    exact HP.out _ H4.out.grow
  have hz1 : ((yieldS g [0] rules).2 != 0) = false := by simpa using hz
  have HYE : Hid (yieldS g [0] rules = ((yieldS g [0] rules).1, 0)) := Lib.hid (Prod.ext rfl hz)
  have hyl := HYL.out
  clear hz HYL
  have g0 := H4.out.c0
  have g1 := H4.out.c1
  have g2 := H4.out.c2
  generalize (yieldS g [0] rules).2 = y2 at *
  generalize (yieldS g [0] rules).1 = Wd at *
  go_wp2_with fail
  refine (table_bx H4.out HG.out HKK.out HS4.out).mono ?_
  rintro e w5 ⟨tb, T, rfl, hb, ht, hst, hto, htl⟩
  have H5 := Lib.hid (H4.out.go hb)
  have HT := Lib.hid ht
  have HST := Lib.hid hst
  have HW5 := Lib.hid (HW4.out.go hb)
  have HOK := Lib.hid (fun at_ hat => steps_ok HG.out HWF.out HKK.out HS4.out hto htl HYE.out at_ hat)
  clear hb ht hst hto htl g0 g1 g2 H4 HS4 HW4 hz1 HYE
  go_wp2_with fail
  generalize hra0 : g.ra = ra
  have HRA := Lib.hid hra0
  clear hra0
  go_loopw [60] (fun i wr => ∃ p : Nat, p ≤ rules.length ∧ i = .int .i64 p ∧ Hid (Grow w5 wr)) (fun i _ => rules.length - (intOf i).toNat)
  case atStart => exact ⟨0, by omega, rfl, Lib.hid (Grow.refl _)⟩
  case round =>
    obtain ⟨p, hp, rfl, hh⟩ := hrel
    obtain ⟨wo, rfl⟩ : ∃ x, x = wr := ⟨_, rfl⟩
    by_cases hpt : p < rules.length
    · have hpi : (p : Int) < rules.length := by omega
      have HB6 := Lib.hid (H5.out.go hh.out)
      obtain ⟨b, off, rfl, hb, hc⟩ := (HR.out.go HB6.out.grow) p hpt
      obtain ⟨f, r, v, hS⟩ := HOK.out p hpt
      rw [hS.eq] at hc
      have HSO := Lib.hid hS
      have hhs := fun W => slice_h W (some ⟨b, off, none⟩) rules.length cap p (by omega)
      have hpc : (p : Int) ≤ cap := by omega
      have htl : (rules.take p).length = p := by rw [List.length_take]; omega
      have HD := Lib.hid (HB6.out.go (grow_drew wo))
      have HDN := Lib.hid (HD.out.go (grow_one wo.drew (.cells #[.int .i64 0] 3)))
      have HRE := Lib.hid (replay_bx (cap := 1) (cap2 := cap) HDN.out HSM.out (show Lst (wo.drew.alloc (.cells #[.int .i64 0] 3)) (some ⟨wo.drew.heap.size, 0, none⟩) [0] from ints_new _ _ _ rfl) (lst_take (HR.out.go HDN.out.grow) p) (by rw [htl]; simp; omega) (by rw [htl]; omega))
      rw [htl, hS.rep] at HRE
      have hfl := repS_len g HSM.out (rules.take p) [0] 0
      rw [hS.rep, htl] at hfl
      have hfl2 : f.length ≤ 1000 := by simp only [List.length_cons, List.length_nil] at hfl; omega
      have HGD := Lib.hid (hh.out.trans ((grow_drew wo).trans (grow_one wo.drew (.cells #[.int .i64 0] 3))))
      have q0 := HD.out.c0
      have q1 := HD.out.c1
      have q2 := HD.out.c2
      have r0 := HDN.out.c0
      have r1 := HDN.out.c1
      have r2 := HDN.out.c2
      rw [HRA.out] at q2 r2 HRE
      clear hS hfl htl hh
      go_wp2_with fail
      refine wp_region_held_drew (S := fun w' => w'.cell? ⟨w.heap.size, 0, none⟩ = some (.slice g.ta g.terms.length g.tc) ∧ w'.cell? ⟨w.heap.size, 1, none⟩ = some (.slice g.va g.vars.length g.vc) ∧ w'.cell? ⟨w.heap.size, 2, none⟩ = some (.slice ra g.rules.length g.rc)) (by kernel_rfl) (⟨q0, q1, q2⟩) (fun hHeld => ?_)
      refine wpAnyH_take (i := 0) (v := ?_) rfl (by kernel_rfl) (by kernel_rfl) (by kernel_rfl) (fun _ _ _ h => h) (Or.inl ⟨by rfl, ?_⟩) (by with_reducible assumption) ?_
      rotate_left
      · intro w hSw
        try dsimp only at hSw
        go_simp
        try with_reducible rfl
      try simp only [Act.put, List.setIfInBounds_toArray]
      refine wpAnyH_take (i := 2) (v := ?_) rfl (by kernel_rfl) (by kernel_rfl) (by kernel_rfl) (fun _ _ _ h => h) (Or.inl ⟨by rfl, ?_⟩) (by with_reducible assumption) ?_
      rotate_left
      · intro w hSw
        try dsimp only at hSw
        go_simp
        try with_reducible rfl
      try simp only [Act.put]
      refine wpAnyH_take (i := 3) (v := ?_) rfl (by kernel_rfl) (by kernel_rfl) (by kernel_rfl) (fun _ _ _ h => h) (Or.inl ⟨by rfl, ?_⟩) (by with_reducible assumption) ?_
      rotate_left
      · intro w hSw
        try dsimp only at hSw
        go_simp
        try with_reducible rfl
      try simp only [Act.put]
      refine wpAnyH_take (i := 4) (v := ?_) rfl (by kernel_rfl) (by kernel_rfl) (by kernel_rfl) (fun _ _ _ h => h) (Or.inl ⟨by rfl, ?_⟩) (by with_reducible assumption) ?_
      rotate_left
      · intro w hSw
        try dsimp only at hSw
        go_simp
        try with_reducible rfl
      try simp only [Act.put]
      refine wpAnyH_ready (rs := [1]) (by kernel_rfl) (by simp) ?_
      refine AllReadyH.cons (o := _) rfl (fun K hK => ?_) ?_
      · go_simp
        refine hK.out _ _ (⟨r0, r1, r2⟩) (fun hHeld => ?_)
        clear hK K
        try simp only [Act.put, List.setIfInBounds_toArray, List.set_cons_zero, List.set_cons_succ]
        refine wpAnyH_ready (rs := [5]) (by kernel_rfl) (by simp) ?_
        refine AllReadyH.cons (o := _) rfl (fun K hK => ?_) ?_
        · go_simp
          go_at_call 22
          refine HRE.out.mono ?_
          rintro e w6 ⟨fv, rfl, hown, hb⟩
          obtain ⟨fa, fc, rfl, -, hfi, -, -⟩ := hown.shape
          have HF6 := Lib.hid (show Lst w6 fa f from hfi)
          have HB7 := Lib.hid (HDN.out.go hb)
          have HG6 := Lib.hid (HGD.out.trans hb)
          have t0 := HB7.out.c0
          have t1 := HB7.out.c1
          have t2 := HB7.out.c2
          rw [HRA.out] at t2
          clear hown hb hfi HRE HD HDN HGD
          refine hK.out _ _ (⟨t0, t1, t2⟩) (fun hHeld => ?_)
          clear hK K
          try simp only []
          refine wpAnyH_take (i := 6) (v := ?_) rfl (by kernel_rfl) (by kernel_rfl) (by kernel_rfl) (fun _ _ _ h => h) (Or.inl ⟨by rfl, ?_⟩) (by with_reducible assumption) ?_
          rotate_left
          · intro w hSw
            try dsimp only at hSw
            go_simp
            try with_reducible rfl
          try simp only [Act.put, List.setIfInBounds_toArray]
          refine wpAnyH_take (i := 7) (v := ?_) rfl (by kernel_rfl) (by kernel_rfl) (by kernel_rfl) (fun _ _ _ h => h) (Or.inl ⟨by rfl, ?_⟩) (by with_reducible assumption) ?_
          rotate_left
          · intro w hSw
            try dsimp only at hSw
            go_simp
            try with_reducible rfl
          try simp only [Act.put]
          refine wpAnyH_take (i := 8) (v := ?_) rfl (by kernel_rfl) (by kernel_rfl) (by kernel_rfl) (fun _ _ _ h => h) (Or.inl ⟨by rfl, ?_⟩) (by with_reducible assumption) ?_
          rotate_left
          · intro w hSw
            try dsimp only at hSw
            go_simp
            try with_reducible rfl
          try simp only [Act.put]
          refine wpAnyH_take (i := 9) (v := ?_) rfl (by kernel_rfl) (by kernel_rfl) (by kernel_rfl) (fun _ _ _ h => h) (Or.inl ⟨by rfl, ?_⟩) (by with_reducible assumption) ?_
          rotate_left
          · intro w hSw
            try dsimp only at hSw
            go_simp
            try with_reducible rfl
          try simp only [Act.put]
          refine wpAnyH_take (i := 10) (v := ?_) rfl (by kernel_rfl) (by kernel_rfl) (by kernel_rfl) (fun _ _ _ h => h) (Or.inl ⟨by rfl, ?_⟩) (by with_reducible assumption) ?_
          rotate_left
          · intro w hSw
            try dsimp only at hSw
            go_simp
            try with_reducible rfl
          try simp only [Act.put]
          refine wpAnyH_take (i := 11) (v := ?_) rfl (by kernel_rfl) (by kernel_rfl) (by kernel_rfl) (fun _ _ _ h => h) (Or.inl ⟨by rfl, ?_⟩) (by with_reducible assumption) ?_
          rotate_left
          · intro w hSw
            try dsimp only at hSw
            go_simp
            try with_reducible rfl
          try simp only [Act.put]
          refine wpAnyH_take (i := 12) (v := ?_) rfl (by kernel_rfl) (by kernel_rfl) (by kernel_rfl) (fun _ _ _ h => h) (Or.inl ⟨by rfl, ?_⟩) (by with_reducible assumption) ?_
          rotate_left
          · intro w hSw
            try dsimp only at hSw
            go_simp
            try with_reducible rfl
          try simp only [Act.put]
          refine wpAnyH_done (by kernel_rfl) ?_ _
          go_wp2_with fail
          clear q0 q1 q2 r0 r1 r2 t0 t1 t2 hHeld hhs hpc
          refine (lead_any HF6.out (Nat.le_refl _) (by omega)).mono ?_
          rintro e w7 ⟨lv, rfl, hown, hb⟩
          obtain ⟨ea, ec, rfl, -, -, -, -⟩ := hown.shape
          have HB8 := Lib.hid (HB7.out.go hb)
          have HG7 := Lib.hid (HG6.out.trans hb)
          have hlen := HSO.out.len
          have hone := HSO.out.one
          have hfew := HSO.out.few
          have hcl := HSO.out.clear
          clear hown hb HF6 HB7 HG6
          generalize (leadL f).length = m at *
          have hgt1 : decide ((Wd.length : Int) < (m : Int)) = false := decide_eq_false (by omega)
          have hgt2 : decide (Wd.length < m) = false := decide_eq_false (by omega)
          have hr := HSO.out.hr
          have hri : (r : Int) < g.rules.length := by omega
          have HD := Lib.hid (HB8.out.go (grow_drew w7))
          have HGD := Lib.hid (HG7.out.trans (grow_drew w7))
          obtain ⟨rb, ro, hra, hrb, u0, -⟩ := HD.out.gram.rules r hr
          rw [HSO.out.left hr] at u0
          have b2 := HD.out.c2
          rw [HRA.out] at hra b2
          subst hra
          have hrbl : rb < w7.drew.heap.size := block_of_cell u0
          obtain ⟨A1, c1, hsl, HA⟩ := drop_slice (HW5.out.go HGD.out) hwl hwn2 hlen
          have hdl : (Wd.drop m).length ≤ 100000 := by rw [List.length_drop]; omega
          have HFI := Lib.hid (find_bx (HT.out.go HGD.out) HST.out HSO.out.hv HA.out.1 HA.out.2.1 HA.out.2.2 hdl)
          have hml : (m : Int) ≤ Wd.length := by omega
          have HONE := Lib.hid hone
          have HCLR := Lib.hid hcl
          have hv := HSO.out.hv
          clear HG7 HB8 hone hcl hdl HSO
          generalize Wd.drop m = Z at *
          generalize findT (T.getD v []) (cutL Z K) = l at *
          go_wp2_with fail
          refine wp_region_held_drew (S := fun w' => w'.cell? ⟨w.heap.size, 2, none⟩ = some (.slice (some ⟨rb, ro, none⟩) g.rules.length g.rc) ∧ w'.cell? ⟨rb, ro + r * 3, none⟩ = some (.int .i64 (v : Nat))) (by kernel_rfl) (⟨b2, u0⟩) (fun hHeld => ?_)
          refine wpAnyH_take (i := 0) (v := ?_) rfl (by kernel_rfl) (by kernel_rfl) (by kernel_rfl) (fun _ _ _ h => h) (Or.inl ⟨by rfl, ?_⟩) (by with_reducible assumption) ?_
          rotate_left
          · intro w hSw
            try dsimp only at hSw
            go_simp
            try with_reducible rfl
          try simp only [Act.put, List.setIfInBounds_toArray]
          refine wpAnyH_take (i := 1) (v := ?_) rfl (by kernel_rfl) (by kernel_rfl) (by kernel_rfl) (fun _ _ _ h => h) (Or.inl ⟨by rfl, ?_⟩) (by with_reducible assumption) ?_
          rotate_left
          · intro w hSw
            try dsimp only at hSw
            go_simp
            try with_reducible rfl
          try simp only [Act.put]
          refine wpAnyH_take (i := 2) (v := ?_) rfl (by kernel_rfl) (by kernel_rfl) (by kernel_rfl) (fun _ _ _ h => h) (Or.inl ⟨by rfl, ?_⟩) (by with_reducible assumption) ?_
          rotate_left
          · intro w hSw
            try dsimp only at hSw
            go_simp
            try with_reducible rfl
          try simp only [Act.put]
          refine wpAnyH_take (i := 3) (v := ?_) rfl (by kernel_rfl) (by kernel_rfl) (by kernel_rfl) (fun _ _ _ h => h) (Or.inl ⟨by rfl, ?_⟩) (by with_reducible assumption) ?_
          rotate_left
          · intro w hSw
            try dsimp only at hSw
            go_simp
            try with_reducible rfl
          try simp only [Act.put]
          refine wpAnyH_take (i := 4) (v := ?_) rfl (by kernel_rfl) (by kernel_rfl) (by kernel_rfl) (fun _ _ _ h => h) (Or.inl ⟨by rfl, ?_⟩) (by with_reducible assumption) ?_
          rotate_left
          · intro w hSw
            try dsimp only at hSw
            go_simp
            try with_reducible rfl
          try simp only [Act.put]
          refine wpAnyH_take (i := 5) (v := ?_) rfl (by kernel_rfl) (by kernel_rfl) (by kernel_rfl) (fun _ _ _ h => h) (Or.inl ⟨by rfl, ?_⟩) (by with_reducible assumption) ?_
          rotate_left
          · intro w hSw
            try dsimp only at hSw
            go_simp
            try with_reducible rfl
          try simp only [Act.put]
          refine wpAnyH_take (i := 6) (v := ?_) rfl (by kernel_rfl) (by kernel_rfl) (by kernel_rfl) (fun _ _ _ h => h) (Or.inl ⟨by rfl, ?_⟩) (by with_reducible assumption) ?_
          rotate_left
          · intro w hSw
            try dsimp only at hSw
            go_simp
            try with_reducible rfl
          try simp only [Act.put]
          refine wpAnyH_take (i := 7) (v := ?_) rfl (by kernel_rfl) (by kernel_rfl) (by kernel_rfl) (fun _ _ _ h => h) (Or.inl ⟨by rfl, ?_⟩) (by with_reducible assumption) ?_
          rotate_left
          · intro w hSw
            try dsimp only at hSw
            go_simp
            try with_reducible rfl
          try simp only [Act.put]
          refine wpAnyH_take (i := 8) (v := ?_) rfl (by kernel_rfl) (by kernel_rfl) (by kernel_rfl) (fun _ _ _ h => h) (Or.inl ⟨by rfl, ?_⟩) (by with_reducible assumption) ?_
          rotate_left
          · intro w hSw
            try dsimp only at hSw
            go_simp
            try with_reducible rfl
          try simp only [Act.put]
          refine wpAnyH_take (i := 9) (v := ?_) rfl (by kernel_rfl) (by kernel_rfl) (by kernel_rfl) (fun _ _ _ h => h) (Or.inl ⟨by rfl, ?_⟩) (by with_reducible assumption) ?_
          rotate_left
          · intro w hSw
            try dsimp only at hSw
            go_simp
            try with_reducible rfl
          try simp only [Act.put]
          refine wpAnyH_take (i := 10) (v := ?_) rfl (by kernel_rfl) (by kernel_rfl) (by kernel_rfl) (fun _ _ _ h => h) (Or.inl ⟨by rfl, ?_⟩) (by with_reducible assumption) ?_
          rotate_left
          · intro w hSw
            try dsimp only at hSw
            go_simp
            try with_reducible rfl
          try simp only [Act.put]
          refine wpAnyH_ready (rs := [11]) (by kernel_rfl) (by simp) ?_
          refine AllReadyH.cons (o := _) rfl (fun K hK => ?_) ?_
          · go_simp
            go_at_call 16
            refine HFI.out.mono ?_
            rintro e w8 ⟨la, lc, rfl, hli, -, hg8⟩
            have HL8 := Lib.hid hli
            have HG8 := Lib.hid (HGD.out.trans hg8)
            have HB9 := Lib.hid (HD.out.go hg8)
            have t2 := HB9.out.c2
            rw [HRA.out] at t2
            have t3 := (below_cell hg8 hrbl).trans u0
            clear hli hg8 HFI HD HGD
            refine hK.out _ _ (⟨t2, t3⟩) (fun hHeld => ?_)
            clear hK K
            try simp only [Act.put, List.setIfInBounds_toArray, List.set_cons_zero, List.set_cons_succ]
            refine wpAnyH_take (i := 12) (v := ?_) rfl (by kernel_rfl) (by kernel_rfl) (by kernel_rfl) (fun _ _ _ h => h) (Or.inl ⟨by rfl, ?_⟩) (by with_reducible assumption) ?_
            rotate_left
            · intro w hSw
              try dsimp only at hSw
              go_simp
              try with_reducible rfl
            try simp only [Act.put, List.setIfInBounds_toArray]
            refine wpAnyH_done (by kernel_rfl) ?_ _
            go_wp2_with fail
            clear b2 u0 hHeld hsl
            go_loopw [19, 103] (fun n i ws => ∃ j : Nat, j ≤ l.length ∧ i = .int .i64 j ∧ n = .int .i64 (cnt1 (l.take j) r : Nat) ∧ ws = w8) (fun _ i _ => l.length - (intOf i).toNat)
            case atStart => exact ⟨0, by omega, rfl, rfl, rfl⟩
            case round =>
              obtain ⟨j, hj, rfl, rfl, rfl⟩ := hrel
              by_cases hjt : j < l.length
              · have hji : (j : Int) < l.length := by omega
                obtain ⟨lb, lo, rfl, hlb, hlc⟩ := HL8.out j hjt
                have HTK := Lib.hid (cnt1_take hjt (r : Int))
                have hcn := cnt1_le (l.take j) (r : Int)
                have hcn2 : cnt1 (l.take j) (r : Int) ≤ 24 := by rw [List.length_take] at hcn; omega
                clear hcn
                generalize cnt1 (l.take j) (r : Int) = n at *
                generalize l[j] = y at *
                cases hyr : y == (r : Int)
                · rw [hyr, if_neg (by simp), Nat.add_zero] at HTK
                  go_wp2_with fail
                  go_roundw
                  case rel => exact ⟨j + 1, by omega, by go_num, by rw [HTK.out]; rfl, by first | rfl | trivial⟩
                  case measure => simp [intOf]; omega
                · rw [hyr, if_pos rfl] at HTK
                  go_wp2_with fail
                  go_roundw
                  case rel => exact ⟨j + 1, by omega, by go_num, by rw [HTK.out]; go_num, by first | rfl | trivial⟩
                  case measure => simp [intOf]; omega
              · have hji : ¬ (j : Int) < l.length := by omega
                have hte : l.take j = l := List.take_of_length_le (by omega)
                rw [hte, HONE.out]
                clear hte
                have HC := Lib.hid (clear_bx (HT.out.go HG8.out) HST.out hv)
                generalize clearT (T.getD v []) = x1 at *
                cases x1
                · go_wp2_with fail
                  refine HC.out.mono ?_
                  rintro e w9 ⟨rfl, hg9⟩
                  have HG9 := Lib.hid (HG8.out.trans hg9)
                  clear hg9 HC HG8
                  go_wp2_with fail
                  go_roundw
                  case rel => exact ⟨p + 1, by omega, by go_num, HG9⟩
                  case measure => simp [intOf]; omega
                · have hl1 := HCLR.out rfl
                  rw [hl1]
                  go_wp2_with fail
                  refine HC.out.mono ?_
                  rintro e w9 ⟨rfl, hg9⟩
                  have HG9 := Lib.hid (HG8.out.trans hg9)
                  clear hg9 HC HG8
                  go_wp2_with fail
                  go_roundw
                  case rel => exact ⟨p + 1, by omega, by go_num, HG9⟩
                  case measure => simp [intOf]; omega
          exact AllReadyH.nil
        exact AllReadyH.nil
      exact AllReadyH.nil
    · have hpi : ¬ (p : Int) < rules.length := by omega
      have HB6 := Lib.hid (H5.out.go hh.out)
      clear hh
      go_wp2_with fail
      exact HP.out _ HB6.out.grow

set_option maxRecDepth 100000 in
theorem lifted (os : Os) (started : os.Started) (H : Type) (enc : TypeId × Value → H) :
    ReturnsInHanded {} Try.checked os 6 .any (Rows.tableMeansSpec.pre6 enc Try.prog Try.f6 Rows.tableMeansRow.domain false) (Rows.tableMeansSpec.post enc Try.prog Try.f6 false true false false) := by
  refine returnsInHanded_of_change (C := Try.checked) own started (by kernel_rfl) Try.func6
    (ChangeSpec.witness6 (enc := enc) (C := Try.checked) false ⟨#[], #[.agg #[.slice none 0 0, .slice none 0 0, .slice none 0 0], .int .i64 0, .slice none 0 0], []⟩ 8 (by kernel_rfl) (by kernel_rfl) (by kernel_rfl) (by kernel_rfl)) ?_
  intro W base args ds gs before hval0 hW hcnd _
  have hval : ∀ (j : Nat) t v, Try.f6.params[j]? = some t → args[j]? = some v → Value.okWide Try.prog W .any base t v := hval0
  have hW' := hW
  obtain ⟨p, q, hA0, hV, rfl, hfz, hnd⟩ := hW
  have hA : DataW.TrodAll enc Try.prog W 0 (fun _ => true) true Try.f6.params.toList args.toList ds p := hA0
  rw [Try.params6] at hA hval
  obtain ⟨v0, vs0, d0, ds0, p0, q0, hargs, rfl, rfl, h0, r0⟩ := trodAll_cons hA
  obtain ⟨v1, vs1, d1, ds1, p1, q1, rfl, rfl, rfl, h1, r1⟩ := trodAll_cons r0
  obtain ⟨v2, vs2, d2, ds2, p2, q2, rfl, rfl, rfl, h2, r2⟩ := trodAll_cons r1
  obtain ⟨rfl, rfl, rfl⟩ := trodAll_nil r2
  obtain rfl : args = #[v0, v1, v2] := by cases args; simp_all
  obtain ⟨rfl, rfl⟩ := trodVars_none hV
  have k0 := h0
  have lt0 : ∀ x ∈ p0, x.block < W.heap.size := by obtain ⟨m, hm⟩ := k0; exact DataW.trod_lt m _ _ _ hm
  obtain ⟨g, rfl, hgr, hwf⟩ := gram_of_trod_wf (hval 0 25 v0 rfl rfl) h0
  obtain ⟨a1, rfl, rfl, rfl, w1⟩ := open_int Try.underlying3 (hval 1 3 v1 rfl rfl) h1
  have k2 := h2
  have lt2 : ∀ x ∈ p2, x.block < W.heap.size := by obtain ⟨m, hm⟩ := k2; exact DataW.trod_lt m _ _ _ hm
  obtain ⟨a2, xs2, cap2, rfl, hi2, hl2, hm2, hn2⟩ := ints_of_val (hval 2 26 v2 rfl rfl) h2
  clear hA0 hval0
  refine (walk hgr hwf a1 hi2 hl2 hm2 hn2).mono fun e W' ⟨he, bel⟩ => ?_
  subst he
  exact ⟨_, rfl, _, _, _, [], _, [], hW', trodAll_mk1 (shut_bool Try.underlying4 _), (trodAll_cons_mk (Below.trod laidOut (by kernel_rfl) (of_decide_eq_true (by kernel_rfl)) k0 bel lt0) (trodAll_cons_mk (shut_int Try.underlying3 w1) (trodAll_cons_mk (Below.trod laidOut (by kernel_rfl) (of_decide_eq_true (by kernel_rfl)) k2 bel lt2) trodAll_mk0))), rfl, bel.frame _, fun h => by cases h⟩

theorem over : Rows.tableMeansRow.holds Try.pinned (OpenSpec.ofChange Rows.tableMeansSpec) :=
  OpenClaim.holds_of_wide 6 Try.f6 rfl rfl rfl rfl rfl rfl rfl ⟨rfl, rfl, rfl, rfl, rfl⟩ rfl rfl rfl rfl rfl (by kernel_rfl) Try.func6 (by kernel_rfl)
    (of_decide_eq_true (by kernel_rfl)) (by unfold Func.isWrapper; first | (rw [if_pos (by decide +kernel)]; kernel_rfl) | (rw [if_neg (by decide +kernel)]; exact ⟨rfl, rfl⟩))
    (fun os started H enc _ => lifted os started H enc)

theorem proved : Rows.TableMeansSaid := over
#print axioms proved

end Go.Proofs.Ytmiiolgbjicocaa.tableMeans
