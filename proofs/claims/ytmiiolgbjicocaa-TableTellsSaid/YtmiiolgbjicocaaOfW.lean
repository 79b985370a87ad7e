/- The table of a grammar's sets: the walk. -/
import Derived.Test.YtmiiolgbjicocaaTOfP
import Derived.Test.YtmiiolgbjicocaaFirstW
import Derived.Test.YtmiiolgbjicocaaLook
import Derived.Laws.OwnMore
import Derived.Deep.RegionHeld3
namespace Go.Proofs.Ytmiiolgbjicocaa
open Go.RowKit
attribute [local go_sem] run_store_float
theorem info41 : (Try.prog.info? 41).map (fun i => (i.zero, i.size, i.bytes)) = some (some (.slice none 0 0), 1, 24) := by kernel_rfl
/-- A list of words, as it lies. -/
def AllsD (ρ : Nat → Role) (a : Option Addr) (L : Wds) (w : World) : Prop :=
  ∀ j (h : j < L.length), ∃ lb la lc, a = some ⟨lb, 0, none⟩ ∧ lb < w.heap.size ∧ ρ lb = .other ∧ w.cell? ⟨lb, j, none⟩ = some (.slice la L[j].length lc) ∧ LookD ρ (.slice la L[j].length lc) L[j] w
theorem AllsD.go {ρ ρ' : Nat → Role} {a : Option Addr} {L : Wds} {w w' : World} (h : AllsD ρ a L w) (hk : Kept (fun k => ρ k ≠ .other) w w') (hρ : ∀ k, k < w.heap.size → ρ' k = ρ k) : AllsD ρ' a L w' := fun j hj => by
  obtain ⟨lb, la, lc, h1, h2, h3, h4, h5⟩ := h j hj
  exact ⟨lb, la, lc, h1, Nat.lt_of_lt_of_le h2 hk.size, (hρ lb h2).trans h3, (World.cell?_of_block (hk.block lb h2 (fun h => h h3))).trans h4, h5.go hk hρ (fun k _ h => h)⟩
theorem made_alls {ρ : Nat → Role} {base : Nat} {v : Value} {L : Wds} {w : World} (h : Made base v L w) (hρ : ∀ k, base ≤ k → ρ k = .other) : ∃ a c, v = .slice a L.length c ∧ AllsD ρ a L w := by
  obtain ⟨vs, hrow, hl, hw⟩ := h
  rcases hrow.2 with ⟨rfl, h0⟩ | ⟨gb, cap, cur, rfl, hgb, hcur, _⟩
  · exact ⟨none, 0, by rw [← hl, h0], fun j hj => by omega⟩
  · refine ⟨some ⟨gb, 0, none⟩, cap, by rw [← hl], fun j hj => ?_⟩
    have hjv : j < vs.length := by omega
    obtain ⟨la, lc, hv, hn, hin, _, _⟩ := (hw j hjv hj).shape
    refine ⟨gb, la, lc, rfl, lt_of_block hcur, hρ gb hgb, ?_, la, lc, rfl, hin, fun h => (hn h).1, fun a ha _ => ?_⟩
    · have hr : w.ownsRow base 26 1 (.slice (some ⟨gb, 0, none⟩) vs.length cap) vs.length vs := hrow
      rw [hr.cellAt j (by omega), List.getElem?_eq_getElem hjv, hv]
    · subst ha
      exact hρ _ ((hw j hjv hj).lt (g := a.block) (by rw [hv]; rfl)).2
def leftN (g : GramD) (k : Nat) : Nat := match g.rules[k]? with | some r => r.left.toNat | none => 0
theorem leftN_at {g : GramD} {k : Nat} (hk : k < g.rules.length) : leftN g k = g.rules[k].left.toNat := by
  unfold leftN
  rw [List.getElem?_eq_getElem hk]
theorem lookL_rules (K : Int) (g : GramD) (F Fo : List Wds) (k : Nat) : lookL K g F Fo k = match (rulesOf g)[k]? with | some r => aheadL K F r.2 (Fo.getD r.1 []) | none => [] := by
  unfold lookL rulesOf
  rw [List.getElem?_map]
  cases g.rules[k]? <;> rfl
theorem lookL_same {K : Int} {g gs : GramD} {F Fo : List Wds} {k : Nat} (h : rulesOf gs = rulesOf g) : lookL K gs F Fo k = lookL K g F Fo k := by rw [lookL_rules, lookL_rules, h]
/-- All that is put in, up to a rule. -/
def addsOf (K : Int) (g : GramD) (F Fo : List Wds) (n : Nat) : Adds := (List.range n).flatMap (fun k => (lookL K g F Fo k).map (fun l => (leftN g k, l, (k : Int))))
theorem addsOf_succ (K : Int) (g : GramD) (F Fo : List Wds) (n : Nat) : addsOf K g F Fo (n + 1) = addsOf K g F Fo n ++ (lookL K g F Fo n).map (fun l => (leftN g n, l, (n : Int))) := by
  unfold addsOf
  rw [List.range_succ, List.flatMap_append, List.flatMap_singleton]
theorem addsOf_len {K : Int} {g : GramD} {F Fo : List Wds} (h : ∀ k, (lookL K g F Fo k).length ≤ 43) : ∀ n, (addsOf K g F Fo n).length ≤ 43 * n
  | 0 => Nat.zero_le _
  | n + 1 => by
    rw [addsOf_succ, List.length_append, List.length_map]
    have := addsOf_len h n
    have := h n
    omega
theorem addsOf_short {K : Int} {g : GramD} {F Fo : List Wds} (h : ∀ k, OkW (lookL K g F Fo k)) (n : Nat) : ∀ e ∈ addsOf K g F Fo n, e.2.1.length ≤ 2 := fun e he => by
  obtain ⟨k, _, hk⟩ := List.mem_flatMap.1 he
  obtain ⟨l, hl, rfl⟩ := List.mem_map.1 hk
  exact (h k l hl).1
/-- The table as it is being made. -/
def OfI (lo tb ob nv oc : Nat) (K : Int) (g : GramD) (E : Adds) (w1 wr : World) : Prop := Grow w1 wr ∧ ∃ ρ T, TabM lo ρ tb ob nv oc K g T wr ∧ TOf E T
/-- .. and a rule's words beside it. -/
def OfJ (lo tb ob nv oc : Nat) (K : Int) (g : GramD) (E : Adds) (a : Option Addr) (L : Wds) (C : Nat) (cs : Array Value) (w1 wr : World) : Prop :=
  Grow w1 wr ∧ ∃ ρ T, TabM lo ρ tb ob nv oc K g T wr ∧ TOf E T ∧ AllsD ρ a L wr ∧ ρ C = .other ∧ wr.heap[C]? = some (.cells cs 64 (0, 0))
section
variable {lo tb ob nv oc : Nat} {K : Int} {g : GramD} {E : Adds} {w1 wr : World}
theorem TabM.below {ρ : Nat → Role} {T : List (List TRow)} {w w' : World} (h : TabM lo ρ tb ob nv oc K g T w) (hk : Kept (fun k => ρ k ≠ .other) w w') (hl : w1.heap.size = lo) (hg : Grow w1 w) : Grow w1 w' :=
  ⟨hk.os.trans hg.os, hk.tape.trans hg.tape, hk.output.trans hg.output, Nat.le_trans hg.size hk.size, fun k hk2 => (hk.block k (Nat.lt_of_lt_of_le hk2 hg.size) (fun h2 => h2 (h.base.low k (by omega)))).trans (hg.block k hk2)⟩
theorem OfJ.blk {a : Option Addr} {L : Wds} {C : Nat} {cs : Array Value} (h : OfJ lo tb ob nv oc K g E a L C cs w1 wr) : wr.heap[C]? = some (.cells cs 64 (0, 0)) := by
  obtain ⟨_, _, _, _, _, _, _, h⟩ := h
  exact h
theorem OfJ.fst {a : Option Addr} {L : Wds} {C : Nat} {cs : Array Value} (h : OfJ lo tb ob nv oc K g E a L C cs w1 wr) : OfI lo tb ob nv oc K g E w1 wr := by
  obtain ⟨h1, ρ, T, h2, h3, _⟩ := h
  exact ⟨h1, ρ, T, h2, h3⟩
/-- A word put in. -/
theorem OfJ.add {a : Option Addr} {L : Wds} {C : Nat} {cs : Array Value} (h : OfJ lo tb ob nv oc K g E a L C cs w1 wr) (hl : w1.heap.size = lo) (hE : E.length ≤ 2000) (hE2 : ∀ e ∈ E, e.2.1.length ≤ 2) (hL : ∀ l ∈ L, l.length ≤ 2) {v : Nat} (hv : v < nv) {m : Nat} (hm : m < L.length) (i : Int) :
    ∃ lb la lc, a = some ⟨lb, 0, none⟩ ∧ lb < wr.heap.size ∧ wr.cell? ⟨lb, m, none⟩ = some (.slice la L[m].length lc) ∧
      Calls Try.prog 36 #[.pointer (some ⟨tb, 0, none⟩), .int .i64 (v : Nat), .slice la L[m].length lc, .int .i64 i] wr (fun e w' => e = .returned (.tuple #[]) ∧ OfJ lo tb ob nv oc K g (E ++ [(v, L[m], i)]) a L C cs w1 w') := by
  obtain ⟨hg, ρ, T, hT, hE3, hA, hC, hCb⟩ := h
  obtain ⟨lb, la, lc, h1, h2, h3, h4, h5⟩ := hA m hm
  have hvl : v < T.length := by rw [hT.len]; exact hv
  have hx := List.getElem?_eq_getElem hvl
  have hR := hE3 v _ hx
  obtain ⟨s1, s2⟩ := hR.small hE hE2
  have hLm : L[m].length ≤ 2 := hL _ (List.getElem_mem hm)
  refine ⟨lb, la, lc, h1, h2, h4, ?_⟩
  have hc := fun (hin : L[m] ∈ T[v].map Prod.fst) => add_old hT hx hR.srt (fun r hr => ⟨by have := (s2 r hr).1; omega, by have := (s2 r hr).2; omega⟩) (by omega) h5 (by omega) i hin
  have hc2 := fun (hin : L[m] ∉ T[v].map Prod.fst) => add_new hT hx hR.srt (fun r hr => ⟨by have := (s2 r hr).1; omega, by have := (s2 r hr).2; omega⟩) (by omega) h5 (by omega) i hin
  have hcc : Calls Try.prog 36 #[.pointer (some ⟨tb, 0, none⟩), .int .i64 (v : Nat), .slice la L[m].length lc, .int .i64 i] wr (TAddPost lo ρ tb ob nv oc K g T v T[v] L[m] i wr) := by
    by_cases hin : L[m] ∈ T[v].map Prod.fst
    · exact hc hin
    · exact hc2 hin
  refine hcc.mono ?_
  rintro e w' ⟨rfl, p, ρ', q1, q2, q3, q4⟩
  exact ⟨rfl, hT.below q3 hl hg, ρ', _, q2, hE3.add hx q1 i, hA.go q3 q4, (q4 C (lt_of_block hCb)).trans hC, (q3.block C (lt_of_block hCb) (fun h => h hC)).trans hCb⟩
end
/-- The table stands, and nothing is in. -/
theorem tab_start {w1 W W2 : World} {K : Int} {g : GramD} {nv : Nat} {cs : List Value} (hW : Grow w1 W) (hown : W2.ownsRow w1.heap.size 41 1 (.slice (some ⟨W.heap.size, 0, none⟩) nv nv) nv cs) (hcs : cs = List.replicate nv (.slice none 0 0)) (hgr : W.grownBy W2 none) :
    OfI w1.heap.size W2.heap.size W.heap.size nv nv K g [] w1 (W2.alloc (.cells #[.int .i64 K, .slice (some ⟨W.heap.size, 0, none⟩) nv nv, g.tv, g.vv, g.rv] 54)) := by
  have hg2 : Grow W W2 := ⟨hgr.os, hgr.tape, hgr.output, hgr.size, fun k hk => hgr.block k hk (by simp)⟩
  have hol := own_lt hown (k := W.heap.size) rfl
  have hfz : W2.frozen? ⟨W.heap.size, 0, none⟩ = false ∨ True := .inr trivial
  refine ⟨(hW.trans hg2).trans (grow_one _ _), fun k => if k = W2.heap.size then .tab else if k = W.heap.size then .outer else .other, List.replicate nv [], ⟨⟨heap_alloc_this _ _, if_pos rfl, ?_, ?_, hol.2, ?_, ?_, fun k hk => ?_, fun k hk => ?_⟩, by simp, fun v x hx => ?_⟩, tof_nil nv⟩
  · show (if _ then _ else _) = _
    rw [if_neg (by omega), if_pos rfl]
  · exact Nat.le_trans (Nat.le_trans hW.size hg2.size) (Nat.le_refl _)
  · rw [World.size_alloc]; have := hW.size; have := hg2.size; omega
  · rw [World.size_alloc]; omega
  · rw [World.size_alloc] at hk
    show (if _ then _ else if _ then _ else _) = _
    rw [if_neg (by omega), if_neg (by omega)]
  · show (if _ then _ else if _ then _ else _) = _
    have := hW.size
    have := hg2.size
    rw [if_neg (by omega), if_neg (by omega)]
  · have hv : v < nv := by have := (List.getElem?_eq_some_iff.1 hx).1; simpa using this
    rw [List.getElem?_replicate, if_pos hv] at hx
    injection hx with hx
    subst hx
    have hc : W2.cell? ⟨W.heap.size, v, none⟩ = some (.slice none 0 0) := by
      rw [hown.cellAt v (by omega), hcs, List.getElem?_replicate, if_pos hv]
    refine ⟨.slice none 0 0, [], cell_alloc_keep hol.1 hc, ?_, ⟨World.ownsRow_nil _ _ _ _, fun k hk => by simp [Value.ownBlock] at hk⟩, rfl, fun i r y hr _ => by simp at hr⟩
    rcases hown.2 with ⟨h0, _⟩ | ⟨g', cap', cur, e, _, hcur, _⟩
    · cases h0
    · injection e with e1
      injection e1 with e1
      injection e1 with e1
      subst e1
      exact frozen_alloc_keep hol.1 (free_of_block hcur)
def TOfPost (K : Int) (g : GramD) (F Fo : List Wds) (w : World) (e : Ending) (w' : World) : Prop :=
  ∃ tb, e = .returned (.pointer (some ⟨tb, 0, none⟩)) ∧ Below w.heap.size w w' ∧ ∃ lo ob oc ρ T, TabM lo ρ tb ob g.vars.length oc K g T w' ∧ TOf (addsOf K g F Fo g.rules.length) T
set_option maxRecDepth 100000 in
set_option maxHeartbeats 4000000 in
theorem tof_any {w : World} {g gs : GramD} {B : Nat} (hg : GramAt w B g) (hgs : GramAt w B gs) (hrr : rulesOf gs = rulesOf g) (hvv : gs.vars.length = g.vars.length) (hB : B ≤ w.heap.size) {K n : Int} {sb : Nat} {F Fo : List Wds} (hS : GoodSets K n gs sb F Fo w) (hK : 1 ≤ K ∧ K ≤ 2) (hnv : 0 < g.vars.length ∧ g.vars.length ≤ 8) (hR : GoodR g.vars.length (rulesOf g)) (hrl : g.rules.length ≤ 24) (hleft : ∀ i (h : i < g.rules.length), 0 ≤ g.rules[i].left) (hleft2 : ∀ i (h : i < gs.rules.length), 0 ≤ gs.rules[i].left) :
    Calls Try.prog 11 #[GV g, .pointer (some ⟨sb, 0, none⟩)] w (TOfPost K g F Fo w) := by
  unfold GoodSets at hS
  rw [hrr, hvv] at hS
  have hrl2 : gs.rules.length = g.rules.length := by have := congrArg List.length hrr; simpa [rulesOf] using this
  obtain ⟨hSR, hSF, hSD, -⟩ := hS
  have hFF := sysF_ok hK.2 hR hSF
  have hDD := sysD_ok hK.2 hR hSD
  obtain ⟨hv1, hv2⟩ := hnv
  obtain ⟨i0, hi0, hz0, hz1, hz2⟩ := info_parts info41
  have hbx := heap_alloc_this w (.cells #[.slice g.ta g.terms.length g.tc, .slice g.va g.vars.length g.vc, .slice g.ra g.rules.length g.rc] 25)
  have hgw := grow_one w (.cells #[.slice g.ta g.terms.length g.tc, .slice g.va g.vars.length g.vc, .slice g.ra g.rules.length g.rc] 25)
  obtain ⟨pb, pc, qb, qc, bs, lo0, lvs, hSB, -⟩ := hSR.ex
  have c0 : w.cell? ⟨sb, 0, none⟩ = some (.int .i64 K) := cell_of_block (off := 0) hSB.blk
  have hsb := lt_of_block hSB.blk
  have hs1 : (w.alloc (.cells #[.slice g.ta g.terms.length g.tc, .slice g.va g.vars.length g.vc, .slice g.ra g.rules.length g.rc] 25)).heap.size = w.heap.size + 1 := World.size_alloc _ _
  have HW1 : Hid (∀ W, Grow (w.alloc (.cells #[.slice g.ta g.terms.length g.tc, .slice g.va g.vars.length g.vc, .slice g.ra g.rules.length g.rc] 25)) W → (W.cell? ⟨sb, 0, none⟩ = some (.int .i64 K) ∧ W.cell? ⟨w.heap.size, 0, none⟩ = some (.slice g.ta g.terms.length g.tc) ∧ W.cell? ⟨w.heap.size, 1, none⟩ = some (.slice g.va g.vars.length g.vc) ∧ W.cell? ⟨w.heap.size, 2, none⟩ = some (.slice g.ra g.rules.length g.rc)) ∧ RulesAt W B g.ra g.rules ∧ B ≤ W.heap.size) := Lib.hid (fun W hb => by
    have h1 : W.heap[w.heap.size]? = _ := (hb.block w.heap.size (by omega)).trans hbx
    exact ⟨⟨(below_cell (hgw.trans hb) hsb).trans c0, cell_of_block (off := 0) h1, cell_of_block (off := 1) h1, cell_of_block (off := 2) h1⟩, (hg.below ((hgw.trans hb).mono hB)).rules, Nat.le_trans hB (hgw.trans hb).size⟩)
  have HLK : Hid (∀ W k, Grow (w.alloc (.cells #[.slice g.ta g.terms.length g.tc, .slice g.va g.vars.length g.vc, .slice g.ra g.rules.length g.rc] 25)) W → k < g.rules.length → Calls Try.prog 34 #[.pointer (some ⟨sb, 0, none⟩), .int .i64 (k : Nat)] W (PtrB (lookL K g F Fo k) W)) := Lib.hid (fun W k hb hk => by
    rw [← lookL_same hrr]
    exact look_any (hSR.go (hgw.trans hb)) hK (by rw [hrr]; exact hR) (hgs.below ((hgw.trans hb).mono hB)) (Nat.le_trans hB (hgw.trans hb).size) hFF hDD hleft2 (by omega))
  have hokl : ∀ k, OkW (lookL K g F Fo k) ∧ Sorted (lookL K g F Fo k) := fun k => by
    by_cases hk : k < g.rules.length
    · rw [lookL_at hk]
      obtain ⟨_, h2, _⟩ := hR _ (List.mem_of_getElem? (rulesOf_at hk))
      exact ⟨okW_ahead hFF hK.2 h2 (hDD _), sorted_ahead _ _ _ _⟩
    · unfold lookL
      rw [List.getElem?_eq_none (by omega)]
      exact ⟨fun w hw => by simp at hw, fun i j a b _ h _ => by simp at h⟩
  have HOKL := Lib.hid hokl
  have HEL : Hid (∀ n, (addsOf K g F Fo n).length ≤ 43 * n ∧ ∀ e ∈ addsOf K g F Fo n, e.2.1.length ≤ 2) := Lib.hid (fun n => ⟨addsOf_len (fun k => okW_few (hokl k).2 (hokl k).1) n, addsOf_short (fun k => (hokl k).1) n⟩)
  have HLF : Hid (∀ k (h : k < g.rules.length), leftN g k < g.vars.length ∧ g.rules[k].left = (leftN g k : Int)) := Lib.hid (fun k hk => by
    obtain ⟨h1, _, _⟩ := hR _ (List.mem_of_getElem? (rulesOf_at hk))
    rw [leftN_at hk]
    exact ⟨h1, by have := hleft k hk; omega⟩)
  have HP : Hid (∀ tb ob oc W, OfI (w.heap.size + 1) tb ob g.vars.length oc K g (addsOf K g F Fo g.rules.length) (w.alloc (.cells #[.slice g.ta g.terms.length g.tc, .slice g.va g.vars.length g.vc, .slice g.ra g.rules.length g.rc] 25)) W → TOfPost K g F Fo w (.returned (.pointer (some ⟨tb, 0, none⟩))) W) := Lib.hid (fun tb ob oc W h => by
    obtain ⟨h1, ρ, T, h2, h3⟩ := h
    exact ⟨tb, rfl, Grow.trans hgw h1, _, ob, oc, ρ, T, h2, h3⟩)
  have HGD := Lib.hid (grow_drew (w.alloc (.cells #[.slice g.ta g.terms.length g.tc, .slice g.va g.vars.length g.vc, .slice g.ra g.rules.length g.rc] 25)))
  obtain ⟨W2, hmk, hown, hgr⟩ := run_make_full (P := Try.prog) (w.alloc (.cells #[.slice g.ta g.terms.length g.tc, .slice g.va g.vars.length g.vc, .slice g.ra g.rules.length g.rc] 25)).drew (w.heap.size + 1) 52 41 i0 (.slice none 0 0) 1 Try.underlying52 hi0 hz0 hz1 .i64 .i64 g.vars.length (by rw [hz2]; omega) (by unfold maxLen; omega) (Nat.le_of_eq hs1.symm)
  have HTS := Lib.hid (tab_start (K := K) (g := g) HGD.out (by rw [hs1]; exact hown) (by rw [show (Value.slice none 0 0).cells = #[.slice none 0 0] from rfl, toList_madeCells_one, Nat.mul_one]) hgr)
  have HGM : Hid (Grow (w.alloc (.cells #[.slice g.ta g.terms.length g.tc, .slice g.va g.vars.length g.vc, .slice g.ra g.rules.length g.rc] 25)) W2) := Lib.hid (HGD.out.trans ⟨hgr.os, hgr.tape, hgr.output, hgr.size, fun k hk => hgr.block k hk (by simp)⟩)
  have hd1 : (w.alloc (.cells #[.slice g.ta g.terms.length g.tc, .slice g.va g.vars.length g.vc, .slice g.ra g.rules.length g.rc] 25)).drew.heap.size = w.heap.size + 1 := hs1
  rw [hd1] at hmk
  rw [hd1, hs1] at HTS
  unfold GramD.tv GramD.vv GramD.rv at HTS
  clear hown hgr hgw hbx hSB c0 hsb hd1 hSR hSF hSD hFF hDD hokl hg hgs hrr hvv hrl2
  have HS1 := Lib.hid hs1
  clear hs1
  unfold GV
  generalize TOfPost K g F Fo w = Po at *
  obtain ⟨s0, s1, s2, s3⟩ := (HW1.out _ HGD.out).1
  obtain ⟨m0, m1, m2, m3⟩ := (HW1.out _ HGM.out).1
  obtain ⟨t0, t1, t2, t3⟩ := (HW1.out _ (HGM.out.trans (grow_one _ (.cells #[.int .i64 K, .slice (some ⟨w.heap.size + 1, 0, none⟩) g.vars.length g.vars.length, .slice g.ta g.terms.length g.tc, .slice g.va g.vars.length g.vc, .slice g.ra g.rules.length g.rc] 54)))).1
  go_enter Try.func11, Try.ntmps11
  go_wp2_with fail
  refine wp_region_held_drew (S := fun w' => w'.cell? ⟨sb, 0, none⟩ = some (.int .i64 K) ∧ w'.cell? ⟨w.heap.size, 0, none⟩ = some (.slice g.ta g.terms.length g.tc) ∧ w'.cell? ⟨w.heap.size, 1, none⟩ = some (.slice g.va g.vars.length g.vc) ∧ w'.cell? ⟨w.heap.size, 2, none⟩ = some (.slice g.ra g.rules.length g.rc)) (by kernel_rfl) (⟨s0, s1, s2, s3⟩) (fun hHeld => ?_)
  refine wpAnyH_take (i := 0) (v := ?_) rfl (by kernel_rfl) (by kernel_rfl) (by kernel_rfl) (fun _ _ _ h => h) (Or.inl ⟨by rfl, ?_⟩) (by with_reducible assumption) ?_
  rotate_left
  · intro w hSw
    try dsimp only at hSw
    go_simp
    try with_reducible rfl
  try simp only [Act.put, List.setIfInBounds_toArray]
  refine wpAnyH_take (i := 1) (v := ?_) rfl (by kernel_rfl) (by kernel_rfl) (by kernel_rfl) (fun _ _ _ h => h) (Or.inl ⟨by rfl, ?_⟩) (by with_reducible assumption) ?_
  rotate_left
  · intro w hSw
    try dsimp only at hSw
    go_simp
    try with_reducible rfl
  try simp only [Act.put]
  refine wpAnyH_take (i := 2) (v := ?_) rfl (by kernel_rfl) (by kernel_rfl) (by kernel_rfl) (fun _ _ _ h => h) (Or.inl ⟨by rfl, ?_⟩) (by with_reducible assumption) ?_
  rotate_left
  · intro w hSw
    try dsimp only at hSw
    go_simp
    try with_reducible rfl
  try simp only [Act.put]
  refine wpAnyH_take (i := 3) (v := ?_) rfl (by kernel_rfl) (by kernel_rfl) (by kernel_rfl) (fun _ _ _ h => h) (Or.inl ⟨by rfl, ?_⟩) (by with_reducible assumption) ?_
  rotate_left
  · intro w hSw
    try dsimp only at hSw
    go_simp
    try with_reducible rfl
  try simp only [Act.put]
  refine wpAnyH_take (i := 4) (v := ?_) rfl (by kernel_rfl) (by kernel_rfl) (by kernel_rfl) (fun _ _ _ h => h) (Or.inl ⟨by rfl, ?_⟩) (by with_reducible assumption) ?_
  rotate_left
  · intro w hSw
    try dsimp only at hSw
    go_simp
    try with_reducible rfl
  try simp only [Act.put]
  refine wpAnyH_take (i := 5) (v := ?_) rfl (by kernel_rfl) (by kernel_rfl) (by kernel_rfl) (fun _ _ _ h => h) (Or.inl ⟨by rfl, ?_⟩) (by with_reducible assumption) ?_
  rotate_left
  · intro w hSw
    try dsimp only at hSw
    go_simp
    try with_reducible rfl
  try simp only [Act.put]
  refine wpAnyH_take (i := 6) (v := ?_) rfl (by kernel_rfl) (by kernel_rfl) (by kernel_rfl) (fun _ _ _ h => h) (Or.inl ⟨by rfl, ?_⟩) (by with_reducible assumption) ?_
  rotate_left
  · intro w hSw
    try dsimp only at hSw
    go_simp
    try with_reducible rfl
  try simp only [Act.put]
  refine wpAnyH_take (i := 8) (v := ?_) rfl (by kernel_rfl) (by kernel_rfl) (by kernel_rfl) (fun _ _ _ h => h) (Or.inl ⟨by rfl, ?_⟩) (by with_reducible assumption) ?_
  rotate_left
  · intro w hSw
    try dsimp only at hSw
    go_simp
    try with_reducible rfl
  try simp only [Act.put]
  refine wpAnyH_ready (rs := [7]) (by kernel_rfl) (by simp) ?_
  refine AllReadyH.cons (o := _) rfl (fun K hK => ?_) ?_
  · go_simp
    refine hK.out _ _ (⟨m0, m1, m2, m3⟩) (fun hHeld => ?_)
    clear hK K
    try simp only [Act.put, List.setIfInBounds_toArray, List.set_cons_zero, List.set_cons_succ]
    refine wpAnyH_take (i := 9) (v := ?_) rfl (by kernel_rfl) (by kernel_rfl) (by kernel_rfl) (fun _ _ _ h => h) (Or.inl ⟨by rfl, ?_⟩) (by with_reducible assumption) ?_
    rotate_left
    · intro w hSw
      try dsimp only at hSw
      go_simp
      try with_reducible rfl
    try simp only [Act.put, List.setIfInBounds_toArray]
    refine wpAnyH_ready (rs := [10]) (by kernel_rfl) (by simp) ?_
    refine AllReadyH.cons (o := _) rfl (fun K hK => ?_) ?_
    · go_simp
      refine hK.out _ _ (⟨t0, t1, t2, t3⟩) (fun hHeld => ?_)
      clear hK K
      try simp only [Act.put, List.setIfInBounds_toArray, List.set_cons_zero, List.set_cons_succ]
      refine wpAnyH_take (i := 11) (v := ?_) rfl (by kernel_rfl) (by kernel_rfl) (by kernel_rfl) (fun _ _ _ h => h) (Or.inl ⟨by rfl, ?_⟩) (by with_reducible assumption) ?_
      rotate_left
      · intro w hSw
        try dsimp only at hSw
        go_simp
        try with_reducible rfl
      try simp only [Act.put, List.setIfInBounds_toArray]
      refine wpAnyH_done (by kernel_rfl) ?_ _
      go_wp2_with fail
      clear s0 s1 s2 s3 m0 m1 m2 m3 t0 t1 t2 t3 hmk HGM HGD hHeld hi0 hz0 hz1 hz2
      generalize W2.alloc (.cells #[.int .i64 K, .slice (some ⟨w.heap.size + 1, 0, none⟩) g.vars.length g.vars.length, .slice g.ta g.terms.length g.tc, .slice g.va g.vars.length g.vc, .slice g.ra g.rules.length g.rc] 54) = W3 at *
      generalize w.alloc (.cells #[.slice g.ta g.terms.length g.tc, .slice g.va g.vars.length g.vc, .slice g.ra g.rules.length g.rc] 25) = w1 at *
      generalize W2.heap.size = tb at *
      generalize g.ra = ra at *
      go_loopw [24] (fun i wr => ∃ k : Nat, k ≤ g.rules.length ∧ i = .int .i64 k ∧ Hid (OfI (w.heap.size + 1) tb (w.heap.size + 1) g.vars.length g.vars.length K g (addsOf K g F Fo k) w1 wr)) (fun i _ => g.rules.length - (intOf i).toNat)
      case atStart => exact ⟨0, by omega, rfl, HTS⟩
      case round =>
        clear HTS
        obtain ⟨k, hk, rfl, hh⟩ := hrel
        by_cases hkt : k < g.rules.length
        · have hki : (k : Int) < g.rules.length := by omega
          obtain ⟨-, hru, hBW⟩ := HW1.out wr hh.out.1
          obtain ⟨rb, off, rfl, hrb, r0, r1, r2, -, -⟩ := hru k hkt
          obtain ⟨hlv, hle⟩ := HLF.out k hkt
          rw [hle] at r0
          have HLA := Lib.hid (HLK.out (wr.alloc (.cells #[.int .i64 (leftN g k : Int), .slice g.rules[k].ra g.rules[k].right.length g.rules[k].rc, .float .f64 g.rules[k].wt] 64)) k (hh.out.1.trans (grow_one _ _)) hkt)
          have HC0 := Lib.hid (heap_alloc_this wr (.cells #[.int .i64 (leftN g k : Int), .slice g.rules[k].ra g.rules[k].right.length g.rules[k].rc, .float .f64 g.rules[k].wt] 64))
          have HG0 := Lib.hid (grow_one wr (.cells #[.int .i64 (leftN g k : Int), .slice g.rules[k].ra g.rules[k].right.length g.rules[k].rc, .float .f64 g.rules[k].wt] 64))
          have HHH := hh
          obtain ⟨hLo, hLs⟩ := HOKL.out k
          obtain ⟨hE1, hE2⟩ := HEL.out k
          have hL1 := okW_few hLs hLo
          have hL2 : ∀ l ∈ lookL K g F Fo k, l.length ≤ 2 := fun l hl => (hLo l hl).1
          have HADD := Lib.hid (addsOf_succ K g F Fo k)
          have hle1 : List.length (addsOf K g F Fo k) ≤ 1100 := by omega
          have HE := Lib.hid (And.intro hle1 (And.intro hE2 hL2))
          clear hru hh hle hLo hLs hE1 hE2 hL2
          go_wp2_with fail
          generalize wr.alloc (.cells #[.int .i64 (leftN g k : Int), .slice g.rules[k].ra g.rules[k].right.length g.rules[k].rc, .float .f64 g.rules[k].wt] 64) = wa at *
          refine HLA.out.mono ?_
          rintro e w2 ⟨ob2, rfl, hsb2, hg2⟩
          generalize lookL K g F Fo k = L at *
          generalize addsOf K g F Fo k = E at *
          have HAL := Lib.hid (all_any hsb2 (fun y hy => by have := HE.out.2.2 y hy; omega) (by omega))
          have HG2 := Lib.hid hg2
          clear hsb2 hg2 HLA r0 r1 r2
          go_wp2_with fail
          refine HAL.out.mono ?_
          rintro e w3 ⟨v3, rfl, hmd, hg3⟩
          have hJ : ∃ a c, v3 = .slice a L.length c ∧ Hid (OfJ (w.heap.size + 1) tb (w.heap.size + 1) g.vars.length g.vars.length K g E a L wr.heap.size #[.int .i64 (leftN g k : Int), .slice g.rules[k].ra g.rules[k].right.length g.rules[k].rc, .float .f64 g.rules[k].wt] w1 w3) := by
            obtain ⟨q1, ρ, T, q2, q3⟩ := HHH.out
            have q4 := q2.grow ((HG0.out.trans HG2.out).trans hg3)
            have q5 := q2.grow (HG0.out.trans HG2.out)
            obtain ⟨a, c, q6, q7⟩ := made_alls hmd q5.base.fresh
            exact ⟨a, c, q6, q1.trans ((HG0.out.trans HG2.out).trans hg3), ρ, T, q4, q3, q7, q2.base.fresh _ (Nat.le_refl _), ((HG2.out.trans hg3).block _ (lt_of_block HC0.out)).trans HC0.out⟩
          obtain ⟨a, c, rfl, HJ⟩ := hJ
          clear hmd hg3 HAL HG2 HG0 HC0 HHH
          go_wp2_with fail
          go_loopw [34] (fun i ws => ∃ m : Nat, m ≤ L.length ∧ i = .int .i64 m ∧ Hid (OfJ (w.heap.size + 1) tb (w.heap.size + 1) g.vars.length g.vars.length K g (E ++ (L.take m).map (fun l => (leftN g k, l, (k : Int)))) a L wr.heap.size #[.int .i64 (leftN g k : Int), .slice g.rules[k].ra g.rules[k].right.length g.rules[k].rc, .float .f64 g.rules[k].wt] w1 ws)) (fun i _ => L.length - (intOf i).toNat)
          case atStart => exact ⟨0, by omega, rfl, by simpa using HJ⟩
          case round =>
            clear HJ
            obtain ⟨m, hm, rfl, hj⟩ := hrel
            obtain ⟨wo, rfl⟩ : ∃ x, x = wr := ⟨_, rfl⟩
            by_cases hmt : m < L.length
            · have hmi : (m : Int) < L.length := by omega
              have hJ := hj.out.add HS1.out (by rw [List.length_append, List.length_map, List.length_take]; omega) (fun e he => by
                rcases List.mem_append.1 he with he | he
                · exact HE.out.2.1 e he
                · obtain ⟨l, hl, rfl⟩ := List.mem_map.1 he
                  exact HE.out.2.2 l (List.mem_of_mem_take hl)) HE.out.2.2 hlv hmt (k : Int)
              obtain ⟨lb, la, lc, rfl, hlb, hcell, hcall⟩ := hJ
              have HCA := Lib.hid hcall
              have hcb := cell_of_block (off := 0) hj.out.blk
              simp at hcb
              clear hcall hj
              go_wp2_with fail
              refine HCA.out.mono ?_
              rintro e w5 ⟨rfl, hj5⟩
              have HJ5 := Lib.hid hj5
              clear hj5 HCA hcell hcb
              go_wp2_with fail
              go_roundw
              case rel =>
                refine ⟨m + 1, by omega, by go_num, ?_⟩
                rw [List.take_succ_eq_append_getElem hmt, List.map_append, ← List.append_assoc]
                exact HJ5
              case measure => simp [intOf]; omega
            · have hmi : ¬ (m : Int) < L.length := by omega
              go_wp2_with fail
              go_roundw
              case rel =>
                refine ⟨k + 1, by omega, by go_num, ?_⟩
                rw [HADD.out]
                have hj2 := hj.out
                rw [List.take_of_length_le (by omega)] at hj2
                exact Lib.hid hj2.fst
              case measure => simp [intOf]; omega
        · have hki : ¬ (k : Int) < g.rules.length := by omega
          obtain rfl : k = g.rules.length := by omega
          have HH := hh
          clear hh
          go_wp2_with fail
          exact HP.out _ _ _ _ HH.out
    exact AllReadyH.nil
  exact AllReadyH.nil
end Go.Proofs.Ytmiiolgbjicocaa
