/- Which rules clash: the walk of Clashes. -/
import Derived.Test.YtmiiolgbjicocaaBothW
import Derived.Test.YtmiiolgbjicocaaGRules
namespace Go.Proofs.Ytmiiolgbjicocaa
open Go.RowKit
theorem info59 : (Try.prog.info? 59).map (fun i => (i.zero, i.size, i.bytes)) = some (some (.agg #[.int .i64 0, .int .i64 0, .int .i64 0, .slice none 0 0]), 4, 48) := by kernel_rfl
/-- A clash: variable, rules, lookahead. -/
abbrev ClD := Nat × Nat × Nat × List Int
def flatC : List (ClD × Value) → List Value
  | [] => []
  | d :: t => .int .i64 (d.1.1 : Nat) :: .int .i64 (d.1.2.1 : Nat) :: .int .i64 (d.1.2.2.1 : Nat) :: d.2 :: flatC t
theorem flatC_app : ∀ a b : List (ClD × Value), flatC (a ++ b) = flatC a ++ flatC b
  | [], b => rfl
  | d :: t, b => by simp [flatC, flatC_app t b]
theorem flatC_get : ∀ (ds : List (ClD × Value)) (i : Nat) (d : ClD × Value), ds[i]? = some d → (flatC ds)[i * 4]? = some (.int .i64 (d.1.1 : Nat)) ∧ (flatC ds)[i * 4 + 1]? = some (.int .i64 (d.1.2.1 : Nat)) ∧ (flatC ds)[i * 4 + 2]? = some (.int .i64 (d.1.2.2.1 : Nat)) ∧ (flatC ds)[i * 4 + 3]? = some d.2
  | [], i, d, h => by simp at h
  | d0 :: t, 0, d, h => by
    simp at h
    subst h
    exact ⟨rfl, rfl, rfl, rfl⟩
  | d0 :: t, i + 1, d, h => by
    have h1 := flatC_get t i d (by simpa using h)
    have e : (i + 1) * 4 = i * 4 + 1 + 1 + 1 + 1 := by omega
    rw [e]
    exact h1
def COut (w : World) (base : Nat) (v : Value) (C : List ClD) : Prop :=
  ∃ ds : List (ClD × Value), ds.map Prod.fst = C ∧ w.ownsRow base 59 4 v ds.length (flatC ds) ∧ ∀ d ∈ ds, Own w base d.2 d.1.2.2.2
theorem COut.grow {w w' : World} {base : Nat} {v : Value} {C : List ClD} (h : COut w base v C) (hg : Grow w w') : COut w' base v C := by
  obtain ⟨ds, h1, h2, h3⟩ := h
  exact ⟨ds, h1, own_stay h2 (fun k hk => hg.block k (own_lt h2 hk).1), fun d hd => (h3 d hd).below hg⟩
theorem clash_type {w : World} {base n : Nat} {v : Value} {xs : List Value} (h : w.ownsRow base 59 4 v n xs) {k : Nat} (hk : v.ownBlock = some k) : ∃ cs, w.heap[k]? = some (.cells cs 59 (0, 0)) := by
  rcases h.2 with ⟨rfl, _⟩ | ⟨g, cap, cur, rfl, _, hh, _⟩
  · simp [Value.ownBlock] at hk
  · simp [Value.ownBlock] at hk
    subst hk
    exact ⟨cur, hh⟩
theorem cout_snoc {w w' : World} {base n : Nat} {v v' : Value} {ds : List (ClD × Value)} {u : Value} {c : ClD} (h2 : w.ownsRow base 59 4 v ds.length (flatC ds)) (h3 : ∀ d ∈ ds, Own w base d.2 d.1.2.2.2) (hu : Own w base u c.2.2.2) (hgr : w.grownBy w' v.ownBlock) (ho : w'.ownsRow base 59 4 v' n (flatC ds ++ [.int .i64 (c.1 : Nat), .int .i64 (c.2.1 : Nat), .int .i64 (c.2.2.1 : Nat), u])) (hn : n = ds.length + 1) : COut w' base v' (ds.map Prod.fst ++ [c]) := by
  have hst : ∀ {u : Value} {xs : List Int}, Own w base u xs → Own w' base u xs := fun {u xs} hu => hu.kept (fun k hk => hgr.block k (hu.lt hk).1 (fun e => by
    obtain ⟨cs, q1⟩ := own_type hu hk
    obtain ⟨es, q2⟩ := clash_type h2 e.symm
    rw [q1] at q2
    injection q2 with q2
    injection q2 with _ q2
    exact absurd q2 (by decide)))
  subst hn
  refine ⟨ds ++ [(c, u)], by rw [List.map_append]; rfl, ?_, fun d hd => ?_⟩
  · rw [List.length_append, flatC_app]
    exact ho
  · rcases List.mem_append.1 hd with hd | hd
    · exact hst (h3 d hd)
    · obtain rfl := List.mem_singleton.1 hd
      exact hst hu
/-- How a list of clashes is read. -/
theorem cout_form {w : World} {base : Nat} {v : Value} {C : List ClD} (h : COut w base v C) : ∃ a c, v = .slice a C.length c := by
  obtain ⟨ds, rfl, h1, -⟩ := h
  rw [List.length_map]
  rcases h1.2 with ⟨rfl, h0⟩ | ⟨g, cap, cur, rfl, _⟩
  · exact ⟨none, 0, by rw [h0]⟩
  · exact ⟨_, cap, rfl⟩
theorem cout_at {w : World} {base n c : Nat} {a : Option Addr} {C : List ClD} (h : COut w base (.slice a n c) C) {i : Nat} (hi : i < C.length) : ∃ rb la lc, a = some ⟨rb, 0, none⟩ ∧ rb < w.heap.size ∧ w.cell? ⟨rb, i * 4, none⟩ = some (.int .i64 (C[i].1 : Nat)) ∧ w.cell? ⟨rb, i * 4 + 1, none⟩ = some (.int .i64 (C[i].2.1 : Nat)) ∧ w.cell? ⟨rb, i * 4 + 2, none⟩ = some (.int .i64 (C[i].2.2.1 : Nat)) ∧ w.cell? ⟨rb, i * 4 + 3, none⟩ = some (.slice la C[i].2.2.2.length lc) ∧ Lst w la C[i].2.2.2 := by
  obtain ⟨ds, rfl, h1, h3⟩ := h
  have hid : i < ds.length := by simpa using hi
  have hr := List.getElem?_eq_getElem hid
  obtain ⟨la, lc, d1, -, d3, -⟩ := (h3 _ (List.getElem_mem hid)).shape
  obtain ⟨f1, f2, f3, f4⟩ := flatC_get ds i _ hr
  rw [List.getElem_map]
  rcases h1.2 with ⟨_, h0⟩ | ⟨g, cap, cur, hv, _, hcur, _⟩
  · omega
  · injection hv with hv1 hv2 hv3
    subst hv1 hv2 hv3
    refine ⟨g, la, lc, rfl, lt_of_block hcur, ?_, ?_, ?_, ?_, d3⟩
    · rw [h1.cellAt (i * 4) (by omega), f1]
    · rw [h1.cellAt (i * 4 + 1) (by omega), f2]
    · rw [h1.cellAt (i * 4 + 2) (by omega), f3]
    · rw [h1.cellAt (i * 4 + 3) (by omega), f4, d1]
/-- Do two rules clash? -/
def clOf (rs : List RuleD) (x : List TRow) (v a b : Nat) : Option ClD := match rs[a]?, rs[b]? with
  | some r, some s => if r.left = v ∧ s.left = v ∧ a < b then (bothT x a b).map (fun l => (v, a, b, l)) else none
  | _, _ => none
def clB (rs : List RuleD) (x : List TRow) (v a n : Nat) : List ClD := (List.range n).filterMap (clOf rs x v a)
def clA (rs : List RuleD) (x : List TRow) (v n : Nat) : List ClD := (List.range n).flatMap (fun a => clB rs x v a rs.length)
def clV (rs : List RuleD) (T : List (List TRow)) (n : Nat) : List ClD := (List.range n).flatMap (fun v => clA rs (T.getD v []) v rs.length)
theorem filterMap_more {α : Type} {f : Nat → Option α} {n m : Nat} (h : n ≤ m) (hf : ∀ i, n ≤ i → i < m → f i = none) : (List.range m).filterMap f = (List.range n).filterMap f := by
  obtain ⟨d, rfl⟩ : ∃ d, m = n + d := ⟨m - n, by omega⟩
  clear h
  induction d with
  | zero => rfl
  | succ d ih =>
    rw [← Nat.add_assoc, List.range_succ, List.filterMap_append, ih (fun i h1 h2 => hf i h1 (by omega))]
    have := hf (n + d) (by omega) (by omega)
    simp [this]
theorem flatMap_more {α : Type} {f : Nat → List α} {n m : Nat} (h : n ≤ m) (hf : ∀ i, n ≤ i → i < m → f i = []) : (List.range m).flatMap f = (List.range n).flatMap f := by
  obtain ⟨d, rfl⟩ : ∃ d, m = n + d := ⟨m - n, by omega⟩
  clear h
  induction d with
  | zero => rfl
  | succ d ih =>
    rw [← Nat.add_assoc, List.range_succ, List.flatMap_append, ih (fun i h1 h2 => hf i h1 (by omega)), List.flatMap_singleton, hf (n + d) (by omega) (by omega), List.append_nil]
theorem clOf_at {rs : List RuleD} {x : List TRow} {v a b : Nat} (ha : a < rs.length) (hb : b < rs.length) : clOf rs x v a b = if rs[a].left = v ∧ rs[b].left = v ∧ a < b then (bothT x a b).map (fun l => (v, a, b, l)) else none := by
  unfold clOf
  rw [List.getElem?_eq_getElem ha, List.getElem?_eq_getElem hb]
theorem clOf_none {rs : List RuleD} {x : List TRow} {v a b : Nat} (h : ∀ (ha : a < rs.length) (hb : b < rs.length), ¬ (rs[a].left = v ∧ rs[b].left = v ∧ a < b)) : clOf rs x v a b = none := by
  by_cases ha : a < rs.length
  · by_cases hb : b < rs.length
    · rw [clOf_at ha hb, if_neg (h ha hb)]
    · unfold clOf
      rw [List.getElem?_eq_none (Nat.le_of_not_lt hb)]
      cases rs[a]? <;> rfl
  · unfold clOf
    rw [List.getElem?_eq_none (Nat.le_of_not_lt ha)]
theorem clB_start {rs : List RuleD} {x : List TRow} {v a : Nat} : clB rs x v a (a + 1) = [] := by
  unfold clB
  rw [filterMap_more (n := 0) (Nat.zero_le _) (fun j _ h2 => clOf_none (fun ha hb h => by have := h.2.2; omega))]
  rfl
section
variable {rs : List RuleD} {x : List TRow} {v p q : Nat} (hpq : ∀ i (h : i < rs.length), rs[i].left = v ↔ p ≤ i ∧ i < q) (hq : q ≤ rs.length)
include hpq
theorem clA_start : clA rs x v p = [] := by
  unfold clA
  rw [flatMap_more (n := 0) (Nat.zero_le _) (fun i _ h2 => ?_)]
  · rfl
  · unfold clB
    rw [filterMap_more (n := 0) (Nat.zero_le _) (fun j _ _ => clOf_none (fun ha hb h => by have := (hpq i ha).1 h.1; omega))]
    rfl
include hq
theorem clA_end : clA rs x v rs.length = clA rs x v q := by
  unfold clA
  refine flatMap_more hq (fun i h1 h2 => ?_)
  unfold clB
  rw [filterMap_more (n := 0) (Nat.zero_le _) (fun j _ _ => clOf_none (fun ha hb h => by have := (hpq i ha).1 h.1; omega))]
  rfl
theorem clB_end {a : Nat} : clB rs x v a rs.length = clB rs x v a q := by
  unfold clB
  exact filterMap_more hq (fun j h1 h2 => clOf_none (fun ha hb h => by have := (hpq j hb).1 h.2.1; omega))
theorem clB_step {a b : Nat} (h1 : p ≤ a) (h2 : a < b) (h3 : b < q) : clB rs x v a (b + 1) = clB rs x v a b ++ ((bothT x a b).map (fun l => (v, a, b, l))).toList := by
  unfold clB
  rw [List.range_succ, List.filterMap_append]
  congr 1
  have ha : a < rs.length := by omega
  have hb : b < rs.length := by omega
  have : clOf rs x v a b = (bothT x a b).map (fun l => (v, a, b, l)) := by rw [clOf_at ha hb, if_pos ⟨(hpq a ha).2 ⟨h1, by omega⟩, (hpq b hb).2 ⟨by omega, h3⟩, h2⟩]
  rw [← this]
  cases h : clOf rs x v a b <;> simp [h]
end
theorem clA_step (rs : List RuleD) (x : List TRow) (v a : Nat) : clA rs x v (a + 1) = clA rs x v a ++ clB rs x v a rs.length := by
  unfold clA
  rw [List.range_succ, List.flatMap_append, List.flatMap_singleton]
theorem clV_step (rs : List RuleD) (T : List (List TRow)) (n : Nat) : clV rs T (n + 1) = clV rs T n ++ clA rs (T.getD n []) n rs.length := by
  unfold clV
  rw [List.range_succ, List.flatMap_append, List.flatMap_singleton]
theorem clB_len (rs : List RuleD) (x : List TRow) (v a n : Nat) : (clB rs x v a n).length ≤ n := by
  unfold clB
  exact Nat.le_trans (List.length_filterMap_le _ _) (by simp)
theorem clA_len (rs : List RuleD) (x : List TRow) (v : Nat) : ∀ n, (clA rs x v n).length ≤ rs.length * n
  | 0 => Nat.le_refl _
  | n + 1 => by
    rw [clA_step, List.length_append, Nat.mul_succ]
    have := clA_len rs x v n
    have := clB_len rs x v n rs.length
    omega
theorem clV_len (rs : List RuleD) (T : List (List TRow)) : ∀ n, (clV rs T n).length ≤ rs.length * rs.length * n
  | 0 => Nat.le_refl _
  | n + 1 => by
    rw [clV_step, List.length_append, Nat.mul_succ]
    have := clV_len rs T n
    have := clA_len rs (T.getD n []) n rs.length
    omega
def ClashPost (C : List ClD) (w : World) (e : Ending) (w' : World) : Prop := ∃ v, e = .returned v ∧ COut w' w.heap.size v C ∧ Grow w w'
set_option maxRecDepth 100000 in
set_option maxHeartbeats 4000000 in
theorem clashes_any {lo tb ob nv oc : Nat} {ρ : Nat → Role} {K : Int} {g : GramD} {T : List (List TRow)} {w : World} (hT : TabM lo ρ tb ob nv oc K g T w) {B : Nat} (hg : GramAt w B g) (hB : B ≤ w.heap.size) (hs : LeftsUp g.rules) (hn : g.rules.length ≤ 256) (hnv : nv ≤ 64) (hx : ∀ (v : Nat) x, T[v]? = some x → x.length ≤ 100000 ∧ ∀ r ∈ x, r.1.length ≤ 100000 ∧ r.2.length ≤ 100000) :
    Calls Try.prog 19 #[.pointer (some ⟨tb, 0, none⟩)] w (ClashPost (clV g.rules T nv) w) := by
  obtain ⟨i4, hi4, hy0, hy1, hy2⟩ := info_parts info59
  have HW : Hid (∀ W, Grow w W → W.cell? ⟨tb, 1, none⟩ = some (.slice (some ⟨ob, 0, none⟩) nv oc) ∧ W.cell? ⟨tb, 2, none⟩ = some (.slice g.ta g.terms.length g.tc) ∧ W.cell? ⟨tb, 3, none⟩ = some (.slice g.va g.vars.length g.vc) ∧ W.cell? ⟨tb, 4, none⟩ = some (.slice g.ra g.rules.length g.rc)) := Lib.hid (fun W h => by
    have h1 := (hT.grow h).base.tab
    exact ⟨cell_of_block (off := 1) h1, cell_of_block (off := 2) h1, cell_of_block (off := 3) h1, cell_of_block (off := 4) h1⟩)
  have HR : Hid (∀ W (v : Nat), Grow w W → Calls Try.prog 43 #[GV g, .int .i64 (v : Nat)] W (GRulesPost g.rules (v : Nat) W)) := Lib.hid (fun W v h => grules_any (hg.below (h.mono hB)) (Nat.le_trans hB h.size) hs (by omega) _)
  have HBO : Hid (∀ W (v a b : Nat), Grow w W → v < nv → Calls Try.prog 44 #[.pointer (some ⟨tb, 0, none⟩), .int .i64 (v : Nat), .int .i64 (a : Nat), .int .i64 (b : Nat)] W (BothPost (bothT (T.getD v []) a b) W)) := Lib.hid (fun W v a b h hv => by
    have hvl : v < T.length := by rw [hT.len]; exact hv
    have h1 := List.getElem?_eq_getElem hvl
    obtain ⟨h2, h3⟩ := hx v _ h1
    have := both_any ((hT.grow h).read h1) h3 h2 (a : Nat) (b : Nat)
    rw [List.getD_eq_getElem?_getD, h1]
    exact this)
  have HP : Hid (∀ W o, COut W w.heap.size o (clV g.rules T nv) → Grow w W → ClashPost (clV g.rules T nv) w (.returned o) W) := Lib.hid (fun W o h1 h2 => ⟨o, rfl, h1, h2⟩)
  have HVL := Lib.hid (fun n => clV_len g.rules T n)
  have HAL := Lib.hid (fun v n => clA_len g.rules (T.getD v []) v n)
  have HBL := Lib.hid (fun v a n => clB_len g.rules (T.getD v []) v a n)
  clear hT hg hs hx
  generalize ClashPost (clV g.rules T nv) w = Po at *
  unfold GV at HR
  obtain ⟨d1, d2, d3, d4⟩ := HW.out w (Grow.refl _)
  go_enter Try.func19, Try.ntmps19
  go_wp2_with fail
  clear d1 d2 d3 d4
  go_loopw [3, 16] (fun o i wr => ∃ v : Nat, v ≤ nv ∧ i = .int .i64 v ∧ Hid (COut wr w.heap.size o (clV g.rules T v) ∧ Grow w wr)) (fun _ i _ => nv - (intOf i).toNat)
  case atStart => exact ⟨0, by omega, rfl, ⟨[], rfl, World.ownsRow_nil _ _ _ _, fun d hd => by cases hd⟩, Grow.refl _⟩
  case round =>
    obtain ⟨v, hv, rfl, hh⟩ := hrel
    obtain ⟨d1, d2, d3, d4⟩ := HW.out wr hh.out.2
    by_cases hvt : v < nv
    · have hvi : (v : Int) < nv := by omega
      have HRV := Lib.hid (HR.out wr v hh.out.2)
      go_wp2_with fail
      refine HRV.out.mono ?_
      rintro e w1 ⟨p, q, rfl, hpq, hq, hlr, hg1⟩
      have HH1 := Lib.hid (And.intro (hh.out.1.grow hg1) (hh.out.2.trans hg1))
      have HL := Lib.hid hlr
      have hvl1 := HVL.out v
      have hm1 : g.rules.length * g.rules.length ≤ 65536 := Nat.mul_le_mul hn hn
      have hm2 : g.rules.length * g.rules.length * v ≤ 65536 * 64 := Nat.mul_le_mul hm1 (by omega)
      have hDl : (clV g.rules T v).length ≤ 4194304 := by omega
      have HSTEP := Lib.hid (clV_step g.rules T v)
      clear hh hg1 hlr HRV d1 d2 d3 d4 hvl1 hm1 hm2
      generalize clV g.rules T v = D at *
      go_wp2_with fail
      go_loopw [3, 7] (fun o i wr => ∃ a : Nat, p ≤ a ∧ a ≤ q ∧ i = .int .i64 a ∧ Hid (COut wr w.heap.size o (D ++ clA g.rules (T.getD v []) v a) ∧ Grow w wr)) (fun _ i _ => q - (intOf i).toNat)
      case atStart => exact ⟨p, by omega, by omega, rfl, by rw [clA_start HL.out, List.append_nil]; exact HH1.out.1, HH1.out.2⟩
      case round =>
        clear HH1
        obtain ⟨a, hpa, haq, rfl, hh⟩ := hrel
        by_cases hat : a < q
        · have hai : (a : Int) < q := by omega
          have hal := HAL.out v a
          have hm3 : g.rules.length * a ≤ 256 * 256 := Nat.mul_le_mul hn (by omega)
          have hEl : (D ++ clA g.rules (T.getD v []) v a).length ≤ 4300000 := by rw [List.length_append]; omega
          have HSA := Lib.hid (clA_step g.rules (T.getD v []) v a)
          clear hal hm3
          have HASS : Hid (D ++ clA g.rules (T.getD v []) v (a + 1) = D ++ clA g.rules (T.getD v []) v a ++ clB g.rules (T.getD v []) v a g.rules.length) := Lib.hid (by rw [HSA.out, List.append_assoc])
          clear HSA
          generalize D ++ clA g.rules (T.getD v []) v a = E at *
          go_wp2_with fail
          go_loopw [3, 8] (fun o i wr => ∃ b : Nat, a + 1 ≤ b ∧ b ≤ q ∧ i = .int .i64 b ∧ Hid (COut wr w.heap.size o (E ++ clB g.rules (T.getD v []) v a b) ∧ Grow w wr)) (fun _ i _ => q - (intOf i).toNat)
          case atStart => exact ⟨a + 1, by omega, by omega, by go_num, by rw [clB_start, List.append_nil]; exact hh.out.1, hh.out.2⟩
          case round =>
            clear hh
            obtain ⟨b, hab, hbq, rfl, hh⟩ := hrel
            by_cases hbt : b < q
            · have hbi : (b : Int) < q := by omega
              have HBC := Lib.hid (HBO.out wr v a b hh.out.2 hvt)
              have HSB := Lib.hid (clB_step (x := T.getD v []) HL.out hq hpa (by omega) hbt)
              have hbl := HBL.out v a b
              have hFl : (E ++ clB g.rules (T.getD v []) v a b).length ≤ 4310000 := by rw [List.length_append]; omega
              have HASS2 : Hid (E ++ clB g.rules (T.getD v []) v a (b + 1) = E ++ clB g.rules (T.getD v []) v a b ++ ((bothT (T.getD v []) a b).map (fun l => (v, a, b, l))).toList) := Lib.hid (by rw [HSB.out, List.append_assoc])
              clear hbl HSB
              generalize E ++ clB g.rules (T.getD v []) v a b = F at *
              generalize bothT (T.getD v []) a b = bo at *
              go_wp2_with fail
              refine HBC.out.mono ?_
              rintro e w2 ⟨hg2, ⟨rfl, rfl⟩ | ⟨l, la, lc, rfl, rfl, hol⟩⟩
              · have HH2 := Lib.hid (And.intro (hh.out.1.grow hg2) (hh.out.2.trans hg2))
                clear hh hg2 HBC
                go_wp2_with fail
                go_roundw
                case rel => exact ⟨b + 1, by omega, by omega, by go_num, by rw [HASS2.out]; simpa using HH2.out.1, HH2.out.2⟩
                case measure => simp [intOf]; omega
              · obtain ⟨ds, hds, how, hdo⟩ := hh.out.1.grow hg2
                have hdl : ds.length ≤ 4310000 := by rw [← hds, List.length_map] at hFl; exact hFl
                have hg3 : Grow w w2 := hh.out.2.trans hg2
                have HG3 := Lib.hid (hg3.trans (grow_one w2 (.cells #[.int .i64 (v : Nat), .int .i64 (a : Nat), .int .i64 (b : Nat), .slice la l.length lc] 59)))
                have HOW := Lib.hid (own_stay how (fun k hk => (grow_one w2 (.cells #[.int .i64 (v : Nat), .int .i64 (a : Nat), .int .i64 (b : Nat), .slice la l.length lc] 59)).block k (own_lt how hk).1))
                have HDO := Lib.hid (fun d hd => Own.below (hdo d hd) (grow_one w2 (.cells #[.int .i64 (v : Nat), .int .i64 (a : Nat), .int .i64 (b : Nat), .slice la l.length lc] 59)))
                have HOL := Lib.hid (own_mono (Own.below hol (grow_one w2 (.cells #[.int .i64 (v : Nat), .int .i64 (a : Nat), .int .i64 (b : Nat), .slice la l.length lc] 59))) hh.out.2.size)
                have HDS := Lib.hid hds
                clear hh hg2 HBC hds how hdo hol hg3
                go_wp2_with (first
                  | (at_builtin; (refine wpList_append_lies _ rfl (.tmp 50) (.tmp 56) 50 rfl w.heap.size 59 i4 _ 4 48 Try.underlying50 hi4 hy0 hy1 hy2 rfl (by decide) _ ds.length _ rfl HOW.out ⟨w2.heap.size, 0, none⟩ 1 1 [.int .i64 (v : Nat), .int .i64 (a : Nat), .int .i64 (b : Nat), .slice la l.length lc] rfl rfl (World.news_of_block (cs := #[.int .i64 (v : Nat), .int .i64 (a : Nat), .int .i64 (b : Nat), .slice la l.length lc]) (t := 59) (fr := (0, 0)) (heap_alloc_new _ _)) (by simp [Value.oneCell']) (by omega) (by simp only [maxLen]; omega) (by omega) HG3.out.size (w2.heap.size + 1) (by simp) ?_); intro gb cap w3 hown hgrow hat2 hlt))
                go_roundw
                case rel =>
                  refine ⟨b + 1, by omega, by omega, by go_num, ?_, ?_⟩
                  · rw [HASS2.out, ← HDS.out]
                    exact cout_snoc (c := (v, a, b, l)) HOW.out HDO.out HOL.out hgrow hown rfl
                  · exact grow_onto HG3.out ⟨hgrow.os, hgrow.tape, hgrow.output, hgrow.size, fun k hk => hgrow.block k (Nat.lt_of_lt_of_le hk HG3.out.size) (fun e => by have := (own_lt HOW.out e.symm).2; omega)⟩
                case measure => simp [intOf]; omega
            · have hbi : ¬ (b : Int) < q := by omega
              have HH := hh
              clear hh
              obtain rfl : b = q := by omega
              go_wp2_with fail
              go_roundw
              case rel => exact ⟨a + 1, by omega, by omega, by go_num, by rw [HASS.out, clB_end HL.out hq]; exact HH.out.1, HH.out.2⟩
              case measure => simp [intOf]; omega
        · have hai : ¬ (a : Int) < q := by omega
          have HH := hh
          clear hh
          obtain rfl : a = q := by omega
          go_wp2_with fail
          go_roundw
          case rel => exact ⟨v + 1, by omega, by go_num, by rw [HSTEP.out, clA_end HL.out hq]; exact HH.out.1, HH.out.2⟩
          case measure => simp [intOf]; omega
    · have hvi : ¬ (v : Int) < nv := by omega
      have HH := hh
      clear hh
      obtain rfl : v = nv := by omega
      go_wp2_with fail
      exact HP.out _ _ HH.out.1 HH.out.2
end Go.Proofs.Ytmiiolgbjicocaa
