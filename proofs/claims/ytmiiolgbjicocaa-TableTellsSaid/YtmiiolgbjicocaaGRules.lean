/- A variable's rules: the walk of gram.Rules. -/
import Derived.Test.YtmiiolgbjicocaaTabM
import Derived.Test.YtmiiolgbjicocaaRule
namespace Go.Proofs.Ytmiiolgbjicocaa
open Go.RowKit
attribute [local go_sem] run_store_float
/-- Rules that stand by their variables. -/
def LeftsUp (rs : List RuleD) : Prop := ∀ (i j : Nat) (hi : i < rs.length) (hj : j < rs.length), i ≤ j → rs[i].left ≤ rs[j].left
theorem leftsUp_of {rs : List RuleD} (h : ∀ k (h : k < rs.length) l (hl : l < rs.length), l + 1 = k → rs[l].left ≤ rs[k].left) : LeftsUp rs := fun i j hi hj hij => by
  obtain ⟨d, rfl⟩ : ∃ d, j = i + d := ⟨j - i, by omega⟩
  clear hij
  induction d with
  | zero => exact Int.le_refl _
  | succ d ih => exact Int.le_trans (ih (by omega)) (h (i + d + 1) hj (i + d) (by omega) rfl)
/-- What the closure reads. -/
structure GBox (w : World) (B bg bv : Nat) (ra : Option Addr) (rs : List RuleD) (rc : Nat) (v : Int) : Prop where
  g2 : w.cell? ⟨bg, 2, none⟩ = some (.slice ra rs.length rc)
  v0 : w.cell? ⟨bv, 0, none⟩ = some (.int .i64 v)
  ru : RulesAt w B ra rs
theorem GBox.drewN {w : World} {B bg bv : Nat} {ra : Option Addr} {rs : List RuleD} {rc : Nat} {v : Int} (h : GBox w B bg bv ra rs rc v) (n : Nat) : GBox (w.drewN n) B bg bv ra rs rc v := ⟨h.g2, h.v0, h.ru.below ⟨rfl, rfl, rfl, Nat.le_refl _, fun _ _ => rfl⟩⟩
set_option maxRecDepth 100000 in
set_option maxHeartbeats 1000000 in
theorem gclosure_any {w : World} {B bg bv : Nat} {ra : Option Addr} {rs : List RuleD} {rc : Nat} {v : Int} (h : GBox w B bg bv ra rs rc v) {i : Nat} (hi : i < rs.length) :
    Calls Try.prog 71 #[.int .i64 (i : Nat), .pointer (some ⟨bg, 0, none⟩), .pointer (some ⟨bv, 0, none⟩)] w fun e w' => e = .returned (.bool (decide (v ≤ rs[i].left))) ∧ ∃ n, w' = w.drewN n := by
  obtain ⟨g2, v0, ru⟩ := h
  obtain ⟨rb, off, rfl, hrb, r0, -⟩ := ru i hi
  have hii : (i : Int) < rs.length := by omega
  clear ru
  generalize rs[i].left = l at *
  go_enter Try.func71, Try.ntmps71
  go_wp2
  go_quiet (fail)
  go_wp2
  go_ret
  exact ⟨rfl, _, rfl⟩
def SearchPost (rs : List RuleD) (v : Int) (w : World) (e : Ending) (w' : World) : Prop :=
  ∃ p : Nat, e = .returned (.int .i64 (p : Nat)) ∧ p ≤ rs.length ∧ (∀ i (h : i < rs.length), i < p → rs[i].left < v) ∧ (∀ i (h : i < rs.length), p ≤ i → v ≤ rs[i].left) ∧ ∃ n, w' = w.drewN n
set_option maxHeartbeats 1000000 in
theorem search_any {w : World} {B bg bv : Nat} {ra : Option Addr} {rs : List RuleD} {rc : Nat} {v : Int} (h : GBox w B bg bv ra rs rc v) (hs : LeftsUp rs) (hn : rs.length ≤ 100000) :
    Calls Try.prog 70 #[.int .i64 (rs.length : Nat), .func (.func 71) #[] #[.pointer (some ⟨bg, 0, none⟩), .pointer (some ⟨bv, 0, none⟩)]] w (SearchPost rs v w) := by
  have HC : Hid (∀ (n i : Nat) (hi : i < rs.length), Calls Try.prog 71 #[.int .i64 (i : Nat), .pointer (some ⟨bg, 0, none⟩), .pointer (some ⟨bv, 0, none⟩)] (w.drewN n) fun e w' => e = .returned (.bool (decide (v ≤ rs[i].left))) ∧ ∃ m, w' = (w.drewN n).drewN m) := Lib.hid (fun n i hi => gclosure_any (h.drewN n) hi)
  have HS := Lib.hid hs
  have HP : Hid (∀ (p n : Nat), p ≤ rs.length → (∀ i (h : i < rs.length), i < p → rs[i].left < v) → (∀ i (h : i < rs.length), p ≤ i → v ≤ rs[i].left) → SearchPost rs v w (.returned (.int .i64 (p : Nat))) (w.drewN n)) := Lib.hid (fun p n h1 h2 h3 => ⟨p, rfl, h1, h2, h3, n, rfl⟩)
  clear h hs
  generalize SearchPost rs v w = Po at *
  go_enter Try.func70, Try.ntmps70
  go_wp2
  go_loopw [5, 6] (fun i j wr => ∃ p q : Nat, p ≤ q ∧ q ≤ rs.length ∧ i = .int .i64 p ∧ j = .int .i64 q ∧ Hid ((∀ t (h : t < rs.length), t < p → rs[t].left < v) ∧ (∀ t (h : t < rs.length), q ≤ t → v ≤ rs[t].left)) ∧ ∃ n, wr = w.drewN n) (fun i j _ => (intOf j).toNat - (intOf i).toNat)
  case atStart => exact ⟨0, rs.length, by omega, by omega, rfl, rfl, Lib.hid ⟨fun t _ h => by omega, fun t h h2 => by omega⟩, 0, rfl⟩
  case round =>
    obtain ⟨p, q, hpq, hq, rfl, rfl, hf, n, rfl⟩ := hrel
    by_cases hlt : p < q
    · have hki : (p : Int) < q := by omega
      obtain ⟨m, hm⟩ : ∃ m, m = (p + q) / 2 := ⟨_, rfl⟩
      have hml : m < rs.length := by omega
      have hmi : ((p : Int) + (q : Int)) / 2 = (m : Int) := by omega
      have hmp : p ≤ m := by omega
      have hmq : m < q := by omega
      have HCm := Lib.hid (HC.out n m hml)
      clear hm
      go_wp2_with fail
      refine HCm.out.mono ?_
      rintro e w1 ⟨rfl, n1, rfl⟩
      have HLO : Hid (rs[m].left < v → ∀ t (h : t < rs.length), t < m + 1 → rs[t].left < v) := Lib.hid (fun h0 t h h1 => Int.lt_of_le_of_lt (HS.out t m h hml (by omega)) h0)
      have HHI : Hid (v ≤ rs[m].left → ∀ t (h : t < rs.length), m ≤ t → v ≤ rs[t].left) := Lib.hid (fun h0 t h h1 => Int.le_trans h0 (HS.out m t hml h h1))
      clear hmi HCm
      generalize rs[m].left = l at *
      by_cases hg : v ≤ l
      · have hd : decide (v ≤ l) = true := decide_eq_true hg
        have HG := Lib.hid hg
        rw [hd]
        clear hg hd
        go_wp2
        go_roundw
        case rel => exact ⟨p, m, by omega, by omega, rfl, rfl, Lib.hid ⟨hf.out.1, HHI.out HG.out⟩, _, rfl⟩
        case measure => simp [intOf]; omega
      · have hd : decide (v ≤ l) = false := decide_eq_false hg
        have HG := Lib.hid (Int.not_le.1 hg)
        rw [hd]
        clear hg hd
        go_wp2
        go_roundw
        case rel => exact ⟨m + 1, q, by omega, hq, by go_num, rfl, Lib.hid ⟨HLO.out HG.out, hf.out.2⟩, _, rfl⟩
        case measure => simp [intOf]; omega
    · have hpq2 : q = p := by omega
      subst hpq2
      have hki : ¬ ((q : Int) < (q : Int)) := by omega
      have HF := hf
      clear hf
      go_wp2
      exact HP.out q n hq HF.out.1 HF.out.2
def GRulesPost (rs : List RuleD) (v : Int) (w : World) (e : Ending) (w' : World) : Prop :=
  ∃ p q : Nat, e = .returned (.tuple #[.int .i64 (p : Nat), .int .i64 (q : Nat)]) ∧ p ≤ q ∧ q ≤ rs.length ∧ (∀ i (h : i < rs.length), rs[i].left = v ↔ p ≤ i ∧ i < q) ∧ Grow w w'
set_option maxRecDepth 100000 in
set_option maxHeartbeats 1000000 in
theorem grules_any {w : World} {B : Nat} {g : GramD} (hg : GramAt w B g) (hB : B ≤ w.heap.size) (hs : LeftsUp g.rules) (hn : g.rules.length ≤ 100000) (v : Int) : Calls Try.prog 43 #[GV g, .int .i64 v] w (GRulesPost g.rules v w) := by
  obtain ⟨f1, f2, -⟩ := heap_three w (.cells #[.slice g.ta g.terms.length g.tc, .slice g.va g.vars.length g.vc, .slice g.ra g.rules.length g.rc] 25) (.cells #[.int .i64 v] 3) (.cells #[.int .i64 v] 3)
  have hbx : GBox ((w.alloc (.cells #[.slice g.ta g.terms.length g.tc, .slice g.va g.vars.length g.vc, .slice g.ra g.rules.length g.rc] 25)).alloc (.cells #[.int .i64 v] 3)) B w.heap.size (w.heap.size + 1) g.ra g.rules g.rc v := by
    have h1 := heap_alloc_keep (o := .cells #[.int .i64 v] 3) (heap_alloc_this w (.cells #[.slice g.ta g.terms.length g.tc, .slice g.va g.vars.length g.vc, .slice g.ra g.rules.length g.rc] 25))
    have h2 := heap_alloc_this (w.alloc (.cells #[.slice g.ta g.terms.length g.tc, .slice g.va g.vars.length g.vc, .slice g.ra g.rules.length g.rc] 25)) (.cells #[.int .i64 v] 3)
    rw [World.size_alloc] at h2
    exact ⟨cell_of_block (off := 2) h1, cell_of_block (off := 0) h2, (hg.below (((grow_one w _).trans (grow_one _ _)).mono hB)).rules⟩
  have HGR := Lib.hid ((grow_one w (.cells #[.slice g.ta g.terms.length g.tc, .slice g.va g.vars.length g.vc, .slice g.ra g.rules.length g.rc] 25)).trans (grow_one _ (.cells #[.int .i64 v] 3)))
  have HB := Lib.hid hbx
  have b2 := hbx.g2
  have bv := hbx.v0
  have HSE := Lib.hid (search_any hbx hs hn)
  have HS := Lib.hid hs
  have HP : Hid (∀ p q W, p ≤ q → q ≤ g.rules.length → (∀ i (h : i < g.rules.length), g.rules[i].left = v ↔ p ≤ i ∧ i < q) → Grow w W → GRulesPost g.rules v w (.returned (.tuple #[.int .i64 (p : Nat), .int .i64 (q : Nat)])) W) := Lib.hid (fun p q W h1 h2 h3 h4 => ⟨p, q, rfl, h1, h2, h3, h4⟩)
  clear hg hs hbx f1 f2
  generalize GRulesPost g.rules v w = Po at *
  have hmf : ∀ (fn : Fn) (first cap : Array Value) (w : World), (Instr.makeFunc fn first cap).run Try.prog w = .ok (.func fn first cap) w := fun _ _ _ _ => rfl
  unfold GV
  generalize g.ra = ra at *
  generalize g.rc = rc at *
  generalize g.rules = rs at *
  go_enter Try.func43, Try.ntmps43
  go_wp2_with fail
  generalize (w.alloc (.cells #[.slice g.ta g.terms.length g.tc, .slice g.va g.vars.length g.vc, .slice ra rs.length rc] 25)).alloc (.cells #[.int .i64 v] 3) = W at *
  refine HSE.out.mono ?_
  rintro e w1 ⟨p, rfl, hp, hlo, hhi, n, rfl⟩
  have HLH := Lib.hid (And.intro hlo hhi)
  clear hlo hhi HSE hmf b2 bv
  have b2 := (HB.out.drewN n).g2
  go_wp2_with fail
  clear b2
  go_loopw [7] (fun i wr => ∃ q : Nat, p ≤ q ∧ q ≤ rs.length ∧ i = .int .i64 q ∧ Hid (∀ t (h : t < rs.length), p ≤ t → t < q → rs[t].left = v) ∧ ∃ n, wr = W.drewN n) (fun i _ => rs.length - (intOf i).toNat)
  case atStart => exact ⟨p, by omega, hp, rfl, Lib.hid (fun t _ h1 h2 => by omega), n, rfl⟩
  case round =>
    obtain ⟨q, hpq, hq, rfl, hh, n2, rfl⟩ := hrel
    have b2 := HB.out.g2
    have bv := HB.out.v0
    by_cases hqt : q < rs.length
    · have hqi : (q : Int) < rs.length := by omega
      obtain ⟨rb, off, rfl, hrb, r0, -⟩ := HB.out.ru q hqt
      by_cases he : rs[q].left = v
      · have HE : Hid (∀ t (h : t < rs.length), p ≤ t → t < q + 1 → rs[t].left = v) := Lib.hid (fun t h h1 h2 => by
          rcases Nat.lt_or_ge t q with h3 | h3
          · exact hh.out t h h1 h3
          · obtain rfl : t = q := by omega
            exact he)
        have heb : (rs[q].left == v) = true := by simp [he]
        clear he
        generalize rs[q].left = l at *
        go_wp2_with fail
        go_quiet (fail)
        go_wp2
        go_roundw
        case rel => exact ⟨q + 1, by omega, by omega, by go_num, HE, _, rfl⟩
        case measure => simp [intOf]; omega
      · have HE : Hid (∀ i (h : i < rs.length), rs[i].left = v ↔ p ≤ i ∧ i < q) := Lib.hid (fun i h => by
          constructor
          · intro e
            have h1 : p ≤ i := by
              apply Classical.byContradiction
              intro h2
              have := HLH.out.1 i h (by omega)
              omega
            refine ⟨h1, ?_⟩
            apply Classical.byContradiction
            intro h2
            have h3 := HS.out q i hqt h (by omega)
            have h4 := HLH.out.2 q hqt (by omega)
            omega
          · rintro ⟨h1, h2⟩
            exact hh.out i h h1 h2)
        have heb : (rs[q].left == v) = false := by simp [he]
        clear he
        generalize rs[q].left = l at *
        go_wp2_with fail
        go_quiet (fail)
        go_wp2
        exact HP.out p q _ hpq hq HE.out (HGR.out.trans ⟨rfl, rfl, rfl, Nat.le_refl _, fun _ _ => rfl⟩)
    · have hqi : ¬ (q : Int) < rs.length := by omega
      have hqf : decide ((q : Int) < rs.length) = false := decide_eq_false hqi
      have HE : Hid (∀ i (h : i < rs.length), rs[i].left = v ↔ p ≤ i ∧ i < q) := Lib.hid (fun i h => by
        constructor
        · intro e
          have h1 : p ≤ i := by
            apply Classical.byContradiction
            intro h2
            have := HLH.out.1 i h (by omega)
            omega
          exact ⟨h1, by omega⟩
        · rintro ⟨h1, h2⟩
          exact hh.out i h h1 h2)
      clear hh
      go_wp2_with fail
      go_quiet (fail)
      go_wp2
      exact HP.out p q _ hpq hq HE.out (HGR.out.trans ⟨rfl, rfl, rfl, Nat.le_refl _, fun _ _ => rfl⟩)
end Go.Proofs.Ytmiiolgbjicocaa
