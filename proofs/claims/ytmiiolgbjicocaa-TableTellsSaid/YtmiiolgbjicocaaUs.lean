/- What is of use: the reference's looks answer -/
import Derived.Test.YtmiiolgbjicocaaFirstP
import Derived.Test.YtmiiolgbjicocaaRight
import Derived.Laws.OwnMore
import Derived.OwnWalk
namespace Go.Proofs.Ytmiiolgbjicocaa
open Go.RowKit
attribute [local go_sem] run_store_float
/-- A list of Bools of the call's own. -/
def BoolR (w : World) (lo : Nat) (v : Value) (n : Nat) : Prop := ∃ xs : List Bool, xs.length = n ∧ w.ownsRow lo 4 1 v n (xs.map Value.bool)
theorem BoolR.at {w : World} {lo n : Nat} {v : Value} (h : BoolR w lo v n) {i : Nat} (hi : i < n) : ∃ b c x, v = .slice (some ⟨b, 0, none⟩) n c ∧ b < w.heap.size ∧ lo ≤ b ∧ w.cell? ⟨b, i, none⟩ = some (.bool x) ∧ w.frozen? ⟨b, i, none⟩ = false := by
  obtain ⟨xs, hl, h⟩ := h
  rcases h.2 with ⟨_, h0⟩ | ⟨g, cap, cur, rfl, hg, hh, _⟩
  · omega
  · refine ⟨g, cap, xs[i]'(by omega), rfl, lt_of_block hh, hg, ?_, free_of_block hh⟩
    rw [h.cellAt i (by omega), List.getElem?_map, List.getElem?_eq_getElem (by omega)]
    rfl
theorem BoolR.go {w w' : World} {lo n : Nat} {v : Value} (h : BoolR w lo v n) (hg : Below w.heap.size w w') : BoolR w' lo v n := by
  obtain ⟨xs, hl, h1, h2⟩ := h
  refine ⟨xs, hl, h1, ?_⟩
  rcases h2 with h2 | ⟨g, cap, cur, rfl, hb, hh, r⟩
  · exact .inl h2
  · exact .inr ⟨g, cap, cur, rfl, hb, (hg.block _ (lt_of_block hh)).trans hh, r⟩
def FormR (nv : Nat) (f : List Int) : Prop := ∀ s ∈ f, s < nv
set_option maxRecDepth 100000 in
set_option maxHeartbeats 2000000 in
theorem rall_any {w : World} {lo nv : Nat} {v : Value} (hb : BoolR w lo v nv) (left : Int) (wt : Nat) {xa : Option Addr} {xs : List Int} {xc : Nat} (hx : Ints w w.heap.size xa xs) (hl : xs.length ≤ 1000) (hf : FormR nv xs) (nn : Bool) :
    Calls Try.prog 57 #[.agg #[.int .i64 left, .slice xa xs.length xc, .float .f64 wt], v, .bool nn] w fun e w' => ∃ x : Bool, e = .returned (.bool x) ∧ Below w.heap.size w w' := by
  have HB := Lib.hid hb
  have HX := Lib.hid hx
  have HF := Lib.hid hf
  clear hb hx hf
  go_enter Try.func57, Try.ntmps57
  go_wp2_with fail
  have hC := heap_alloc_this w (.cells #[.int .i64 left, .slice xa xs.length xc, .float .f64 wt] 64)
  have hg : Below w.heap.size w (w.alloc (.cells #[.int .i64 left, .slice xa xs.length xc, .float .f64 wt] 64)) := ((Kept.refl (fun _ => False) w).alloc _).below (Nat.le_refl _) (fun _ _ h => h)
  have HG := Lib.hid hg
  have q1 : (w.alloc (.cells #[.int .i64 left, .slice xa xs.length xc, .float .f64 wt] 64)).cell? ⟨w.heap.size, 1, none⟩ = some (.slice xa xs.length xc) := cell_of_block (off := 1) hC
  have hCl := lt_of_block hC
  clear hC hg
  generalize w.alloc (.cells #[.int .i64 left, .slice xa xs.length xc, .float .f64 wt] 64) = W at *
  go_loopw [7] (fun i wr => ∃ k : Nat, k ≤ xs.length ∧ i = .int .i64 k ∧ wr = W) (fun i _ => xs.length - (intOf i).toNat)
  case atStart => exact ⟨0, by omega, rfl, rfl⟩
  case round =>
    obtain ⟨k, hk, rfl, rfl⟩ := hrel
    by_cases hlt : k < xs.length
    · have hki : (k : Int) < xs.length := by omega
      obtain ⟨b, off, rfl, hb, hc⟩ := (HX.out.below HG.out) k hlt
      have hs := HF.out xs[k] (List.getElem_mem hlt)
      generalize xs[k] = x at *
      by_cases h0 : 0 ≤ x
      · obtain ⟨n, rfl⟩ := Int.eq_ofNat_of_zero_le h0
        obtain ⟨rb, rc, y, rfl, hrb, hrl, hy, hfz⟩ := (HB.out.go HG.out).at (i := n) (by omega)
        have hd : decide ((0 : Int) ≤ (n : Int)) = true := decide_eq_true h0
        have hni : (n : Int) < nv := by omega
        cases y <;> cases nn
        all_goals
          go_wp2_with fail
          all_goals first
            | (go_ret; exact ⟨_, rfl, HG.out⟩)
            | (go_ret; exact ⟨by first | exact .inl rfl | exact .inr rfl, HG.out⟩)
            | (refine ⟨⟨k + 1, by omega, by go_num, trivial⟩, ?_⟩; simp [intOf] <;> omega)
            | (go_roundw
               case rel => exact ⟨k + 1, by omega, by go_num, by first | rfl | trivial⟩
               case measure => simp [intOf] <;> omega)
      · have hd : decide ((0 : Int) ≤ x) = false := decide_eq_false h0
        have hd2 : decide (x < 0) = true := decide_eq_true (by omega)
        cases nn
        all_goals
          go_wp2_with fail
          all_goals first
            | (go_ret; exact ⟨_, rfl, HG.out⟩)
            | (go_ret; exact ⟨by first | exact .inl rfl | exact .inr rfl, HG.out⟩)
            | (refine ⟨⟨k + 1, by omega, by go_num, trivial⟩, ?_⟩; simp [intOf] <;> omega)
            | (go_roundw
               case rel => exact ⟨k + 1, by omega, by go_num, by first | rfl | trivial⟩
               case measure => simp [intOf] <;> omega)
    · obtain rfl : k = xs.length := by omega
      go_wp2_with fail
      go_ret
      exact ⟨_, rfl, HG.out⟩
end Go.Proofs.Ytmiiolgbjicocaa
namespace Go.Proofs.Ytmiiolgbjicocaa
open Go.RowKit
attribute [local go_sem] run_store_float
theorem info4 : (Try.prog.info? 4).map (fun i => (i.zero, i.size, i.bytes)) = some (some (.bool false), 1, 1) := by kernel_rfl
theorem boolR_of {w : World} {lo n : Nat} {v : Value} {cs : List Value} (h : w.ownsRow lo 4 1 v n cs) (hc : ∀ u ∈ cs, ∃ x : Bool, u = .bool x) : BoolR w lo v n := by
  have : ∀ (cs : List Value), (∀ u ∈ cs, ∃ x : Bool, u = .bool x) → ∃ xs : List Bool, xs.map Value.bool = cs := fun cs => by
    induction cs with
    | nil => intro _; exact ⟨[], rfl⟩
    | cons u cs ih =>
      intro hc
      obtain ⟨x, rfl⟩ := hc u (by simp)
      obtain ⟨xs, rfl⟩ := ih (fun u hu => hc u (by simp [hu]))
      exact ⟨x :: xs, rfl⟩
  obtain ⟨xs, rfl⟩ := this cs hc
  exact ⟨xs, by have := h.1; simpa using this, h⟩
/-- One of them, set. -/
theorem BoolR.set {w : World} {lo n b c : Nat} (h : BoolR w lo (.slice (some ⟨b, 0, none⟩) n c) n) (j : Nat) (y : Bool) : BoolR (w.setCell ⟨b, j, none⟩ (.bool y)) lo (.slice (some ⟨b, 0, none⟩) n c) n ∧ Kept (· = b) w (w.setCell ⟨b, j, none⟩ (.bool y)) := by
  obtain ⟨xs, hl, h⟩ := h
  refine ⟨boolR_of (h.stored j (.bool y)).1 (fun u hu => ?_), Kept.setCell (S := (· = b)) (Kept.refl _ _) (p := ⟨b, j, none⟩) (.inl rfl) _⟩
  rcases List.mem_or_eq_of_mem_set hu with h1 | h1
  · obtain ⟨x, _, rfl⟩ := List.mem_map.1 h1
    exact ⟨x, rfl⟩
  · exact ⟨y, h1⟩
theorem ints_up2 {w : World} {B B' : Nat} {a : Option Addr} {xs : List Int} (h : Ints w B a xs) (hl : B ≤ B') : Ints w B' a xs := fun i hi => by
  obtain ⟨b, off, h1, h2, h3⟩ := h i hi
  exact ⟨b, off, h1, by omega, h3⟩
theorem BoolR.low {w : World} {lo lo' n : Nat} {v : Value} (h : BoolR w lo v n) (hl : lo' ≤ lo) : BoolR w lo' v n := by
  obtain ⟨xs, h1, h2, h3⟩ := h
  refine ⟨xs, h1, h2, ?_⟩
  rcases h3 with h3 | ⟨g, cap, cur, rfl, hb, r⟩
  · exact .inl h3
  · exact .inr ⟨g, cap, cur, rfl, Nat.le_trans hl hb, r⟩
theorem bool_empty (w : World) {base : Nat} (h : base ≤ w.heap.size) : (w.alloc (.cells #[] 4)).ownsRow base 4 1 (.slice (some ⟨w.heap.size, 0, none⟩) 0 0) 0 [] :=
  ⟨rfl, .inr ⟨w.heap.size, 0, #[], rfl, h, heap_alloc_this _ _, Nat.le_refl _, Nat.zero_le _, rfl, rfl⟩⟩
theorem BoolR.news {w : World} {lo n b c : Nat} (h : BoolR w lo (.slice (some ⟨b, 0, none⟩) n c) n) : ∃ news : List Value, news.length = n ∧ (∀ (j : Nat) u, news[j]? = some u → w.cell? (Addr.add ⟨b, 0, none⟩ j) = some u) ∧ (∀ u ∈ news, u.oneCell' = true) ∧ ∀ u ∈ news, ∃ x : Bool, u = .bool x := by
  obtain ⟨xs, hl, h⟩ := h
  refine ⟨xs.map .bool, by simpa using hl, fun j u hj => ?_, fun u hu => ?_, fun u hu => ?_⟩
  · have hjn : j < n := by
      rcases Nat.lt_or_ge j (xs.map Value.bool).length with h' | h'
      · simpa [hl] using h'
      · rw [List.getElem?_eq_none h'] at hj; cases hj
    rw [addr_add, Nat.zero_add, h.cellAt j (by omega), hj]
  · obtain ⟨y, _, rfl⟩ := List.mem_map.1 hu
    rfl
  · obtain ⟨y, _, rfl⟩ := List.mem_map.1 hu
    exact ⟨y, rfl⟩
set_option maxRecDepth 100000 in
set_option maxHeartbeats 2000000 in
theorem rounds_any {w : World} {B : Nat} {g : GramD} (hg : GramAt w B g) (hB : B ≤ w.heap.size) (hnv : g.vars.length ≤ 64) (hpos : 0 < g.vars.length) (hrl : g.rules.length ≤ 256) (hok : ∀ i (h : i < g.rules.length), (0 ≤ g.rules[i].left ∧ g.rules[i].left < g.vars.length) ∧ FormR g.vars.length g.rules[i].right ∧ g.rules[i].right.length ≤ 1000) (nn : Bool) :
    Calls Try.prog 77 #[GV g, .bool nn] w fun e w' => ∃ v, e = .returned v ∧ BoolR w' w.heap.size v g.vars.length ∧ Below w.heap.size w w' := by
  have HG := Lib.hid hg
  have HOK := Lib.hid hok
  clear hg hok
  obtain ⟨i0, hi0, hz0, hz1, hz2⟩ := info_parts info4
  unfold GV
  have hbx := heap_alloc_this w (.cells #[.slice g.ta g.terms.length g.tc, .slice g.va g.vars.length g.vc, .slice g.ra g.rules.length g.rc] 25)
  have hgw : Below w.heap.size w (w.alloc (.cells #[.slice g.ta g.terms.length g.tc, .slice g.va g.vars.length g.vc, .slice g.ra g.rules.length g.rc] 25)) := ((Kept.refl (fun _ => False) w).alloc _).below (Nat.le_refl _) (fun _ _ h => h)
  have v1 : ∀ wr, Below (w.heap.size + 1) (w.alloc (.cells #[.slice g.ta g.terms.length g.tc, .slice g.va g.vars.length g.vc, .slice g.ra g.rules.length g.rc] 25)) wr → wr.cell? ⟨w.heap.size, 1, none⟩ = some (.slice g.va g.vars.length g.vc) ∧ wr.cell? ⟨w.heap.size, 2, none⟩ = some (.slice g.ra g.rules.length g.rc) ∧ RulesAt wr B g.ra g.rules ∧ w.heap.size < wr.heap.size := fun wr hb => by
    have h1 : wr.heap[w.heap.size]? = _ := (hb.block w.heap.size (by omega)).trans hbx
    exact ⟨cell_of_block (off := 1) h1, cell_of_block (off := 2) h1, ((HG.out.below (hgw.mono hB)).below (hb.mono (by omega))).rules, lt_of_block h1⟩
  obtain ⟨w1, hmk, hown, hgr⟩ := run_make_full (P := Try.prog) (w.alloc (.cells #[.slice g.ta g.terms.length g.tc, .slice g.va g.vars.length g.vc, .slice g.ra g.rules.length g.rc] 25)) (w.heap.size + 1) 103 4 i0 (.bool false) 1 Try.underlying103 hi0 hz0 hz1 .i64 .i64 g.vars.length (by rw [hz2]; omega) (by unfold maxLen; omega) (by simp)
  have hb0 : BoolR w1 (w.heap.size + 1) _ g.vars.length := boolR_of hown (fun u hu => by
    rw [show (Value.bool false).cells = #[.bool false] from rfl, toList_madeCells_one] at hu
    exact ⟨false, List.eq_of_mem_replicate hu⟩)
  have hW1 : Below (w.heap.size + 1) (w.alloc (.cells #[.slice g.ta g.terms.length g.tc, .slice g.va g.vars.length g.vc, .slice g.ra g.rules.length g.rc] 25)) w1 := ⟨hgr.os, hgr.tape, hgr.output, hgr.size, fun k hk => hgr.block k (by simp; omega) (by simp)⟩
  rw [World.size_alloc] at hmk hb0
  have hg1 : w.heap.size + 1 ≤ w1.heap.size := by have := hW1.size; simpa using this
  have HB0 := Lib.hid hb0
  have HW1 := Lib.hid hW1
  clear hb0 hW1 hown hgr
  have HV := Lib.hid v1
  have HGW := Lib.hid hgw
  have hsz : w.heap.size + 1 ≤ (w.alloc (.cells #[.slice g.ta g.terms.length g.tc, .slice g.va g.vars.length g.vc, .slice g.ra g.rules.length g.rc] 25)).heap.size := by rw [World.size_alloc]; omega
  obtain ⟨q1, -, -, -⟩ := v1 _ (Below.refl _ _)
  clear hgw v1 hbx
  clear HG
  generalize g.ra = ra at *
  go_enter Try.func77, Try.ntmps77
  go_wp2_with fail
  go_loopw [5, 6] (fun v i wr => ∃ n : Nat, n ≤ g.vars.length ∧ i = .int .i64 n ∧ Hid (BoolR wr (w.heap.size + 1) v g.vars.length ∧ Below (w.heap.size + 1) (w.alloc (.cells #[.slice g.ta g.terms.length g.tc, .slice g.va g.vars.length g.vc, .slice ra g.rules.length g.rc] 25)) wr)) (fun _ i _ => g.vars.length - (intOf i).toNat)
  case atStart => exact ⟨0, by omega, rfl, Lib.hid ⟨HB0.out, HW1.out⟩⟩
  case round =>
    obtain ⟨n, hn, rfl, hh⟩ := hrel
    obtain ⟨wo, rfl⟩ : ∃ x, x = wr := ⟨_, rfl⟩
    obtain ⟨q1, q2, q3, hsr⟩ := HV.out _ hh.out.2
    have HQ3 := Lib.hid q3
    obtain ⟨b, c, x0, rfl, hb, hlb, -, -⟩ := hh.out.1.at hpos
    clear q3
    by_cases hlt : n < g.vars.length
    · have hki : (n : Int) < g.vars.length := by omega
      obtain ⟨news, hn1, hn2, hn3, hn4⟩ := hh.out.1.news
      have HN := Lib.hid (And.intro hn2 (And.intro hn3 hn4))
      clear hn2 hn3 hn4
      have HAL := Lib.hid ((Below.refl wo.heap.size wo).alloc (Nat.le_refl _) (.cells #[] 4))
      have HEM := Lib.hid (bool_empty wo (Nat.le_refl _))
      have HNW : Hid (∀ (j : Nat) u, news[j]? = some u → (wo.alloc (.cells #[] 4)).cell? (Addr.add ⟨b, 0, none⟩ j) = some u) := Lib.hid (fun j u hj => by
        have h1 := HN.out.1 j u hj
        rw [addr_add] at h1 ⊢
        exact (below_cell HAL.out hb).trans h1)
      have HNX : Hid (∀ v1 w2, w2.ownsRow wo.heap.size 4 1 v1 (0 + g.vars.length) ([] ++ news) → (wo.alloc (.cells #[] 4)).grownBy w2 (Value.ownBlock (.slice (some ⟨wo.heap.size, 0, none⟩) 0 0)) → Hid (BoolR w2 wo.heap.size v1 g.vars.length ∧ Below wo.heap.size wo w2)) := Lib.hid (fun v1 w2 h1 h2 => by
        rw [Nat.zero_add, List.nil_append] at h1
        exact Lib.hid ⟨boolR_of h1 HN.out.2.2, HAL.out.grown h2 (by rw [World.size_alloc]; omega) (fun _ hk => by simp [Value.ownBlock] at hk; omega)⟩)
      have hws : wo.heap.size ≤ (wo.alloc (.cells #[] 4)).heap.size := by rw [World.size_alloc]; omega
      go_wp2_with first
        | (at_builtin; (refine wpList_append_own _ rfl (.tmp 20) (.tmp 21) 103 rfl wo.heap.size 4 i0 (.bool false) 1 1 Try.underlying103 hi0 hz0 hz1 hz2 rfl (by decide) (.slice (some ⟨wo.heap.size, 0, none⟩) 0 0) 0 [] rfl HEM.out ⟨b, 0, none⟩ g.vars.length c news rfl (by omega) HNW.out HN.out.2.1 (by unfold maxLen; omega) (by omega) hws ?_)
           intro v1 w2 hown hgr hnil
           have HB2 := HNX.out v1 w2 hown hgr
           clear hown hgr hnil HEM HAL HNX)
      go_loopw [8] (fun i ws => ∃ k : Nat, k ≤ g.rules.length ∧ i = .int .i64 k ∧ Hid (BoolR ws wo.heap.size v1 g.vars.length ∧ Below wo.heap.size wo ws)) (fun i _ => g.rules.length - (intOf i).toNat)
      case atStart => exact ⟨0, by omega, rfl, HB2⟩
      case round =>
        obtain ⟨k, hk, rfl, hi⟩ := hrel
        obtain ⟨s1, s2, s3, ssr⟩ := HV.out _ (hh.out.2.trans (hi.out.2.mono (by omega)))
        clear s1
        by_cases hkt : k < g.rules.length
        · have hki : (k : Int) < g.rules.length := by omega
          obtain ⟨rb, off, rfl, hrb, r0, r1, r2, hri, hrl2⟩ := s3 k hkt
          obtain ⟨⟨hl0, hl1⟩, hfr, hx8⟩ := HOK.out k hkt
          obtain ⟨l, hl⟩ := Int.eq_ofNat_of_zero_le hl0
          have hln : l < g.vars.length := by omega
          obtain ⟨nb, nc, x1, hv1, hnb, hnlb, hx1, hfz⟩ := hi.out.1.at hln
          subst hv1
          have HC := Lib.hid (rall_any (hh.out.1.go (hi.out.2.mono (by omega))) g.rules[k].left g.rules[k].wt (xc := g.rules[k].rc) (ints_up2 hri (by omega)) hx8 hfr nn)
          have HS3 := Lib.hid s3
          clear s3 hri hfr
          rw [hl] at r0 HC
          go_wp2_with fail
          refine HC.out.mono ?_
          rintro e w5 ⟨x, rfl, hb5⟩
          have H5 := Lib.hid (And.intro (hi.out.1.go hb5) (hi.out.2.trans (hb5.mono hi.out.2.size)))
          have f5 : w5.frozen? ⟨nb, l, none⟩ = false := (World.frozen?_of_block (hb5.block nb hnb)).trans hfz
          have c5 : w5.cell? ⟨nb, l, none⟩ = some (.bool x1) := (below_cell hb5 hnb).trans hx1
          obtain ⟨u1, u2, u3, usr⟩ := HV.out _ (hh.out.2.trans (H5.out.2.mono (by omega)))
          obtain ⟨rb5, off5, e5, -, r5, -⟩ := u3 k hkt
          rw [hl] at r5
          injection e5 with e5
          injection e5 with e6 e7
          subst e6 e7
          clear hb5 u1 u3 r0 r1 r2 s2
          cases x
          · go_wp2_with fail
            go_roundw
            case rel => exact ⟨k + 1, by omega, by go_num, H5⟩
            case measure => simp [intOf]; omega
          · go_wp2_with fail
            go_roundw
            case rel =>
              refine ⟨k + 1, by omega, by go_num, Lib.hid ?_⟩
              have h9 := H5.out.1.set l true
              exact ⟨h9.1, H5.out.2.trans (h9.2.below H5.out.2.size (fun _ _ h => by subst h; omega))⟩
            case measure => simp [intOf]; omega
        · have hki : ¬ (k : Int) < g.rules.length := by omega
          go_wp2_with fail
          go_roundw
          case rel => exact ⟨n + 1, by omega, by go_num, Lib.hid ⟨hi.out.1.low (by have := hh.out.2.size; rw [World.size_alloc] at this; omega), hh.out.2.trans (hi.out.2.mono (by omega))⟩⟩
          case measure => simp [intOf]; omega
    · have hki : ¬ (n : Int) < g.vars.length := by omega
      go_wp2_with fail
      go_ret
      exact ⟨_, rfl, hh.out.1.low (by omega), HGW.out.trans (hh.out.2.mono (by omega))⟩
end Go.Proofs.Ytmiiolgbjicocaa
namespace Go.Proofs.Ytmiiolgbjicocaa
open Go.RowKit
attribute [local go_sem] run_store_float
/-- The grammars that the looks at what is of use are handed. -/
structure GoodU (g : GramD) : Prop where
  nv : g.vars.length ≤ 64
  pos : 0 < g.vars.length
  nr : g.rules.length ≤ 256
  ok : ∀ i (h : i < g.rules.length), (0 ≤ g.rules[i].left ∧ g.rules[i].left < g.vars.length) ∧ FormR g.vars.length g.rules[i].right ∧ g.rules[i].right.length ≤ 1000
def BoolsPost (g : GramD) (w : World) (e : Ending) (w' : World) : Prop := ∃ v, e = .returned v ∧ BoolR w' w.heap.size v g.vars.length ∧ Below w.heap.size w w'
theorem prod_any {w : World} {B : Nat} {g : GramD} (hg : GramAt w B g) (hB : B ≤ w.heap.size) (hu : GoodU g) : Calls Try.prog 58 #[GV g] w (BoolsPost g w) := by
  have hgw := ((Kept.refl (fun _ => False) w).alloc (.cells #[.slice g.ta g.terms.length g.tc, .slice g.va g.vars.length g.vc, .slice g.ra g.rules.length g.rc] 25)).below (Nat.le_refl _) (fun _ _ h => h)
  have HC := Lib.hid (rounds_any (hg.below (hgw.mono hB)) (by rw [World.size_alloc]; omega) hu.nv hu.pos hu.nr hu.ok false)
  have HGW := Lib.hid hgw
  have HP : Hid (∀ v w', BoolR w' (w.alloc (.cells #[.slice g.ta g.terms.length g.tc, .slice g.va g.vars.length g.vc, .slice g.ra g.rules.length g.rc] 25)).heap.size v g.vars.length → Below (w.alloc (.cells #[.slice g.ta g.terms.length g.tc, .slice g.va g.vars.length g.vc, .slice g.ra g.rules.length g.rc] 25)).heap.size (w.alloc (.cells #[.slice g.ta g.terms.length g.tc, .slice g.va g.vars.length g.vc, .slice g.ra g.rules.length g.rc] 25)) w' → BoolsPost g w (.returned v) w') := Lib.hid (fun v w' h1 h2 => by
    rw [World.size_alloc] at h1 h2
    exact ⟨v, rfl, h1.low (by omega), HGW.out.trans (h2.mono (by omega))⟩)
  clear hgw hg hu
  unfold GV at *
  go_enter Try.func58, Try.ntmps58
  go_wp2_with fail
  refine HC.out.mono ?_
  rintro e w1 ⟨v, rfl, hv, hb⟩
  have h1 := Lib.hid (HP.out v w1 hv hb)
  clear hv hb HP HC
  go_wp2_with fail
  go_ret
  exact h1.out
theorem BoolR.lit {w : World} {lo n : Nat} {v : Value} (h : BoolR w lo v n) (hn : 0 < n) : ∃ b c, v = .slice (some ⟨b, 0, none⟩) n c ∧ b < w.heap.size ∧ lo ≤ b := by
  obtain ⟨b, c, x, h1, h2, h3, -⟩ := h.at hn
  exact ⟨b, c, h1, h2, h3⟩
theorem BoolR.cell {w : World} {lo n b c : Nat} (h : BoolR w lo (.slice (some ⟨b, 0, none⟩) n c) n) {i : Nat} (hi : i < n) : (∃ x, w.cell? ⟨b, i, none⟩ = some (.bool x)) ∧ w.frozen? ⟨b, i, none⟩ = false := by
  obtain ⟨b', c', x, h1, h2, h3, h4, h5⟩ := h.at hi
  injection h1 with h1
  injection h1 with h1
  injection h1 with h1
  subst h1
  exact ⟨⟨x, h4⟩, h5⟩
/-- What the walk holds behind its first lines: the words' row, the row that is made, a world w1 below which all stays. -/
def UseI (w1 : World) (nv : Nat) (nb nc : Nat) (wr : World) : Prop := BoolR wr w1.heap.size (.slice (some ⟨nb, 0, none⟩) nv nc) nv ∧ Below w1.heap.size w1 wr
theorem UseI.go {w1 : World} {nv nb nc : Nat} {wr wt : World} (h : UseI w1 nv nb nc wr) (hb : Below wr.heap.size wr wt) : UseI w1 nv nb nc wt := ⟨h.1.go hb, h.2.trans (hb.mono h.2.size)⟩
theorem UseI.set {w1 : World} {nv nb nc : Nat} {wr : World} (h : UseI w1 nv nb nc wr) (hnb : w1.heap.size ≤ nb) (j : Nat) (y : Bool) : UseI w1 nv nb nc (wr.setCell ⟨nb, j, none⟩ (.bool y)) ∧ ∀ k, k ≠ nb → k < wr.heap.size → (wr.setCell ⟨nb, j, none⟩ (.bool y)).heap[k]? = wr.heap[k]? := by
  have h1 := BoolR.set h.1 j y
  exact ⟨⟨h1.1, h.2.trans (h1.2.below h.2.size (fun k hk he => by subst he; omega))⟩, fun k hk hl => h1.2.block k hl hk⟩
set_option maxRecDepth 100000 in
set_option maxHeartbeats 4000000 in
theorem useful_any {w : World} {B : Nat} {g : GramD} (hg : GramAt w B g) (hB : B ≤ w.heap.size) (hu : GoodU g) : Calls Try.prog 56 #[GV g] w (BoolsPost g w) := by
  have HG := Lib.hid hg
  have HU := Lib.hid hu
  have hpos := hu.pos
  have hnv := hu.nv
  have hrl := hu.nr
  have HOK := Lib.hid hu.ok
  obtain ⟨i0, hi0, hz0, hz1, hz2⟩ := info_parts info4
  have hbx := heap_alloc_this w (.cells #[.slice g.ta g.terms.length g.tc, .slice g.va g.vars.length g.vc, .slice g.ra g.rules.length g.rc] 25)
  have hgw : Below w.heap.size w (w.alloc (.cells #[.slice g.ta g.terms.length g.tc, .slice g.va g.vars.length g.vc, .slice g.ra g.rules.length g.rc] 25)) := ((Kept.refl (fun _ => False) w).alloc _).below (Nat.le_refl _) (fun _ _ h => h)
  have hsz : w.heap.size + 1 = (w.alloc (.cells #[.slice g.ta g.terms.length g.tc, .slice g.va g.vars.length g.vc, .slice g.ra g.rules.length g.rc] 25)).heap.size := by rw [World.size_alloc]
  have v1 : ∀ wr, Below (w.heap.size + 1) (w.alloc (.cells #[.slice g.ta g.terms.length g.tc, .slice g.va g.vars.length g.vc, .slice g.ra g.rules.length g.rc] 25)) wr → wr.cell? ⟨w.heap.size, 1, none⟩ = some (.slice g.va g.vars.length g.vc) ∧ wr.cell? ⟨w.heap.size, 2, none⟩ = some (.slice g.ra g.rules.length g.rc) ∧ RulesAt wr B g.ra g.rules ∧ w.heap.size < wr.heap.size := fun wr hb => by
    have h1 : wr.heap[w.heap.size]? = _ := (hb.block w.heap.size (by omega)).trans hbx
    exact ⟨cell_of_block (off := 1) h1, cell_of_block (off := 2) h1, ((HG.out.below (hgw.mono hB)).below (hb.mono (by omega))).rules, lt_of_block h1⟩
  have HC := Lib.hid (prod_any (HG.out.below (hgw.mono hB)) (by rw [World.size_alloc]; omega) HU.out)
  have HV := Lib.hid v1
  have HP : Hid (∀ v w', BoolR w' (w.heap.size + 1) v g.vars.length → Below (w.heap.size + 1) (w.alloc (.cells #[.slice g.ta g.terms.length g.tc, .slice g.va g.vars.length g.vc, .slice g.ra g.rules.length g.rc] 25)) w' → BoolsPost g w (.returned v) w') := Lib.hid (fun v w' h1 h2 => ⟨v, rfl, h1.low (by omega), hgw.trans (h2.mono (by omega))⟩)
  have HHS := Lib.hid hsz
  clear hgw v1 hbx hg hu hsz
  unfold GV at *
  clear HG HU
  have HBP : Hid (∀ W e w', BoolsPost g W e w' → ∃ v, e = .returned v ∧ BoolR w' W.heap.size v g.vars.length ∧ Below W.heap.size W w') := Lib.hid (fun W e w' h => h)
  generalize BoolsPost g = BP at *
  generalize g.ra = ra at *
  go_enter Try.func56, Try.ntmps56
  go_wp2_with fail
  refine HC.out.mono ?_
  rintro e w1 h1
  obtain ⟨v, rfl, hv, hb⟩ := HBP.out _ _ _ h1
  rw [← HHS.out] at hv hb
  clear h1 HC HBP
  obtain ⟨pb, pc, rfl, hpb, hpl⟩ := hv.lit hpos
  obtain ⟨q1, q2, q3, hs1⟩ := HV.out _ hb
  obtain ⟨⟨x0, hx0⟩, -⟩ := hv.cell hpos
  obtain ⟨w2, hmk, hown, hgr⟩ := run_make_full (P := Try.prog) w1 w1.heap.size 103 4 i0 (.bool false) 1 Try.underlying103 hi0 hz0 hz1 .i64 .i64 g.vars.length (by rw [hz2]; omega) (by unfold maxLen; omega) (Nat.le_refl _)
  have hb0 : BoolR w2 w1.heap.size _ g.vars.length := boolR_of hown (fun u hu => by
    rw [show (Value.bool false).cells = #[.bool false] from rfl, toList_madeCells_one] at hu
    exact ⟨false, List.eq_of_mem_replicate hu⟩)
  have hW1 : Below w1.heap.size w1 w2 := ⟨hgr.os, hgr.tape, hgr.output, hgr.size, fun k hk => hgr.block k hk (by simp)⟩
  have hx2 : w2.cell? ⟨pb, 0, none⟩ = some (.bool x0) := (below_cell hW1 hpb).trans hx0
  obtain ⟨⟨y0, hy0⟩, hfz0⟩ := hb0.cell hpos
  have HI := Lib.hid (show UseI w1 g.vars.length w1.heap.size g.vars.length w2 from ⟨hb0, hW1⟩)
  have H1 := Lib.hid (And.intro hv hb)
  clear hv hb hb0 hW1 hown hgr q3
  go_wp2_with fail
  have HI1 := Lib.hid (UseI.set HI.out (Nat.le_refl _) 0 x0).1
  generalize w2.setCell ⟨w1.heap.size, 0, none⟩ (.bool x0) = w3 at *
  have HW : Hid (∀ wr, UseI w1 g.vars.length w1.heap.size g.vars.length wr → (wr.cell? ⟨w.heap.size, 1, none⟩ = some (.slice g.va g.vars.length g.vc) ∧ wr.cell? ⟨w.heap.size, 2, none⟩ = some (.slice ra g.rules.length g.rc) ∧ RulesAt wr B ra g.rules ∧ w.heap.size < wr.heap.size) ∧ BoolR wr (w.heap.size + 1) (.slice (some ⟨pb, 0, none⟩) g.vars.length pc) g.vars.length) := Lib.hid (fun wr h => ⟨HV.out _ (H1.out.2.trans (h.2.mono (by omega))), H1.out.1.go h.2⟩)
  clear HV hx0 hx2 hy0 hfz0 HI hmk q1 q2
  go_loopw [5] (fun i wr => ∃ n : Nat, n ≤ g.vars.length ∧ i = .int .i64 n ∧ Hid (UseI w1 g.vars.length w1.heap.size g.vars.length wr)) (fun i _ => g.vars.length - (intOf i).toNat)
  case atStart => exact ⟨0, by omega, rfl, HI1⟩
  case round =>
    obtain ⟨n, hn, rfl, hh⟩ := hrel
    obtain ⟨⟨q1, q2, q3, hsr⟩, q4⟩ := HW.out _ hh.out
    clear q3 q4
    by_cases hlt : n < g.vars.length
    · have hki : (n : Int) < g.vars.length := by omega
      go_wp2_with fail
      go_loopw [6] (fun i ws => ∃ k : Nat, k ≤ g.rules.length ∧ i = .int .i64 k ∧ Hid (UseI w1 g.vars.length w1.heap.size g.vars.length ws)) (fun i _ => g.rules.length - (intOf i).toNat)
      case atStart => exact ⟨0, by omega, rfl, hh⟩
      case round =>
        obtain ⟨k, hk, rfl, hi⟩ := hrel
        obtain ⟨wm, rfl⟩ : ∃ x, x = wr := ⟨_, rfl⟩
        clear q1 q2 hsr
        obtain ⟨⟨s1, s2, s3, ssr⟩, s4⟩ := HW.out _ hi.out
        by_cases hkt : k < g.rules.length
        · have hki : (k : Int) < g.rules.length := by omega
          obtain ⟨rb, off, rfl, hrb, r0, r1, r2, hri, hrl2⟩ := s3 k hkt
          obtain ⟨⟨hl0, hl1⟩, hfr, hx8⟩ := HOK.out k hkt
          clear s4 s3
          have HFR := Lib.hid hfr
          have HRI := Lib.hid hri
          clear hfr hri
          generalize g.rules[k] = r at *
          obtain ⟨left, xa, xs, xc, wt⟩ := r
          dsimp only at *
          obtain ⟨l, rfl⟩ := Int.eq_ofNat_of_zero_le hl0
          have hln : l < g.vars.length := by omega
          have hC := heap_alloc_this wm (.cells #[.int .i64 (l : Int), .slice xa xs.length xc, .float .f64 wt] 64)
          have hgm : Below wm.heap.size wm (wm.alloc (.cells #[.int .i64 (l : Int), .slice xa xs.length xc, .float .f64 wt] 64)) := ((Kept.refl (fun _ => False) wm).alloc _).below (Nat.le_refl _) (fun _ _ h => h)
          have HM := Lib.hid (And.intro (hi.out.go hgm) hC)
          have hne : wm.heap.size ≠ w1.heap.size := by
            obtain ⟨b', c', h1, h2, h3⟩ := hi.out.1.lit hpos
            injection h1 with h1
            injection h1 with h1
            injection h1 with h1
            omega
          clear hC hgm
          go_wp2_with fail
          generalize wm.alloc (.cells #[.int .i64 (l : Int), .slice xa xs.length xc, .float .f64 wt] 64) = wx at *
          go_loopw [8] (fun i ws => ∃ j : Nat, j ≤ xs.length ∧ i = .int .i64 j ∧ Hid (UseI w1 g.vars.length w1.heap.size g.vars.length ws ∧ ws.heap[wm.heap.size]? = some (.cells #[.int .i64 (l : Int), .slice xa xs.length xc, .float .f64 wt] 64))) (fun i _ => xs.length - (intOf i).toNat)
          case atStart => exact ⟨0, by omega, rfl, HM⟩
          case round =>
            obtain ⟨j, hj, rfl, hs⟩ := hrel
            clear s1 s2 ssr r0 r1 r2
            obtain ⟨-, s4⟩ := HW.out _ hs.out.1
            have t0 : wr.cell? ⟨wm.heap.size, 0, none⟩ = some (.int .i64 (l : Int)) := cell_of_block (off := 0) hs.out.2
            have t1 : wr.cell? ⟨wm.heap.size, 1, none⟩ = some (.slice xa xs.length xc) := cell_of_block (off := 1) hs.out.2
            have t2 : wr.cell? ⟨wm.heap.size, 2, none⟩ = some (.float .f64 wt) := cell_of_block (off := 2) hs.out.2
            have htl := lt_of_block hs.out.2
            obtain ⟨⟨y, hy⟩, -⟩ := hs.out.1.1.cell hln
            by_cases hjt : j < xs.length
            · have hji : (j : Int) < xs.length := by omega
              have hxs : Ints wr wr.heap.size xa xs := fun i hi2 => by
                obtain ⟨b2, off2, h1, h2, h3⟩ := HRI.out i hi2
                have h4 := hs.out.1.2.size
                have h5 : b2 < w1.heap.size := by omega
                exact ⟨b2, off2, h1, by omega, (World.cell?_of_block ((hs.out.1.2.block b2 h5).trans (hi.out.2.block b2 h5).symm)).trans h3⟩
              have HC := Lib.hid (rall_any s4 (l : Int) wt (xc := xc) hxs hx8 HFR.out false)
              obtain ⟨b2, off2, rfl, hb2, hc⟩ := hxs j hjt
              have hfx := HFR.out xs[j] (List.getElem_mem hjt)
              clear s4 hxs
              generalize xs[j] = x at *
              by_cases h0 : 0 ≤ x
              · obtain ⟨m, rfl⟩ := Int.eq_ofNat_of_zero_le h0
                have hd : decide ((0 : Int) ≤ (m : Int)) = true := decide_eq_true h0
                have hmn : m < g.vars.length := by omega
                cases y
                · go_wp2_with fail
                  go_roundw
                  case rel => exact ⟨j + 1, by omega, by go_num, hs⟩
                  case measure => simp [intOf]; omega
                · go_wp2_with fail
                  refine HC.out.mono ?_
                  rintro e w5 ⟨x2, rfl, hb5⟩
                  have H5 := Lib.hid (And.intro (hs.out.1.go hb5) ((hb5.block _ htl).trans hs.out.2))
                  have g1 : w5.cell? ⟨wm.heap.size, 1, none⟩ = some (.slice (some ⟨b2, off2, none⟩) xs.length xc) := cell_of_block (off := 1) H5.out.2
                  have g2 : w5.cell? ⟨b2, off2 + j, none⟩ = some (.int .i64 (m : Int)) := (below_cell hb5 hb2).trans hc
                  obtain ⟨⟨z, hz⟩, hfz⟩ := H5.out.1.1.cell hmn
                  clear HC hb5 t0 t1 t2 hy
                  cases x2
                  · go_wp2_with fail
                    go_roundw
                    case rel => exact ⟨j + 1, by omega, by go_num, H5⟩
                    case measure => simp [intOf]; omega
                  · go_wp2_with fail
                    go_roundw
                    case rel =>
                      have h9 := H5.out.1.set (Nat.le_refl _) m true
                      exact ⟨j + 1, by omega, by go_num, Lib.hid ⟨h9.1, (h9.2 _ hne (lt_of_block H5.out.2)).trans H5.out.2⟩⟩
                    case measure => simp [intOf]; omega
              · have hd : decide ((0 : Int) ≤ x) = false := decide_eq_false h0
                go_wp2_with fail
                go_roundw
                case rel => exact ⟨j + 1, by omega, by go_num, hs⟩
                case measure => simp [intOf]; omega
            · have hji : ¬ (j : Int) < xs.length := by omega
              go_wp2_with fail
              go_roundw
              case rel => exact ⟨k + 1, by omega, by go_num, Lib.hid hs.out.1⟩
              case measure => simp [intOf]; omega
        · have hki : ¬ (k : Int) < g.rules.length := by omega
          go_wp2_with fail
          go_roundw
          case rel => exact ⟨n + 1, by omega, by go_num, hi⟩
          case measure => simp [intOf]; omega
    · have hki : ¬ (n : Int) < g.vars.length := by omega
      go_wp2_with fail
      exact HP.out _ _ (hh.out.1.low (by have := H1.out.2.size; omega)) (H1.out.2.trans (hh.out.2.mono (by omega)))
end Go.Proofs.Ytmiiolgbjicocaa
