/- The reference's lists of words: Has, Add, Meet, Times. -/
import Derived.Test.YtmiiolgbjicocaaS4
import Derived.Deep.RegionLaw
namespace Go.Proofs.Ytmiiolgbjicocaa
open Go.RowKit
theorem lst_drewN {w : World} {a : Option Addr} {xs : List Int} (h : Lst w a xs) (n : Nat) : Lst (w.drewN n) a xs := h
def meetP (A B : List (List Int)) : List (List Int) := A.filter (fun x => decide (x ∈ B))
def meetL (A B : List (List Int)) : List (List Int) := ofL (meetP A B)
theorem meetP_in {A B : List (List Int)} {i : Nat} (hi : i < A.length) (h : A[i] ∈ B) : meetP (A.take (i + 1)) B = meetP (A.take i) B ++ [A[i]] := by
  unfold meetP
  rw [List.take_succ_eq_append_getElem hi, List.filter_append]
  simp [h]
theorem meetP_out {A B : List (List Int)} {i : Nat} (hi : i < A.length) (h : A[i] ∉ B) : meetP (A.take (i + 1)) B = meetP (A.take i) B := by
  unfold meetP
  rw [List.take_succ_eq_append_getElem hi, List.filter_append]
  simp [h]
end Go.Proofs.Ytmiiolgbjicocaa
namespace Go.Proofs.Ytmiiolgbjicocaa
open Go.RowKit
/-- A list of words: its row from rb on, its words from base on. -/
def MadeR (rb base : Nat) (v : Value) (L : List (List Int)) (w : World) : Prop := ∃ vs, Row w rb v vs ∧ WordsB w base vs L
theorem MadeR.go {rb base : Nat} {v : Value} {L : List (List Int)} {w w' : World} (h : MadeR rb base v L w) (k : Grow w w') : MadeR rb base v L w' := by
  obtain ⟨vs, h1, h2⟩ := h
  exact ⟨vs, h1.keep (fun _ hk => k.block _ (row_ge h1 hk).1), h2.keep (fun _ _ hk => k.block _ (lt_of_block hk))⟩
theorem row_mono {w : World} {b b' : Nat} {v : Value} {vs : List Value} (h : Row w b v vs) (hb : b' ≤ b) : Row w b' v vs := by
  obtain ⟨h1, h2⟩ := h
  refine ⟨h1, ?_⟩
  rcases h2 with h2 | ⟨g, cap, cur, rfl, hg, r⟩
  · exact .inl h2
  · exact .inr ⟨g, cap, cur, rfl, Nat.le_trans hb hg, r⟩
theorem MadeR.made {rb base : Nat} {v : Value} {L : List (List Int)} {w : World} (h : MadeR rb base v L w) (hb : base ≤ rb) : Made base v L w := by
  obtain ⟨vs, h1, h2⟩ := h
  exact ⟨vs, row_mono h1 hb, h2⟩
theorem Made.r {base : Nat} {v : Value} {L : List (List Int)} {w : World} (h : Made base v L w) : MadeR base base v L w := h
theorem Made.mono {b b' : Nat} {v : Value} {L : List (List Int)} {w : World} (h : Made b v L w) (hb : b' ≤ b) : Made b' v L w := by
  obtain ⟨vs, h1, h2⟩ := h
  exact ⟨vs, row_mono h1 hb, h2.1, fun i h1 h3 => own_mono (h2.2 i h1 h3) hb⟩
/-- What a turning of blocks below base leaves of a list from base on. -/
theorem Made.kept {S : Nat → Prop} {base : Nat} {v : Value} {L : List (List Int)} {w w' : World} (h : Made base v L w) (k : Kept S w w') (hS : ∀ i, base ≤ i → ¬ S i) : Made base v L w' := by
  obtain ⟨vs, h1, h2⟩ := h
  refine ⟨vs, h1.keep (fun i hk => k.block _ (row_ge h1 hk).1 (hS i (row_ge h1 hk).2.1)), h2.1, fun i h3 h4 => (h2.2 i h3 h4).kept (fun g hg => k.block g ((h2.2 i h3 h4).lt hg).1 (hS g ((h2.2 i h3 h4).lt hg).2))⟩
theorem Made.lit {base : Nat} {v : Value} {L : List (List Int)} {w : World} (h : Made base v L w) : ∃ a c, v = .slice a L.length c := by
  obtain ⟨a, c, e, _⟩ := h.lsts
  exact ⟨a, c, e⟩
theorem Made.l {base : Nat} {a : Option Addr} {n c : Nat} {L : List (List Int)} {w : World} (h : Made base (.slice a n c) L w) : Lsts w a L := by
  obtain ⟨a, c, e, h, _⟩ := h.lsts
  injection e with e1 _ _
  subst e1
  exact h
theorem Made.at {base : Nat} {a : Option Addr} {n c : Nat} {L : List (List Int)} {w : World} (h : Made base (.slice a n c) L w) {i : Nat} (hi : i < L.length) :
    ∃ g ai di, a = some ⟨g, 0, none⟩ ∧ w.cell? ⟨g, i, none⟩ = some (.slice ai L[i].length di) ∧ Own w base (.slice ai L[i].length di) L[i] ∧ Lst w ai L[i] := by
  obtain ⟨vs, hrow, hw⟩ := h
  have hl := hw.1
  have hiv : i < vs.length := by omega
  obtain ⟨g, c2, hlv⟩ : ∃ g c2, Value.slice a n c = .slice (some ⟨g, 0, none⟩) vs.length c2 := by
    rcases hrow.2 with ⟨_, h0⟩ | ⟨g, cap, cur, h1, _⟩
    · omega
    · exact ⟨_, _, h1⟩
  rw [hlv] at hrow
  injection hlv with e1 _ _
  obtain ⟨_, _, _, cur, _, _, hcell⟩ := row_cells hrow
  have ho := hw.2 i hiv hi
  obtain ⟨ai, di, hv, hn, hin, _, hle⟩ := ho.shape
  rw [hv] at ho
  have := hcell i _ (List.getElem?_eq_getElem hiv)
  rw [hv, Nat.zero_add] at this
  exact ⟨g, ai, di, e1, this, ho, hin⟩
theorem madeR_new (w : World) (base : Nat) : MadeR w.heap.size base (.slice (some ⟨w.heap.size, 0, none⟩) 0 0) [] (w.alloc (.cells #[] 26)) :=
  ⟨[], ⟨rfl, .inr ⟨w.heap.size, 0, #[], rfl, Nat.le_refl _, heap_alloc_this _ _, Nat.le_refl _, Nat.zero_le _, rfl, rfl⟩⟩, rfl, fun i h => by simp at h⟩
theorem append_word {w : World} {ops : Array Oper} {rest : List Oper} {o : Oper} {a : Act} {Q : Exit → Act → World → Prop} (hgd : o.guard = none) (s x : Operand)
    (ho : o.op = .call { callee := .builtin .append, args := #[s, x], argTypes := #[39, 39] })
    (rb base : Nat) (v : Value) (hs : a.eval s = v) (L : List (List Int)) (hm : MadeR rb base v L w) (y : List Int) (u : Value) (hu : Own w base u y) (B : Nat) (hx : a.eval x = .slice (some ⟨B, 0, none⟩) 1 1)
    (hB : w.heap[B]? = some (.cells #[u] 26 (0, 0))) (hl : L.length ≤ 1000000) (hbase : rb ≤ w.heap.size)
    (h : ∀ g cap w', MadeR rb base (.slice (some ⟨g, 0, none⟩) (L.length + 1) cap) (L ++ [y]) w' → Below rb w w' → wpList Try.prog ops Q rest (a.put o.dst (.slice (some ⟨g, 0, none⟩) (L.length + 1) cap)) w') : wpList Try.prog ops Q (o :: rest) a w := by
  obtain ⟨i0, hi0, hz0, hz1, hz2⟩ := info_parts info26
  obtain ⟨vs, hrow, hwd⟩ := hm
  have hvl := hwd.1
  obtain ⟨ua, uc, hue, _⟩ := hu.shape
  refine wpList_append_lies w hgd s x 39 ho rb 26 i0 _ 1 24 Try.underlying39 hi0 hz0 hz1 hz2 rfl (by omega) v vs.length vs hs hrow ⟨B, 0, none⟩ 1 1 [u] hx rfl (World.news_of_block (cs := #[u]) (t := 26) (fr := (0, 0)) hB) (by rw [hue]; simp [Value.oneCell']) (by omega) (by simp only [maxLen]; omega) (by omega) hbase w.heap.size rfl ?_
  intro g cap w' hown hgrow _ _
  rw [hvl] at hown
  rw [hvl]
  refine h g cap w' ⟨vs ++ [u], ?_, words_snoc (hwd.keep (fun _ _ hk => grown3 hrow hgrow hk)) (own_grown3 hrow hgrow hu)⟩ ⟨hgrow.os, hgrow.tape, hgrow.output, hgrow.size, fun k hk => hgrow.block k (by omega) (fun e => by have := (row_ge hrow e.symm).2.1; omega)⟩
  show World.ownsRow _ _ _ _ _ _ _
  rw [List.length_append, hvl]
  exact hown
set_option maxHeartbeats 1000000 in
theorem rhas_any {a b : Option Addr} {ca cb : Nat} {L : List (List Int)} {x : List Int} {w : World} (h : Lsts w a L) (hx : Lst w b x) (hL : Short L) (hxl : x.length ≤ 10000) (hn : L.length ≤ 100000) :
    Calls Try.prog 39 #[.slice a L.length ca, .slice b x.length cb] w fun e w' => e = .returned (.bool (decide (x ∈ L))) ∧ ∃ n, w' = w.drewN n := by
  have HA := Lib.hid h
  have HX := Lib.hid hx
  clear h hx
  go_enter Try.func39, Try.ntmps39
  go_wp2
  go_loopw [5] (fun i wr => ∃ k : Nat, k ≤ L.length ∧ i = .int .i64 k ∧ Hid (x ∉ L.take k) ∧ ∃ n, wr = w.drewN n) (fun i _ => L.length - (intOf i).toNat)
  case atStart => exact ⟨0, by omega, rfl, Lib.hid (by simp), 0, rfl⟩
  case round =>
    obtain ⟨k, hk, rfl, hf, n, rfl⟩ := hrel
    by_cases hlt : k < L.length
    · have hki : (k : Int) < L.length := by omega
      have hk0 : (0 : Int) ≤ k := by omega
      obtain ⟨b1, o1, a1, d1, rfl, hb1, hc1, hx1, -, -⟩ := HA.out k hlt
      have h1 := hL _ (List.getElem_mem hlt)
      have HS := Lib.hid (same_any (ca := d1) (cb := cb) (w := w.drewN n) (lst_drewN hx1 n) (lst_drewN HX.out n) (by omega) (by omega))
      clear hx1
      by_cases he : L[k] = x
      · have HN : Hid (decide (x ∈ L) = true) := Lib.hid (decide_eq_true (he ▸ List.getElem_mem hlt))
        rw [decide_eq_true he] at HS
        clear he
        generalize L[k] = y at *
        go_wp2_with fail
        refine HS.out.mono ?_
        rintro e w1 ⟨rfl, m, rfl⟩
        go_wp2
        go_ret
        exact ⟨by rw [HN.out]; rfl, _, rfl⟩
      · have HT : Hid (x ∉ L.take (k + 1)) := Lib.hid (by
          rw [List.take_succ_eq_append_getElem hlt, List.mem_append]
          rintro (h | h)
          · exact hf.out h
          · exact he (List.mem_singleton.1 h).symm)
        rw [decide_eq_false he] at HS
        clear he
        generalize L[k] = y at *
        go_wp2_with fail
        refine HS.out.mono ?_
        rintro e w1 ⟨rfl, m, rfl⟩
        go_wp2
        go_roundw
        case rel => exact ⟨k + 1, by omega, by go_num, HT, _, rfl⟩
        case measure => simp [intOf]; omega
    · have hki : ¬ (k : Int) < L.length := by omega
      have HN : Hid (decide (x ∈ L) = false) := Lib.hid (decide_eq_false (by
        have h := hf.out
        rwa [List.take_of_length_le (by omega)] at h))
      go_wp2
      go_ret
      exact ⟨by rw [HN.out]; rfl, _, rfl⟩
end Go.Proofs.Ytmiiolgbjicocaa

namespace Go.Proofs.Ytmiiolgbjicocaa
open Go.RowKit
def bld (L : List (List Int)) (x : List Int) (k : Nat) : List (List Int) := if spot L x < k then L.take (spot L x) ++ [x] ++ (L.take k).drop (spot L x) else L.take k
theorem bld_done {L : List (List Int)} {x : List Int} {k : Nat} (hk : k < L.length) (h : spot L x < k) : bld L x (k + 1) = bld L x k ++ [L[k]] := by
  unfold bld
  rw [if_pos h, if_pos (by omega), List.take_succ_eq_append_getElem hk, List.drop_append_of_le_length (by simp; omega), ← List.append_assoc]
theorem bld_at {L : List (List Int)} {x : List Int} {k : Nat} (hk : k < L.length) (h : spot L x = k) : bld L x (k + 1) = bld L x k ++ [x] ++ [L[k]] := by
  unfold bld
  rw [if_pos (show spot L x < k + 1 by omega), if_neg (show ¬ spot L x < k by omega), h, List.take_succ_eq_append_getElem hk, List.drop_append_of_le_length (by simp; omega)]
  rw [List.drop_eq_nil_of_le (by simp; omega)]
  rfl
theorem bld_before {L : List (List Int)} {x : List Int} {k : Nat} (hk : k < L.length) (h : k < spot L x) : bld L x (k + 1) = bld L x k ++ [L[k]] := by
  unfold bld
  rw [if_neg (by omega), if_neg (by omega), List.take_succ_eq_append_getElem hk]
theorem less_spot {L : List (List Int)} {x : List Int} {k : Nat} (hk : k < L.length) (h : k ≤ spot L x) : lessL x L[k] = decide (spot L x = k) := by
  unfold spot at *
  by_cases e : L.findIdx (fun b => lessL x b) = k
  · have hlt : L.findIdx (fun b => lessL x b) < L.length := by omega
    have h3 := List.findIdx_getElem (w := hlt) (p := fun b => lessL x b) (xs := L)
    rw [decide_eq_true e]
    have e2 : L[k] = L[L.findIdx (fun b => lessL x b)] := by congr 1; exact e.symm
    rw [e2]
    exact h3
  · rw [decide_eq_false e]
    have := List.not_of_lt_findIdx (show k < L.findIdx (fun b => lessL x b) by omega)
    simpa using this
theorem bld_end1 {L : List (List Int)} {x : List Int} (hx : x ∉ L) (h : spot L x < L.length) : bld L x L.length = rAdd L x := by
  unfold bld rAdd
  rw [if_pos h, if_neg hx, List.take_length]
theorem bld_end2 {L : List (List Int)} {x : List Int} (hx : x ∉ L) (h : ¬ spot L x < L.length) : bld L x L.length ++ [x] = rAdd L x := by
  have hle : spot L x ≤ L.length := List.findIdx_le_length
  have he : spot L x = L.length := by omega
  unfold bld rAdd
  rw [if_neg h, if_neg hx, he, List.take_length, List.drop_length, List.append_nil]
theorem bld_len {L : List (List Int)} {x : List Int} {k : Nat} (hk : k ≤ L.length) : (bld L x k).length ≤ L.length + 1 := by
  unfold bld
  split <;> simp <;> omega
def RPost (base : Nat) (L : List (List Int)) (w : World) (e : Ending) (w' : World) : Prop := ∃ v, e = .returned v ∧ Made base v L w' ∧ Grow w w'
theorem grow_drewN (w : World) (n : Nat) : Grow w (w.drewN n) := ⟨rfl, rfl, rfl, Nat.le_refl _, fun _ _ => rfl⟩
set_option maxHeartbeats 4000000 in
theorem radd_any {base : Nat} {a b : Option Addr} {n ca cb : Nat} {L : List (List Int)} {x : List Int} {w : World} (h : Made base (.slice a n ca) L w) (hB : base ≤ w.heap.size) (hx : Lst w b x) (hn0 : b = none → cb = 0) (hL : Short L) (hxl : x.length ≤ 10000) (hn : L.length ≤ 10000) :
    Calls Try.prog 38 #[.slice a n ca, .slice b x.length cb] w (RPost base (rAdd L x) w) := by
  obtain rfl : n = L.length := by
    obtain ⟨_, _, e⟩ := h.lit
    injection e with _ e _
  have HM := Lib.hid h
  have HX := Lib.hid hx
  clear h hx
  go_enter Try.func38, Try.ntmps38
  go_wp2_with fail
  refine (rhas_any HM.out.l HX.out hL hxl (by omega)).mono ?_
  rintro e w1 ⟨rfl, m, rfl⟩
  by_cases hin : x ∈ L
  · have hr : rAdd L x = L := by unfold rAdd; rw [if_pos hin]
    rw [decide_eq_true hin]
    go_wp2
    go_ret
    exact ⟨_, rfl, by rw [hr]; exact HM.out.go (grow_drewN _ _), grow_drewN _ _⟩
  · have HN := Lib.hid hin
    rw [decide_eq_false hin]
    clear hin
    have HM1 := Lib.hid (HM.out.go (grow_drewN w m))
    have HX1 := Lib.hid (HX.out.go (grow_drewN w m))
    have HG1 := Lib.hid (grow_drewN w m)
    have hsz1 : w.heap.size = (w.drewN m).heap.size := rfl
    have hB1 : base ≤ (w.drewN m).heap.size := hB
    generalize hwd : w.drewN m = wd at *
    clear hwd HM HX
    go_wp2
    go_loopw [5, 6, 7] (fun out done i wr => ∃ k : Nat, k ≤ L.length ∧ i = .int .i64 k ∧ done = .bool (decide (spot L x < k)) ∧ Hid (MadeR wd.heap.size base out (bld L x k) wr ∧ Grow wd wr)) (fun _ _ i _ => L.length - (intOf i).toNat)
    case atStart => exact ⟨0, by omega, rfl, rfl, Lib.hid ⟨madeR_new wd base, (Below.refl _ _).alloc (Nat.le_refl _) _⟩⟩
    case round =>
      obtain ⟨k, hk, rfl, rfl, hf⟩ := hrel
      by_cases hlt : k < L.length
      · have hki : (k : Int) < L.length := by omega
        have hk0 : (0 : Int) ≤ k := by omega
        obtain ⟨g, ai, di, rfl, hc0, ho0, hi0⟩ := HM1.out.at hlt
        have hcw := block_of_cell hc0
        have HC0 := Lib.hid hc0
        have HO0 := Lib.hid ho0
        have HI0 := Lib.hid hi0
        have hll := hL _ (List.getElem_mem hlt)
        have hbl := bld_len (x := x) hk
        clear hc0 ho0 hi0
        rcases Nat.lt_trichotomy (spot L x) k with hsp | hsp | hsp
        · have HT := Lib.hid (bld_done hlt hsp)
          have hd1 : decide (spot L x < k) = true := decide_eq_true hsp
          have hd2 : decide (spot L x < k + 1) = true := decide_eq_true (by omega)
          rw [hd1]
          have hc := (below_cell hf.out.2 hcw).trans HC0.out
          generalize L[k] = y at *
          generalize bld L x k = U at *
          go_wp2_with (first
            | (at_builtin; (refine append_word rfl (.tmp 35) (.tmp 40) rfl wd.heap.size base _ rfl U (hf.out.1.go ((Below.refl _ _).alloc (Nat.le_refl _) _)) y (.slice ai y.length di) ((HO0.out.below hf.out.2).alloc _) wr.heap.size rfl (heap_alloc_this _ _) (by omega) (by have := hf.out.2.size; simp; omega) ?_); intro g2 cap2 w2 hm2 hb2))
          go_roundw
          case rel => exact ⟨k + 1, by omega, by go_num, by rw [hd2], Lib.hid ⟨by rw [HT.out]; exact hm2, (hf.out.2.alloc hf.out.2.size _).trans hb2⟩⟩
          case measure => simp [intOf]; omega
        · have HT := Lib.hid (bld_at hlt hsp)
          have HL0 := less_spot (x := x) hlt (by omega)
          rw [decide_eq_true hsp] at HL0
          have hd1 : decide (spot L x < k) = false := decide_eq_false (by omega)
          have hd2 : decide (spot L x < k + 1) = true := decide_eq_true (by omega)
          rw [hd1]
          have HLs := Lib.hid (less_any (ca := cb) (cb := di) (HX1.out.go hf.out.2) (HI0.out.go hf.out.2) (by omega) (by omega))
          rw [HL0] at HLs
          clear HL0
          have hc := (below_cell hf.out.2 hcw).trans HC0.out
          generalize L[k] = y at *
          generalize bld L x k = U at *
          go_wp2_with fail
          refine HLs.out.mono ?_
          rintro e w2 ⟨rfl, m2, hw2⟩
          have H2 := Lib.hid (And.intro (hf.out.1.go (grow_drewN _ m2)) (hf.out.2.trans (grow_drewN _ m2)))
          rw [← hw2] at H2
          clear hw2 hc hf HLs
          go_wp2_with (first
            | (at_builtin; (refine append_ints rfl (.tmp 30) (.tmp 31) 26 rfl Try.underlying26 info3 w2.heap.size (.slice (some ⟨w2.heap.size, 0, none⟩) 0 0) [] rfl (own_empty _ (Nat.le_refl _)) b cb x.length x rfl rfl hn0 ((HX1.out.go (Grow.trans H2.out.2 ((Below.refl _ _).alloc (Nat.le_refl _) _))).src) (by simp only [List.length_nil]; omega) (by simp) ?_); intro v3 w3 hown3 hgrow3
               rw [List.nil_append] at hown3
               have hb3 : Grow w2 w3 := Below.trans ((Below.refl _ _).alloc (Nat.le_refl _) _) (below_grown (own_empty w2 (Nat.le_refl _)) hgrow3 (by simp))
               have H3 := Lib.hid (And.intro (H2.out.1.go hb3) (And.intro (H2.out.2.trans hb3) (own_mono hown3 (Nat.le_trans hB1 H2.out.2.size))))
               obtain ⟨va, vc, rfl, -, -⟩ := hown3.shape
               clear hown3 hgrow3 hb3 H2)
            | (at_builtin; (refine append_word rfl (.tmp 29) (.tmp 33) rfl wd.heap.size base _ rfl U (H3.out.1.go ((Below.refl _ _).alloc (Nat.le_refl _) _)) x (.slice va x.length vc) (H3.out.2.2.alloc _) w3.heap.size rfl (heap_alloc_this _ _) (by omega) (by have := H3.out.2.1.size; simp; omega) ?_); intro g4 cap4 w4 hm4 hb4
               have H4 := Lib.hid (And.intro hm4 ((H3.out.2.1.alloc H3.out.2.1.size _).trans hb4))
               have hc := (below_cell H4.out.2 hcw).trans HC0.out
               clear hm4 hb4 H3)
            | (at_builtin; (refine append_word rfl (.tmp 35) (.tmp 40) rfl wd.heap.size base (.slice (some ⟨g4, 0, none⟩) (U.length + 1) cap4) rfl (U ++ [x]) (H4.out.1.go ((Below.refl _ _).alloc (Nat.le_refl _) _)) y (.slice ai y.length di) ((HO0.out.below H4.out.2).alloc _) w4.heap.size rfl (heap_alloc_this _ _) (by simp only [List.length_append, List.length_singleton]; omega) (by have := H4.out.2.size; simp; omega) ?_); intro g5 cap5 w5 hm5 hb5
               have H5 := Lib.hid (And.intro hm5 ((H4.out.2.alloc H4.out.2.size _).trans hb5))
               clear hm5 hb5 H4))
          go_roundw
          case rel => exact ⟨k + 1, by omega, by go_num, by rw [hd2], Lib.hid ⟨by rw [HT.out]; have h := H5.out.1; rw [List.length_append, List.length_singleton] at h; exact h, H5.out.2⟩⟩
          case measure => simp [intOf]; omega
        · have HT := Lib.hid (bld_before hlt hsp)
          have HL0 := less_spot (x := x) hlt (by omega)
          rw [decide_eq_false (show ¬ spot L x = k by omega)] at HL0
          have hd1 : decide (spot L x < k) = false := decide_eq_false (by omega)
          have hd2 : decide (spot L x < k + 1) = false := decide_eq_false (by omega)
          rw [hd1]
          have HLs := Lib.hid (less_any (ca := cb) (cb := di) (HX1.out.go hf.out.2) (HI0.out.go hf.out.2) (by omega) (by omega))
          rw [HL0] at HLs
          clear HL0
          have hc := (below_cell hf.out.2 hcw).trans HC0.out
          generalize L[k] = y at *
          generalize bld L x k = U at *
          go_wp2_with fail
          refine HLs.out.mono ?_
          rintro e w2 ⟨rfl, m2, hw2⟩
          have H2 := Lib.hid (And.intro (hf.out.1.go (grow_drewN _ m2)) (hf.out.2.trans (grow_drewN _ m2)))
          rw [← hw2] at H2
          clear hw2 hc hf HLs
          have hc := (below_cell H2.out.2 hcw).trans HC0.out
          go_wp2_with (first
            | (at_builtin; (refine append_word rfl (.tmp 35) (.tmp 40) rfl wd.heap.size base _ rfl U (H2.out.1.go ((Below.refl _ _).alloc (Nat.le_refl _) _)) y (.slice ai y.length di) ((HO0.out.below H2.out.2).alloc _) w2.heap.size rfl (heap_alloc_this _ _) (by omega) (by have := H2.out.2.size; simp; omega) ?_); intro g5 cap5 w5 hm5 hb5))
          go_roundw
          case rel => exact ⟨k + 1, by omega, by go_num, by rw [hd2], Lib.hid ⟨by rw [HT.out]; exact hm5, (H2.out.2.alloc H2.out.2.size _).trans hb5⟩⟩
          case measure => simp [intOf]; omega
      · have hki : ¬ (k : Int) < L.length := by omega
        obtain rfl : k = L.length := by omega
        have hbl := bld_len (x := x) hk
        by_cases hsp : spot L x < L.length
        · have HT := Lib.hid (bld_end1 HN.out hsp)
          rw [decide_eq_true hsp]
          go_wp2
          go_ret
          exact ⟨_, rfl, by rw [← HT.out]; exact hf.out.1.made hB1, HG1.out.trans hf.out.2⟩
        · have HT := Lib.hid (bld_end2 HN.out hsp)
          rw [decide_eq_false hsp]
          generalize bld L x L.length = U at *
          go_wp2_with (first
            | (at_builtin; (refine append_ints rfl (.tmp 45) (.tmp 46) 26 rfl Try.underlying26 info3 wr.heap.size (.slice (some ⟨wr.heap.size, 0, none⟩) 0 0) [] rfl (own_empty _ (Nat.le_refl _)) b cb x.length x rfl rfl hn0 ((HX1.out.go (Grow.trans hf.out.2 ((Below.refl _ _).alloc (Nat.le_refl _) _))).src) (by simp only [List.length_nil]; omega) (by simp) ?_); intro v3 w3 hown3 hgrow3
               rw [List.nil_append] at hown3
               have hb3 : Grow wr w3 := Below.trans ((Below.refl _ _).alloc (Nat.le_refl _) _) (below_grown (own_empty wr (Nat.le_refl _)) hgrow3 (by simp))
               have H3 := Lib.hid (And.intro (hf.out.1.go hb3) (And.intro (hf.out.2.trans hb3) (own_mono hown3 (Nat.le_trans hB1 hf.out.2.size))))
               obtain ⟨va, vc, rfl, -, -⟩ := hown3.shape
               clear hown3 hgrow3 hb3 hf)
            | (at_builtin; (refine append_word rfl (.tmp 44) (.tmp 48) rfl wd.heap.size base _ rfl U (H3.out.1.go ((Below.refl _ _).alloc (Nat.le_refl _) _)) x (.slice va x.length vc) (H3.out.2.2.alloc _) w3.heap.size rfl (heap_alloc_this _ _) (by omega) (by have := H3.out.2.1.size; simp; omega) ?_); intro g4 cap4 w4 hm4 hb4
               have H4 := Lib.hid (And.intro hm4 ((H3.out.2.1.alloc H3.out.2.1.size _).trans hb4))
               clear hm4 hb4 H3))
          go_ret
          exact ⟨_, rfl, by rw [← HT.out]; exact H4.out.1.made hB1, HG1.out.trans H4.out.2⟩
end Go.Proofs.Ytmiiolgbjicocaa

namespace Go.Proofs.Ytmiiolgbjicocaa
open Go.RowKit
theorem short_take {L : List (List Int)} (h : Short L) (k : Nat) : Short (L.take k) := fun y hy => h y (List.mem_of_mem_take hy)
theorem made_new (w : World) : Made w.heap.size (.slice (some ⟨w.heap.size, 0, none⟩) 0 0) [] (w.alloc (.cells #[] 26)) := madeR_new w w.heap.size
set_option maxHeartbeats 2000000 in
theorem rmeet_any {a b : Option Addr} {ca cb : Nat} {A B : List (List Int)} {w : World} (ha : Lsts w a A) (hb : Lsts w b B) (hA : Short A) (hB : Short B) (hn : A.length ≤ 10000) (hn2 : B.length ≤ 10000) :
    Calls Try.prog 45 #[.slice a A.length ca, .slice b B.length cb] w (RPost w.heap.size (meetL A B) w) := by
  have HA := Lib.hid ha
  have HB := Lib.hid hb
  clear ha hb
  go_enter Try.func45, Try.ntmps45
  go_wp2
  go_loopw [5, 6] (fun out i wr => ∃ k : Nat, k ≤ A.length ∧ i = .int .i64 k ∧ Hid (Made w.heap.size out (ofL (meetP (A.take k) B)) wr ∧ Grow w wr)) (fun _ i _ => A.length - (intOf i).toNat)
  case atStart => exact ⟨0, by omega, rfl, Lib.hid ⟨made_new w, (Below.refl _ _).alloc (Nat.le_refl _) _⟩⟩
  case round =>
    obtain ⟨k, hk, rfl, hf⟩ := hrel
    by_cases hlt : k < A.length
    · have hki : (k : Int) < A.length := by omega
      have hk0 : (0 : Int) ≤ k := by omega
      obtain ⟨b1, o, ai, di, rfl, hb1, hc0, hi, hd, -⟩ := HA.out k hlt
      have hc := (below_cell hf.out.2 hb1).trans hc0
      have HC0 := Lib.hid hc0
      have hll := hA _ (List.getElem_mem hlt)
      have hol := ofL_len (meetP (A.take k) B)
      have hfl : (meetP (A.take k) B).length ≤ (A.take k).length := List.length_filter_le _ _
      have HS : Hid (Short (ofL (meetP (A.take k) B))) := Lib.hid (short_ofL (fun y hy => hA y (List.mem_of_mem_take (List.mem_filter.1 hy).1)))
      have HI := Lib.hid hi
      have HH := Lib.hid (rhas_any (ca := cb) (cb := di) (HB.out.go hf.out.2) (hi.go hf.out.2) hB hll (by omega))
      obtain ⟨oa, oc, rfl⟩ := hf.out.1.lit
      have hol2 : (ofL (meetP (A.take k) B)).length ≤ 10000 := by simp at hfl; omega
      clear hol hfl hi hc0
      by_cases hin : A[k] ∈ B
      · have HT : Hid (ofL (meetP (A.take (k + 1)) B) = rAdd (ofL (meetP (A.take k) B)) A[k]) := Lib.hid (by rw [meetP_in hlt hin, ofL_snoc])
        rw [decide_eq_true hin] at HH
        clear hin
        generalize A[k] = x at *
        generalize ofL (meetP (A.take k) B) = U at *
        go_wp2_with fail
        refine HH.out.mono ?_
        rintro e w2 ⟨rfl, m, hw2⟩
        have H2 := Lib.hid (And.intro (hf.out.1.go (grow_drewN _ m)) (hf.out.2.trans (grow_drewN _ m)))
        rw [← hw2] at H2
        clear hw2 hf HH hc
        have hc := (below_cell H2.out.2 hb1).trans HC0.out
        go_wp2_with fail
        refine (radd_any H2.out.1 H2.out.2.size (HI.out.go H2.out.2) hd HS.out hll hol2).mono ?_
        rintro e w3 ⟨v2, rfl, hm, hg⟩
        go_wp2
        go_roundw
        case rel => exact ⟨k + 1, by omega, by go_num, Lib.hid ⟨by rw [HT.out]; exact hm, H2.out.2.trans hg⟩⟩
        case measure => simp [intOf]; omega
      · have HT : Hid (ofL (meetP (A.take (k + 1)) B) = ofL (meetP (A.take k) B)) := Lib.hid (by rw [meetP_out hlt hin])
        rw [decide_eq_false hin] at HH
        clear hin
        generalize A[k] = x at *
        generalize ofL (meetP (A.take k) B) = U at *
        go_wp2_with fail
        refine HH.out.mono ?_
        rintro e w2 ⟨rfl, m, hw2⟩
        have H2 := Lib.hid (And.intro (hf.out.1.go (grow_drewN _ m)) (hf.out.2.trans (grow_drewN _ m)))
        rw [← hw2] at H2
        clear hw2 hf HH hc
        go_wp2
        go_roundw
        case rel => exact ⟨k + 1, by omega, by go_num, Lib.hid ⟨by rw [HT.out]; exact H2.out.1, H2.out.2⟩⟩
        case measure => simp [intOf]; omega
    · have hki : ¬ (k : Int) < A.length := by omega
      have e : A.take k = A := List.take_of_length_le (by omega)
      rw [e] at hf
      go_wp2
      go_ret
      exact ⟨_, rfl, hf.out.1, hf.out.2⟩
theorem timesP_mul {n m : Nat} {A B : List (List Int)} {k : Int} (hA : A.length ≤ n) (hB : B.length ≤ m) : (timesP A B k).length ≤ n * m := by
  rw [timesP_len]; exact Nat.mul_le_mul hA hB
set_option maxHeartbeats 4000000 in
theorem rtimes_any {a b : Option Addr} {ca cb : Nat} {A B : List (List Int)} {w : World} (ha : Lsts w a A) (hb : Lsts w b B) (hA : ∀ y ∈ A, y.length ≤ 5000) (hB : ∀ y ∈ B, y.length ≤ 5000) (hn : A.length ≤ 90) (hn2 : B.length ≤ 90) (k : Int) :
    Calls Try.prog 59 #[.slice a A.length ca, .slice b B.length cb, .int .i64 k] w (RPost w.heap.size (timesL A B k) w) := by
  have HA := Lib.hid ha
  have HB := Lib.hid hb
  clear ha hb
  go_enter Try.func59, Try.ntmps59
  go_wp2
  go_loopw [7, 8] (fun out i wr => ∃ p : Nat, p ≤ A.length ∧ i = .int .i64 p ∧ Hid (Made w.heap.size out (ofL (timesP (A.take p) B k)) wr ∧ Grow w wr)) (fun _ i _ => A.length - (intOf i).toNat)
  case atStart => exact ⟨0, by omega, rfl, Lib.hid ⟨made_new w, (Below.refl _ _).alloc (Nat.le_refl _) _⟩⟩
  case round =>
    obtain ⟨p, hp, rfl, hf⟩ := hrel
    by_cases hlt : p < A.length
    · have hki : (p : Int) < A.length := by omega
      have hp0 : (0 : Int) ≤ p := by omega
      obtain ⟨b1, o1, ai, di, rfl, hb1, hc0, hi, hd, hld⟩ := HA.out p hlt
      have HC0 := Lib.hid hc0
      have hll := hA _ (List.getElem_mem hlt)
      have HI := Lib.hid hi
      have HON := Lib.hid (timesP_on (B := B) (k := k) hlt)
      have HP : Hid (∀ q ≤ B.length, Short (timesP (A.take p) B k ++ (B.take q).map (fun b => joinL A[p] b k)) ∧ (timesP (A.take p) B k ++ (B.take q).map (fun b => joinL A[p] b k)).length ≤ 10000) := Lib.hid (fun q hq => by
        constructor
        · intro y hy
          rcases List.mem_append.1 hy with hy | hy
          · exact timesP_short (fun y hy => hA y (List.mem_of_mem_take hy)) hB y hy
          · obtain ⟨b, hb, rfl⟩ := List.mem_map.1 hy
            have := joinL_len A[p] b k
            have := hB b (List.mem_of_mem_take hb)
            omega
        · have h1 : (timesP (A.take p) B k).length ≤ 90 * 90 := timesP_mul (by simp; omega) hn2
          rw [List.length_append, List.length_map, List.length_take]
          omega)
      clear hi hc0
      generalize A[p] = x at *
      go_wp2
      go_loopw [7, 9] (fun out j ws => ∃ q : Nat, q ≤ B.length ∧ j = .int .i64 q ∧ Hid (Made w.heap.size out (ofL (timesP (A.take p) B k ++ (B.take q).map (fun b => joinL x b k))) ws ∧ Grow w ws)) (fun _ j _ => B.length - (intOf j).toNat)
      case atStart => exact ⟨0, by omega, rfl, Lib.hid (by simpa using hf.out)⟩
      case round =>
        obtain ⟨q, hq, rfl, hg⟩ := hrel
        by_cases hqt : q < B.length
        · have hqi : (q : Int) < B.length := by omega
          have hq0 : (0 : Int) ≤ q := by omega
          obtain ⟨b2, o2, bi, ei, rfl, hb2, hd0, hi2, hd2, hld2⟩ := HB.out q hqt
          have hc := (below_cell hg.out.2 hb1).trans HC0.out
          have hc2 := (below_cell hg.out.2 hb2).trans hd0
          have hbl := hB _ (List.getElem_mem hqt)
          have hjl := joinL_len x B[q] k
          have HQ : Hid (ofL (timesP (A.take p) B k ++ (B.take (q + 1)).map (fun b => joinL x b k)) = rAdd (ofL (timesP (A.take p) B k ++ (B.take q).map (fun b => joinL x b k))) (joinL x B[q] k)) := Lib.hid (by
            rw [List.take_succ_eq_append_getElem hqt, List.map_append, ← List.append_assoc]
            exact ofL_snoc _ _)
          have HS := Lib.hid (short_ofL (HP.out q hq).1)
          have hol : (ofL (timesP (A.take p) B k ++ (B.take q).map (fun b => joinL x b k))).length ≤ 10000 := Nat.le_trans (ofL_len _) (HP.out q hq).2
          have HI2 := Lib.hid hi2
          obtain ⟨oa, oc, rfl⟩ := hg.out.1.lit
          have hgd : Grow wr wr.drew := ⟨rfl, rfl, rfl, Nat.le_refl _, fun _ _ => rfl⟩
          have HG := Lib.hid (And.intro (hg.out.1.go hgd) (hg.out.2.trans hgd))
          have HJ := Lib.hid (rjoin_any (cap := di) (cb := ei) (HI.out.go HG.out.2) hd (by omega) (HI2.out.go HG.out.2) hd2 (by omega) (Nat.le_refl _) k)
          clear hi2 hd0 hgd hf
          generalize B[q] = y at *
          generalize ofL (timesP (A.take p) B k ++ (B.take q).map (fun b => joinL x b k)) = acc at *
          go_wp2
          go_region_law (first
            | (go_simp; go_at_call 38; refine (radd_any H2.out.1 H2.out.2.size X2.out hvn2 HS.out (by omega) hol).mono ?_; rintro e w3 ⟨v3, rfl, hm3, hg3⟩
               have H3 := Lib.hid (And.intro hm3 (H2.out.2.trans hg3))
               clear hm3 hg3 H2)
            | (go_simp; go_at_call 78; refine HJ.out.mono ?_; rintro e w2 ⟨v, rfl, hown, hb⟩
               obtain ⟨va, vc, rfl, hvn, hvi, -, hvl⟩ := hown.shape
               have H2 := Lib.hid (And.intro (HG.out.1.go hb) (HG.out.2.trans hb))
               have X2 := Lib.hid (show Lst w2 va (joinL x y k) from hvi)
               have hvn2 : va = none → vc = 0 := fun h => (hvn h).1
               clear hown hb hvi hvn))
          go_wp2
          all_goals exact ⟨⟨q + 1, by omega, by go_num, by rw [HQ.out]; exact H3⟩, by simp [intOf]; omega⟩
        · have hqi : ¬ (q : Int) < B.length := by omega
          have e : B.take q = B := List.take_of_length_le (by omega)
          rw [e, ← HON.out] at hg
          go_wp2
          go_roundw
          case rel => exact ⟨p + 1, by omega, by go_num, hg⟩
          case measure => simp [intOf]; omega
    · have hki : ¬ (p : Int) < A.length := by omega
      have e : A.take p = A := List.take_of_length_le (by omega)
      rw [e] at hf
      go_wp2
      go_ret
      exact ⟨_, rfl, hf.out.1, hf.out.2⟩
end Go.Proofs.Ytmiiolgbjicocaa
