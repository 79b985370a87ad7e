/- The reference's Add. -/
import Derived.Test.YtoiinikbbkmjoaaRef0
namespace Go.Proofs.Ytoiinikbbkmjoaa
open Go.RowKit
def bld (L : List (List Int)) (x : List Int) (k : Nat) : List (List Int) := if spot L x < k then L.take (spot L x) ++ [x] ++ (L.take k).drop (spot L x) else L.take k
theorem bld_done {L : List (List Int)} {x : List Int} {k : Nat} (hk : k < L.length) (h : spot L x < k) : bld L x (k + 1) = bld L x k ++ [L[k]] := by
  unfold bld
  rw [if_pos h, if_pos (by omega), List.take_succ_eq_append_getElem hk, List.drop_append_of_le_length (by simp; omega), ← List.append_assoc]
theorem bld_at {L : List (List Int)} {x : List Int} {k : Nat} (hk : k < L.length) (h : spot L x = k) : bld L x (k + 1) = bld L x k ++ [x] ++ [L[k]] := by
  unfold bld
  rw [if_pos (show spot L x < k + 1 by omega), if_neg (show ¬ spot L x < k by omega), h, List.take_succ_eq_append_getElem hk, List.drop_append_of_le_length (by simp; omega)]
  rw [List.drop_eq_nil_of_le (by simp; omega)]
  rfl
theorem bld_before {L : List (List Int)} {x : List Int} {k : Nat} (hk : k < L.length) (h : k < spot L x) : bld L x (k + 1) = bld L x k ++ [L[k]] := by
  unfold bld
  rw [if_neg (by omega), if_neg (by omega), List.take_succ_eq_append_getElem hk]
theorem less_spot {L : List (List Int)} {x : List Int} {k : Nat} (hk : k < L.length) (h : k ≤ spot L x) : lessL x L[k] = decide (spot L x = k) := by
  unfold spot at *
  by_cases e : L.findIdx (fun b => lessL x b) = k
  · have hlt : L.findIdx (fun b => lessL x b) < L.length := by omega
    have h3 := List.findIdx_getElem (w := hlt) (p := fun b => lessL x b) (xs := L)
    rw [decide_eq_true e]
    have e2 : L[k] = L[L.findIdx (fun b => lessL x b)] := by congr 1; exact e.symm
    rw [e2]
    exact h3
  · rw [decide_eq_false e]
    have := List.not_of_lt_findIdx (show k < L.findIdx (fun b => lessL x b) by omega)
    simpa using this
theorem bld_end1 {L : List (List Int)} {x : List Int} (hx : x ∉ L) (h : spot L x < L.length) : bld L x L.length = rAdd L x := by
  unfold bld rAdd
  rw [if_pos h, if_neg hx, List.take_length]
theorem bld_end2 {L : List (List Int)} {x : List Int} (hx : x ∉ L) (h : ¬ spot L x < L.length) : bld L x L.length ++ [x] = rAdd L x := by
  have hle : spot L x ≤ L.length := List.findIdx_le_length
  have he : spot L x = L.length := by omega
  unfold bld rAdd
  rw [if_neg h, if_neg hx, he, List.take_length, List.drop_length, List.append_nil]
theorem bld_len {L : List (List Int)} {x : List Int} {k : Nat} (hk : k ≤ L.length) : (bld L x k).length ≤ L.length + 1 := by
  unfold bld
  split <;> simp <;> omega
def RPost (base : Nat) (L : List (List Int)) (w : World) (e : Ending) (w' : World) : Prop := ∃ v, e = .returned v ∧ Made base v L w' ∧ Grow w w'
theorem grow_drew (w : World) (n : Nat) : Grow w (w.drewN n) := ⟨rfl, rfl, rfl, Nat.le_refl _, fun _ _ => rfl⟩
set_option maxHeartbeats 4000000 in
theorem radd_any {base : Nat} {a b : Option Addr} {n ca cb : Nat} {L : List (List Int)} {x : List Int} {w : World} (h : Made base (.slice a n ca) L w) (hB : base ≤ w.heap.size) (hx : Lst w b x) (hn0 : b = none → cb = 0) (hL : Short L) (hxl : x.length ≤ 10000) (hn : L.length ≤ 10000) :
    Calls Try.prog 30 #[.slice a n ca, .slice b x.length cb] w (RPost base (rAdd L x) w) := by
  obtain rfl : n = L.length := by
    obtain ⟨_, _, e⟩ := h.lit
    injection e with _ e _
  have HM := Lib.hid h
  have HX := Lib.hid hx
  clear h hx
  go_enter Try.func30, Try.ntmps30
  go_wp2_with fail
  refine (rhas_any HM.out.l HX.out hL hxl (by omega)).mono ?_
  rintro e w1 ⟨rfl, m, rfl⟩
  by_cases hin : x ∈ L
  · have hr : rAdd L x = L := by unfold rAdd; rw [if_pos hin]
    rw [decide_eq_true hin]
    go_wp2
    go_ret
    exact ⟨_, rfl, by rw [hr]; exact HM.out.go (grow_drew _ _), grow_drew _ _⟩
  · have HN := Lib.hid hin
    rw [decide_eq_false hin]
    clear hin
    have HM1 := Lib.hid (HM.out.go (grow_drew w m))
    have HX1 := Lib.hid (HX.out.go (grow_drew w m))
    have HG1 := Lib.hid (grow_drew w m)
    have hsz1 : w.heap.size = (w.drewN m).heap.size := rfl
    have hB1 : base ≤ (w.drewN m).heap.size := hB
    generalize hwd : w.drewN m = wd at *
    clear hwd HM HX
    go_wp2
    go_loopw [5, 6, 7] (fun out done i wr => ∃ k : Nat, k ≤ L.length ∧ i = .int .i64 k ∧ done = .bool (decide (spot L x < k)) ∧ Hid (MadeR wd.heap.size base out (bld L x k) wr ∧ Grow wd wr)) (fun _ _ i _ => L.length - (intOf i).toNat)
    case atStart => exact ⟨0, by omega, rfl, rfl, Lib.hid ⟨madeR_new wd base, (Below.refl _ _).alloc (Nat.le_refl _) _⟩⟩
    case round =>
      obtain ⟨k, hk, rfl, rfl, hf⟩ := hrel
      by_cases hlt : k < L.length
      · have hki : (k : Int) < L.length := by omega
        have hk0 : (0 : Int) ≤ k := by omega
        obtain ⟨g, ai, di, rfl, hc0, ho0, hi0⟩ := HM1.out.at hlt
        have hcw := block_of_cell hc0
        have HC0 := Lib.hid hc0
        have HO0 := Lib.hid ho0
        have HI0 := Lib.hid hi0
        have hll := hL _ (List.getElem_mem hlt)
        have hbl := bld_len (x := x) hk
        clear hc0 ho0 hi0
        rcases Nat.lt_trichotomy (spot L x) k with hsp | hsp | hsp
        · have HT := Lib.hid (bld_done hlt hsp)
          have hd1 : decide (spot L x < k) = true := decide_eq_true hsp
          have hd2 : decide (spot L x < k + 1) = true := decide_eq_true (by omega)
          rw [hd1]
          have hc := (below_cell hf.out.2 hcw).trans HC0.out
          generalize L[k] = y at *
          generalize bld L x k = U at *
          go_wp2_with (first
            | (at_builtin; (refine append_word rfl (.tmp 35) (.tmp 40) rfl wd.heap.size base _ rfl U (hf.out.1.go ((Below.refl _ _).alloc (Nat.le_refl _) _)) y (.slice ai y.length di) ((HO0.out.below hf.out.2).alloc _) wr.heap.size rfl (heap_alloc_this _ _) (by omega) (by have := hf.out.2.size; simp; omega) ?_); intro g2 cap2 w2 hm2 hb2))
          go_roundw
          case rel => exact ⟨k + 1, by omega, by go_num, by rw [hd2], Lib.hid ⟨by rw [HT.out]; exact hm2, (hf.out.2.alloc hf.out.2.size _).trans hb2⟩⟩
          case measure => simp [intOf]; omega
        · have HT := Lib.hid (bld_at hlt hsp)
          have HL0 := less_spot (x := x) hlt (by omega)
          rw [decide_eq_true hsp] at HL0
          have hd1 : decide (spot L x < k) = false := decide_eq_false (by omega)
          have hd2 : decide (spot L x < k + 1) = true := decide_eq_true (by omega)
          rw [hd1]
          have HLs := Lib.hid (less_any (ca := cb) (cb := di) (HX1.out.go hf.out.2) (HI0.out.go hf.out.2) (by omega) (by omega))
          rw [HL0] at HLs
          clear HL0
          have hc := (below_cell hf.out.2 hcw).trans HC0.out
          generalize L[k] = y at *
          generalize bld L x k = U at *
          go_wp2_with fail
          refine HLs.out.mono ?_
          rintro e w2 ⟨rfl, m2, hw2⟩
          have H2 := Lib.hid (And.intro (hf.out.1.go (grow_drew _ m2)) (hf.out.2.trans (grow_drew _ m2)))
          rw [← hw2] at H2
          clear hw2 hc hf HLs
          go_wp2_with (first
            | (at_builtin; (refine append_ints rfl (.tmp 30) (.tmp 31) 22 rfl Try.underlying22 info3 w2.heap.size (.slice (some ⟨w2.heap.size, 0, none⟩) 0 0) [] rfl (own_empty _ (Nat.le_refl _)) b cb x.length x rfl rfl hn0 ((HX1.out.go (Grow.trans H2.out.2 ((Below.refl _ _).alloc (Nat.le_refl _) _))).src) (by simp only [List.length_nil]; omega) (by simp) ?_); intro v3 w3 hown3 hgrow3
               rw [List.nil_append] at hown3
               have hb3 : Grow w2 w3 := Below.trans ((Below.refl _ _).alloc (Nat.le_refl _) _) (below_grown (own_empty w2 (Nat.le_refl _)) hgrow3 (by simp))
               have H3 := Lib.hid (And.intro (H2.out.1.go hb3) (And.intro (H2.out.2.trans hb3) (own_mono hown3 (Nat.le_trans hB1 H2.out.2.size))))
               obtain ⟨va, vc, rfl, -, -⟩ := hown3.shape
               clear hown3 hgrow3 hb3 H2)
            | (at_builtin; (refine append_word rfl (.tmp 29) (.tmp 33) rfl wd.heap.size base _ rfl U (H3.out.1.go ((Below.refl _ _).alloc (Nat.le_refl _) _)) x (.slice va x.length vc) (H3.out.2.2.alloc _) w3.heap.size rfl (heap_alloc_this _ _) (by omega) (by have := H3.out.2.1.size; simp; omega) ?_); intro g4 cap4 w4 hm4 hb4
               have H4 := Lib.hid (And.intro hm4 ((H3.out.2.1.alloc H3.out.2.1.size _).trans hb4))
               have hc := (below_cell H4.out.2 hcw).trans HC0.out
               clear hm4 hb4 H3)
            | (at_builtin; (refine append_word rfl (.tmp 35) (.tmp 40) rfl wd.heap.size base (.slice (some ⟨g4, 0, none⟩) (U.length + 1) cap4) rfl (U ++ [x]) (H4.out.1.go ((Below.refl _ _).alloc (Nat.le_refl _) _)) y (.slice ai y.length di) ((HO0.out.below H4.out.2).alloc _) w4.heap.size rfl (heap_alloc_this _ _) (by simp only [List.length_append, List.length_singleton]; omega) (by have := H4.out.2.size; simp; omega) ?_); intro g5 cap5 w5 hm5 hb5
               have H5 := Lib.hid (And.intro hm5 ((H4.out.2.alloc H4.out.2.size _).trans hb5))
               clear hm5 hb5 H4))
          go_roundw
          case rel => exact ⟨k + 1, by omega, by go_num, by rw [hd2], Lib.hid ⟨by rw [HT.out]; have h := H5.out.1; rw [List.length_append, List.length_singleton] at h; exact h, H5.out.2⟩⟩
          case measure => simp [intOf]; omega
        · have HT := Lib.hid (bld_before hlt hsp)
          have HL0 := less_spot (x := x) hlt (by omega)
          rw [decide_eq_false (show ¬ spot L x = k by omega)] at HL0
          have hd1 : decide (spot L x < k) = false := decide_eq_false (by omega)
          have hd2 : decide (spot L x < k + 1) = false := decide_eq_false (by omega)
          rw [hd1]
          have HLs := Lib.hid (less_any (ca := cb) (cb := di) (HX1.out.go hf.out.2) (HI0.out.go hf.out.2) (by omega) (by omega))
          rw [HL0] at HLs
          clear HL0
          have hc := (below_cell hf.out.2 hcw).trans HC0.out
          generalize L[k] = y at *
          generalize bld L x k = U at *
          go_wp2_with fail
          refine HLs.out.mono ?_
          rintro e w2 ⟨rfl, m2, hw2⟩
          have H2 := Lib.hid (And.intro (hf.out.1.go (grow_drew _ m2)) (hf.out.2.trans (grow_drew _ m2)))
          rw [← hw2] at H2
          clear hw2 hc hf HLs
          have hc := (below_cell H2.out.2 hcw).trans HC0.out
          go_wp2_with (first
            | (at_builtin; (refine append_word rfl (.tmp 35) (.tmp 40) rfl wd.heap.size base _ rfl U (H2.out.1.go ((Below.refl _ _).alloc (Nat.le_refl _) _)) y (.slice ai y.length di) ((HO0.out.below H2.out.2).alloc _) w2.heap.size rfl (heap_alloc_this _ _) (by omega) (by have := H2.out.2.size; simp; omega) ?_); intro g5 cap5 w5 hm5 hb5))
          go_roundw
          case rel => exact ⟨k + 1, by omega, by go_num, by rw [hd2], Lib.hid ⟨by rw [HT.out]; exact hm5, (H2.out.2.alloc H2.out.2.size _).trans hb5⟩⟩
          case measure => simp [intOf]; omega
      · have hki : ¬ (k : Int) < L.length := by omega
        obtain rfl : k = L.length := by omega
        have hbl := bld_len (x := x) hk
        by_cases hsp : spot L x < L.length
        · have HT := Lib.hid (bld_end1 HN.out hsp)
          rw [decide_eq_true hsp]
          go_wp2
          go_ret
          exact ⟨_, rfl, by rw [← HT.out]; exact hf.out.1.made hB1, HG1.out.trans hf.out.2⟩
        · have HT := Lib.hid (bld_end2 HN.out hsp)
          rw [decide_eq_false hsp]
          generalize bld L x L.length = U at *
          go_wp2_with (first
            | (at_builtin; (refine append_ints rfl (.tmp 45) (.tmp 46) 22 rfl Try.underlying22 info3 wr.heap.size (.slice (some ⟨wr.heap.size, 0, none⟩) 0 0) [] rfl (own_empty _ (Nat.le_refl _)) b cb x.length x rfl rfl hn0 ((HX1.out.go (Grow.trans hf.out.2 ((Below.refl _ _).alloc (Nat.le_refl _) _))).src) (by simp only [List.length_nil]; omega) (by simp) ?_); intro v3 w3 hown3 hgrow3
               rw [List.nil_append] at hown3
               have hb3 : Grow wr w3 := Below.trans ((Below.refl _ _).alloc (Nat.le_refl _) _) (below_grown (own_empty wr (Nat.le_refl _)) hgrow3 (by simp))
               have H3 := Lib.hid (And.intro (hf.out.1.go hb3) (And.intro (hf.out.2.trans hb3) (own_mono hown3 (Nat.le_trans hB1 hf.out.2.size))))
               obtain ⟨va, vc, rfl, -, -⟩ := hown3.shape
               clear hown3 hgrow3 hb3 hf)
            | (at_builtin; (refine append_word rfl (.tmp 44) (.tmp 48) rfl wd.heap.size base _ rfl U (H3.out.1.go ((Below.refl _ _).alloc (Nat.le_refl _) _)) x (.slice va x.length vc) (H3.out.2.2.alloc _) w3.heap.size rfl (heap_alloc_this _ _) (by omega) (by have := H3.out.2.1.size; simp; omega) ?_); intro g4 cap4 w4 hm4 hb4
               have H4 := Lib.hid (And.intro hm4 ((H3.out.2.1.alloc H3.out.2.1.size _).trans hb4))
               clear hm4 hb4 H3))
          go_ret
          exact ⟨_, rfl, by rw [← HT.out]; exact H4.out.1.made hB1, HG1.out.trans H4.out.2⟩
end Go.Proofs.Ytoiinikbbkmjoaa
