/- A variable's rows, in order: the walk of Rows. -/
import Derived.Test.YtmiiolgbjicocaaAddW
import Derived.Test.YtmiiolgbjicocaaStepAppend
namespace Go.Proofs.Ytmiiolgbjicocaa
open Go.RowKit
/-- Rows in blocks of the call's own. -/
def ROut (w : World) (base : Nat) (v : Value) (x : List TRow) : Prop :=
  ∃ rs, w.ownsRow base 44 2 v rs.length (flatR rs) ∧ rs.length = x.length ∧ ∀ (i : Nat) r y, rs[i]? = some r → x[i]? = some y → Own w base r.1 y.1 ∧ Own w base r.2 y.2
theorem ROut.grow {w w' : World} {base : Nat} {v : Value} {x : List TRow} (h : ROut w base v x) (hg : Grow w w') : ROut w' base v x := by
  obtain ⟨rs, h1, h2, h3⟩ := h
  exact ⟨rs, own_stay h1 (fun k hk => hg.block k (own_lt h1 hk).1), h2, fun i r y hr hy => ⟨(h3 i r y hr hy).1.below hg, (h3 i r y hr hy).2.below hg⟩⟩
theorem own_type {w : World} {base : Nat} {v : Value} {xs : List Int} (h : Own w base v xs) {k : Nat} (hk : v.ownBlock = some k) : ∃ cs, w.heap[k]? = some (.cells cs 3 (0, 0)) := by
  rcases h.2 with ⟨rfl, _⟩ | ⟨g, cap, cur, rfl, _, hh, _⟩
  · simp [Value.ownBlock] at hk
  · simp [Value.ownBlock] at hk
    subst hk
    exact ⟨cur, hh⟩
theorem row_type {w : World} {base n : Nat} {v : Value} {xs : List Value} (h : w.ownsRow base 44 2 v n xs) {k : Nat} (hk : v.ownBlock = some k) : ∃ cs, w.heap[k]? = some (.cells cs 44 (0, 0)) := by
  rcases h.2 with ⟨rfl, _⟩ | ⟨g, cap, cur, rfl, _, hh, _⟩
  · simp [Value.ownBlock] at hk
  · simp [Value.ownBlock] at hk
    subst hk
    exact ⟨cur, hh⟩
theorem grow_onto {a b c : World} (h : Grow a b) (k : Below a.heap.size b c) : Grow a c := Below.trans h k
/-- One row more. -/
theorem rout_snoc {w w' : World} {base n : Nat} {v v' : Value} {rs : List (Value × Value)} {x : List TRow} {u1 u2 : Value} {y : TRow} (h1 : w.ownsRow base 44 2 v rs.length (flatR rs)) (h2 : rs.length = x.length) (h3 : ∀ (i : Nat) r y, rs[i]? = some r → x[i]? = some y → Own w base r.1 y.1 ∧ Own w base r.2 y.2) (ho1 : Own w base u1 y.1) (ho2 : Own w base u2 y.2) (hgr : w.grownBy w' v.ownBlock) (ho : w'.ownsRow base 44 2 v' n (flatR rs ++ [u1, u2])) (hn : n = rs.length + 1) : ROut w' base v' (x ++ [y]) := by
  have hst : ∀ {u : Value} {xs : List Int}, Own w base u xs → Own w' base u xs := fun {u xs} hu => hu.kept (fun k hk => hgr.block k (hu.lt hk).1 (fun e => by
    obtain ⟨cs, q1⟩ := own_type hu hk
    obtain ⟨ds, q2⟩ := row_type h1 e.symm
    rw [q1] at q2
    injection q2 with q2
    injection q2 with _ q2
    exact absurd q2 (by decide)))
  subst hn
  refine ⟨rs ++ [(u1, u2)], ?_, by rw [List.length_append, List.length_append, h2]; rfl, fun i r z hr hz => ?_⟩
  · rw [List.length_append, flatR_app]
    exact ho
  · by_cases hi : i < rs.length
    · rw [List.getElem?_append_left hi] at hr
      rw [List.getElem?_append_left (by omega)] at hz
      exact ⟨hst (h3 i r z hr hz).1, hst (h3 i r z hr hz).2⟩
    · have hil := (List.getElem?_eq_some_iff.1 hr).1
      rw [List.length_append] at hil
      simp only [List.length_cons, List.length_nil] at hil
      obtain rfl : i = rs.length := by omega
      rw [List.getElem?_append_right (by omega), Nat.sub_self] at hr
      rw [List.getElem?_append_right (by omega), h2, Nat.sub_self] at hz
      simp only [List.getElem?_cons_zero, Option.some.injEq] at hr hz
      subst hr hz
      exact ⟨hst ho1, hst ho2⟩
def RowsPost (x : List TRow) (w : World) (e : Ending) (w' : World) : Prop := ∃ v, e = .returned v ∧ ROut w' w.heap.size v x ∧ Grow w w'
set_option maxRecDepth 100000 in
set_option maxHeartbeats 4000000 in
theorem rows_any {w : World} {tb v nv : Nat} {x : List TRow} (ht : TRows w tb v nv x) (hL : ∀ r ∈ x, r.1.length ≤ 100000 ∧ r.2.length ≤ 100000) (hn : x.length ≤ 100000) : Calls Try.prog 13 #[.pointer (some ⟨tb, 0, none⟩), .int .i64 (v : Nat)] w (RowsPost x w) := by
  have HT := Lib.hid ht
  have HL := Lib.hid hL
  obtain ⟨ob, oc, ra, rc, c1, hv, htb, hob, c2, hrow⟩ := ht
  obtain ⟨i4, hi4, hy0, hy1, hy2⟩ := info_parts info44
  have hvi : (v : Int) < nv := by omega
  have hv0 : ¬ (nv : Int) ≤ v := by omega
  have HR := Lib.hid hrow
  clear hrow hL
  go_enter Try.func13, Try.ntmps13
  go_wp2_with (first
    | (at_make; (refine wpList_make_own _ rfl _ _ 41 rfl w.heap.size 44 i4 _ 2 Try.underlying41 hi4 hy0 hy1 .i64 .i64 _ x.length rfl rfl rfl (by rw [hy2]; omega) (by unfold maxLen; omega) (Nat.le_refl _) ?_); intro w0 hown0 hgrow0
       have hg0 : Grow w w0 := ⟨hgrow0.os, hgrow0.tape, hgrow0.output, hgrow0.size, fun k hk => hgrow0.block k hk (by simp)⟩
       have H0 := Lib.hid (And.intro hown0 hg0)
       have d1 := (below_cell hg0 htb).trans c1
       have d2 := (below_cell hg0 hob).trans c2
       clear hown0 hgrow0 hg0))
  go_loopw [5, 36] (fun o i wr => ∃ k : Nat, k ≤ x.length ∧ i = .int .i64 k ∧ Hid (ROut wr w.heap.size o (x.take k) ∧ Grow w wr)) (fun _ i _ => x.length - (intOf i).toNat)
  case atStart => exact ⟨0, by omega, rfl, ⟨[], H0.out.1, rfl, fun i r y hr _ => by simp at hr⟩, H0.out.2⟩
  case round =>
    obtain ⟨k, hk, rfl, hh⟩ := hrel
    clear d1 d2 H0
    by_cases hkt : k < x.length
    · have hki : (k : Int) < x.length := by omega
      obtain ⟨rb, la, lc, ua, uc, rfl, hrb, e1, e2, e3, e4, e5, e6⟩ := HR.out k hkt
      have f1 := (below_cell hh.out.2 hrb).trans e1
      have f3 := (below_cell hh.out.2 hrb).trans e3
      have HT2 := Lib.hid (List.take_succ_eq_append_getElem hkt)
      obtain ⟨hs1, hs2⟩ := HL.out x[k] (List.getElem_mem hkt)
      generalize x[k] = y at *
      obtain ⟨rs, h1, h2, h3⟩ := hh.out.1
      have hrl : rs.length ≤ 100000 := by rw [h2, List.length_take]; omega
      have hC := heap_alloc_this wr (.cells #[.slice la y.1.length lc, .slice ua y.2.length uc] 44)
      have HG1 := Lib.hid ((hh.out.2.trans (grow_one wr (.cells #[.slice la y.1.length lc, .slice ua y.2.length uc] 44))).trans (grow_drew _))
      have HG2 := Lib.hid ((grow_one wr (.cells #[.slice la y.1.length lc, .slice ua y.2.length uc] 44)).trans (grow_drew _))
      have s0 : (wr.alloc (.cells #[.slice la y.1.length lc, .slice ua y.2.length uc] 44)).drew.cell? ⟨wr.heap.size, 0, none⟩ = some (.slice la y.1.length lc) := cell_of_block (off := 0) hC
      have s1 : (wr.alloc (.cells #[.slice la y.1.length lc, .slice ua y.2.length uc] 44)).drew.cell? ⟨wr.heap.size, 1, none⟩ = some (.slice ua y.2.length uc) := cell_of_block (off := 1) hC
      have hCl : wr.heap.size < (wr.alloc (.cells #[.slice la y.1.length lc, .slice ua y.2.length uc] 44)).drew.heap.size := lt_of_block hC
      have HO := Lib.hid (And.intro h1 (And.intro h2 h3))
      have HX := Lib.hid (And.intro (e2.go HG1.out) (e4.go HG1.out))
      have HN := Lib.hid (And.intro e5 e6)
      have HGO := Lib.hid hh.out.2
      clear hC h1 h2 h3 e1 e2 e3 e4 e5 e6 hh HR HL
      go_wp2_with fail
      refine wp_region_held_drew (S := fun w' => w'.cell? ⟨wr.heap.size, 0, none⟩ = some (.slice la y.1.length lc) ∧ w'.cell? ⟨wr.heap.size, 1, none⟩ = some (.slice ua y.2.length uc)) (by kernel_rfl) (⟨s0, s1⟩) (fun hHeld => ?_)
      refine wpAnyH_take (i := 0) (v := ?_) rfl (by kernel_rfl) (by kernel_rfl) (by kernel_rfl) (fun _ _ _ h => h) (Or.inl ⟨by rfl, ?_⟩) (by with_reducible assumption) ?_
      rotate_left
      · intro w hSw
        try dsimp only at hSw
        go_simp
        try with_reducible rfl
      try simp only [Act.put, List.setIfInBounds_toArray]
      refine wpAnyH_take (i := 1) (v := ?_) rfl (by kernel_rfl) (by kernel_rfl) (by kernel_rfl) (fun _ _ _ h => h) (Or.inl ⟨by rfl, ?_⟩) (by with_reducible assumption) ?_
      rotate_left
      · intro w hSw
        try dsimp only at hSw
        go_simp
        try with_reducible rfl
      try simp only [Act.put]
      refine wpAnyH_take (i := 2) (v := ?_) rfl (by kernel_rfl) (by kernel_rfl) (by kernel_rfl) (fun _ _ _ h => h) (Or.inl ⟨by rfl, ?_⟩) (by with_reducible assumption) ?_
      rotate_left
      · intro w hSw
        try dsimp only at hSw
        go_simp
        try with_reducible rfl
      try simp only [Act.put]
      refine wpAnyH_take (i := 4) (v := ?_) rfl (by kernel_rfl) (by kernel_rfl) (by kernel_rfl) (fun _ _ _ h => h) (Or.inl ⟨by rfl, ?_⟩) (by with_reducible assumption) ?_
      rotate_left
      · intro w hSw
        try dsimp only at hSw
        go_simp
        try with_reducible rfl
      try simp only [Act.put]
      refine wpAnyH_take (i := 5) (v := ?_) rfl (by kernel_rfl) (by kernel_rfl) (by kernel_rfl) (fun _ _ _ h => h) (Or.inl ⟨by rfl, ?_⟩) (by with_reducible assumption) ?_
      rotate_left
      · intro w hSw
        try dsimp only at hSw
        go_simp
        try with_reducible rfl
      try simp only [Act.put]
      refine wpAnyH_ready (rs := [3]) (by kernel_rfl) (by simp) ?_
      refine AllReadyH.cons (o := _) rfl (fun K hK => ?_) ?_
      · refine step_append_ints rfl (.const (.slice none 0 0)) (.tmp 42) 26 rfl Try.underlying26 info3 w.heap.size (.slice none 0 0) [] (by rfl) (own_nil _ _) la lc y.1.length y.1 (by rfl) rfl HN.out.1 (Ints.src HX.out.1) (by simp only [List.length_nil]; omega) HG1.out.size ?_
        intro u1 w4 hown1 hgrow1
        rw [List.nil_append] at hown1
        obtain ⟨a1, k1, rfl, -⟩ := hown1.shape
        have HG4 := Lib.hid (show Grow _ w4 from ⟨hgrow1.os, hgrow1.tape, hgrow1.output, hgrow1.size, fun k hk => hgrow1.block k hk (by simp [Value.ownBlock])⟩)
        have HU1 := Lib.hid hown1
        have p0 := (below_cell HG4.out hCl).trans s0
        have p1 := (below_cell HG4.out hCl).trans s1
        have hCl4 := Nat.lt_of_lt_of_le hCl HG4.out.size
        have HX4 := Lib.hid (HX.out.2.go HG4.out)
        clear hown1 hgrow1
        refine hK.out _ _ (⟨p0, p1⟩) (fun hHeld => ?_)
        clear hK K
        try simp only [Act.put]
        refine wpAnyH_ready (rs := [6]) (by kernel_rfl) (by simp) ?_
        refine AllReadyH.cons (o := _) rfl (fun K hK => ?_) ?_
        · refine step_append_ints rfl (.const (.slice none 0 0)) (.tmp 45) 26 rfl Try.underlying26 info3 w.heap.size (.slice none 0 0) [] (by rfl) (own_nil _ _) ua uc y.2.length y.2 (by rfl) rfl HN.out.2 (Ints.src HX4.out) (by simp only [List.length_nil]; omega) (Nat.le_trans HG1.out.size HG4.out.size) ?_
          intro u2 w5 hown2 hgrow2
          rw [List.nil_append] at hown2
          obtain ⟨a2, k2, rfl, -⟩ := hown2.shape
          have HG5 := Lib.hid (show Grow w4 w5 from ⟨hgrow2.os, hgrow2.tape, hgrow2.output, hgrow2.size, fun k hk => hgrow2.block k hk (by simp [Value.ownBlock])⟩)
          have HG6 := Lib.hid (((HG2.out.trans HG4.out).trans HG5.out).trans (grow_one w5 (.cells #[.slice a1 y.1.length k1, .slice a2 y.2.length k2] 44)))
          have HG7 := Lib.hid (HG5.out.trans (grow_one w5 (.cells #[.slice a1 y.1.length k1, .slice a2 y.2.length k2] 44)))
          have HU2 := Lib.hid (Own.below hown2 (grow_one w5 (.cells #[.slice a1 y.1.length k1, .slice a2 y.2.length k2] 44)))
          have q0 := (below_cell HG5.out hCl4).trans p0
          have q1 := (below_cell HG5.out hCl4).trans p1
          have hCl5 := Nat.lt_of_lt_of_le hCl4 HG5.out.size
          have x0 := (below_cell (grow_one w5 (.cells #[.slice a1 y.1.length k1, .slice a2 y.2.length k2] 44)) hCl5).trans q0
          have x1 := (below_cell (grow_one w5 (.cells #[.slice a1 y.1.length k1, .slice a2 y.2.length k2] 44)) hCl5).trans q1
          have HOW := Lib.hid (own_stay HO.out.1 (fun k hk => HG6.out.block k (own_lt HO.out.1 hk).1))
          have HND := Lib.hid (World.news_of_block (w := (w5.alloc (.cells #[.slice a1 y.1.length k1, .slice a2 y.2.length k2] 44))) (cs := #[.slice a1 y.1.length k1, .slice a2 y.2.length k2]) (t := 44) (fr := (0, 0)) (heap_alloc_new _ _))
          clear hown2 hgrow2
          refine hK.out _ _ (⟨q0, q1⟩) (fun hHeld => ?_)
          clear hK K
          try simp only [Act.put]
          refine wpAnyH_take (i := 7) (v := ?_) rfl (by kernel_rfl) (by kernel_rfl) (by kernel_rfl) (fun _ _ _ h => h) (Or.inl ⟨by rfl, ?_⟩) (by with_reducible assumption) ?_
          rotate_left
          · intro w hSw
            try dsimp only at hSw
            go_simp
            try with_reducible rfl
          try simp only [Act.put]
          refine wpAnyH_ready (rs := [8]) (by kernel_rfl) (by simp) ?_
          refine AllReadyH.cons (o := _) rfl (fun K hK => ?_) ?_
          · go_simp
            refine hK.out _ _ (⟨x0, x1⟩) (fun hHeld => ?_)
            clear hK K
            try simp only [Act.put, List.setIfInBounds_toArray, List.set_cons_zero, List.set_cons_succ]
            refine wpAnyH_ready (rs := [9]) (by kernel_rfl) (by simp) ?_
            refine AllReadyH.cons (o := _) rfl (fun K hK => ?_) ?_
            · refine step_append_lies _ (by rfl) (.tmp 40) (.tmp 48) 41 (by rfl) w.heap.size 44 i4 _ 2 48 Try.underlying41 hi4 hy0 hy1 hy2 rfl (by decide) _ rs.length _ (by rfl) HOW.out ⟨w5.heap.size, 0, none⟩ 1 1 [.slice a1 y.1.length k1, .slice a2 y.2.length k2] (by rfl) (by rfl) HND.out (by simp [Value.oneCell']) (by decide) (by simp only [maxLen]; omega) (by omega) (Nat.le_trans HGO.out.size HG6.out.size) (w5.heap.size + 1) (by simp) ?_
              intro gb cap w8 hown hgrow hat hlt
              have HRS := Lib.hid (rout_snoc HOW.out HO.out.2.1 (fun i r y hr hy => ⟨(HO.out.2.2 i r y hr hy).1.below HG6.out, (HO.out.2.2 i r y hr hy).2.below HG6.out⟩) (HU1.out.below HG7.out) HU2.out hgrow hown rfl)
              have HG8 : Hid (Grow w w8) := Lib.hid (grow_onto (HGO.out.trans HG6.out) ⟨hgrow.os, hgrow.tape, hgrow.output, hgrow.size, fun k hk => hgrow.block k (Nat.lt_of_lt_of_le hk (Nat.le_trans HGO.out.size HG6.out.size)) (fun e => by have := (own_lt HOW.out e.symm).2; omega)⟩)
              have r0 : w8.cell? ⟨wr.heap.size, 0, none⟩ = some (.slice la y.1.length lc) := (hgrow.cell_far _ (Nat.lt_of_lt_of_le hCl5 (grow_one w5 _).size) (fun e => by have := own_lt HO.out.1 e.symm; dsimp only at this; omega)).trans x0
              have r1 : w8.cell? ⟨wr.heap.size, 1, none⟩ = some (.slice ua y.2.length uc) := (hgrow.cell_far _ (Nat.lt_of_lt_of_le hCl5 (grow_one w5 _).size) (fun e => by have := own_lt HO.out.1 e.symm; dsimp only at this; omega)).trans x1
              clear hown hgrow hat hlt
              refine hK.out _ _ (⟨r0, r1⟩) (fun hHeld => ?_)
              clear hK K
              try simp only [Act.put, List.setIfInBounds_toArray]
              refine wpAnyH_take (i := 10) (v := ?_) rfl (by kernel_rfl) (by kernel_rfl) (by kernel_rfl) (fun _ _ _ h => h) (Or.inl ⟨by rfl, ?_⟩) (by with_reducible assumption) ?_
              rotate_left
              · intro w hSw
                try dsimp only at hSw
                go_simp
                try with_reducible rfl
              try simp only [Act.put]
              refine wpAnyH_done (by kernel_rfl) ?_ _
              go_wp2
              go_roundw
              case rel =>
                refine ⟨k + 1, by omega, by go_num, ?_, HG8.out⟩
                rw [HT2.out]
                exact HRS.out
              case measure => simp [intOf]; omega
            exact AllReadyH.nil
          exact AllReadyH.nil
        exact AllReadyH.nil
      exact AllReadyH.nil
    · have hki : ¬ (k : Int) < x.length := by omega
      have e : x.take k = x := List.take_of_length_le (by omega)
      rw [e] at hh
      have HH := hh
      clear hh
      go_wp2_with fail
      go_ret
      exact ⟨_, rfl, HH.out.1, HH.out.2⟩
end Go.Proofs.Ytmiiolgbjicocaa
