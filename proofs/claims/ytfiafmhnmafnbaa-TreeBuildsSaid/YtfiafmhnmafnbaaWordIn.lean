/- A tree's word. -/
import Derived.Test.YtfiafmhnmafnbaaRulesIn
namespace Go.Proofs.Ytfiafmhnmafnbaa
open Go.RowKit Go.Shelf
attribute [local go_sem] Oper.semAt_some
def ND.leaf {w0 : World} (x : ND w0) : List Int := if 0 ≤ x.val.2.1 then [] else [nt x.val.2.1]
def wordN {w0 : World} (ys : List (ND w0)) : List Int := ys.flatMap ND.leaf
theorem wordN_len {w0 : World} (ys : List (ND w0)) : (wordN ys).length ≤ ys.length := by
  induction ys with
  | nil => simp [wordN]
  | cons y ys ih =>
    have : (wordN (y :: ys)).length = y.leaf.length + (wordN ys).length := by simp [wordN]
    have h2 : y.leaf.length ≤ 1 := by unfold ND.leaf; split <;> simp
    simp only [List.length_cons]; omega
set_option maxRecDepth 100000 in
set_option maxHeartbeats 2000000 in
theorem word_in {w : World} {lo : Nat} (t : MT) (ht : MT.At w lo t) (hs : t.pt.size ≤ 100000) (ys : List (ND w)) (hys : ys.map ND.val = t.nodes) (hyl : ys.length ≤ 100000) :
    CallsIn Fence.wide 9 Try.prog 18 #[t.ptr] w fun e w' => ∃ v, e = .returned v ∧ w'.ownsRow w.heap.size 3 1 v (wordN ys).length ((wordN ys).map (Value.int .i64)) ∧ Below w.heap.size w w' := by
  obtain ⟨i0, hi, hz0, hz1, hz2⟩ := info_parts info3
  have HT := Lib.hid ht
  have HYS := Lib.hid hys
  obtain ⟨tb, htb⟩ : ∃ tb, t.blk = tb := ⟨_, rfl⟩
  have htp : t.ptr = .pointer (some ⟨tb, 0, none⟩) := by rw [← htb]; rfl
  have HTP := Lib.hid htp
  rw [htp]
  clear ht hys htb htp
  refine callsIn_of_wp_marks Try.func18 rfl trivial ?_ rfl
  simp only [Try.ntmps18, List.size_toArray, List.length_cons, List.length_nil, Nat.reduceAdd, Nat.reduceSub, Array.replicate_succ, Array.replicate_zero, List.push_toArray, List.append_toArray, List.nil_append, List.cons_append]
  gi_wp2_with (refine ⟨trivial, ?_⟩; gi_at_call 38; refine (all_in Fence.wide 8 trivial rfl _ _).mono ?_; rintro e w' ⟨rfl, rfl⟩)
  have bO := Go.Boxed.new w 26 (.slice none 0 0)
  have bN := Go.Boxed.new (w.alloc (.cells #[.slice none 0 0] 26)) 29 (.pointer (some ⟨tb, 0, none⟩))
  rw [World.size_alloc] at bN
  have hB0 : Below w.heap.size w ((w.alloc (.cells #[.slice none 0 0] 26)).alloc (.cells #[.pointer (some ⟨tb, 0, none⟩)] 29)) := ((Below.refl _ w).alloc (Nat.le_refl _) _).alloc (by simp) _
  refine wpIn_rangeFunc_ownG rfl (by omega) (gf := 53) (lb := #[.pointer (some ⟨w.heap.size + 1, 0, none⟩)]) rfl trivial (enters_of Try.func53 (by kernel_rfl) rfl)
    (all_stops Fence.wide rfl 8 trivial trivial rfl (w.heap.size + 1) t HT.out (by omega) ys HYS.out _ (by simp) hB0 (by rw [HTP.out]; exact bN.cell)) belowK_t (belowK_b (by simp; omega)) (Below.refl _ _) (fun _ => rfl)
    (fun pre W => (∃ v, Go.Boxed W w.heap.size 26 v ∧ W.ownsRow w.heap.size 3 1 v (wordN pre).length ((wordN pre).map (Value.int .i64)) ∧ True) ∧ Below w.heap.size w W)
    (fun _ _ _ => False)
    (OwnFrom.and (Own.from (holdsRow_own w.heap.size w.heap.size 26 3 1 (fun pre => (wordN pre).length) (fun pre => (wordN pre).map (Value.int .i64)) (fun _ _ => True)) _) (ownFrom_below (Nat.le_refl _) (by simp; omega)))
    (fun _ _ _ _ _ hs _ _ => hs)
    ⟨⟨_, bO.alloc _, World.ownsRow_nil _ _ _ _, trivial⟩, hB0⟩
    (fun x => { tmps := #[.pointer (some ⟨tb, 0, none⟩), undef, .slice none 0 0, .pointer (some ⟨w.heap.size, 0, none⟩), x.enc, .pointer (some ⟨tb, 0, none⟩), .func (.func 53) #[] #[.pointer (some ⟨w.heap.size + 1, 0, none⟩)], x.enc, undef, undef, undef, undef, undef, undef, undef, undef, undef, undef, undef, undef, undef, undef, undef], defers := [] }) ?assign ?body ?done ?stop
  case assign =>
    intro l x W K hK
    gi_wp2
    exact hK
  case body =>
    rintro l pre x W ⟨⟨v, hv, hrow, -⟩, hB⟩ hlt
    obtain ⟨⟨b, s, r⟩, hx⟩ := x
    obtain ⟨kv, hkb⟩ := hx
    have hpl : (wordN pre).length ≤ pre.length := wordN_len pre
    have hbl := lt_of_block hkb
    have hkb2 := (hB.block b hbl).trans hkb
    have g0 := cell_of_block (off := 0) hkb2
    have g1 := cell_of_block (off := 1) hkb2
    simp only [List.getElem?_toArray, List.getElem?_cons_succ, List.getElem?_cons_zero] at g0 g1
    have hc := hv.cell
    have hf := hv.frozen
    dsimp only [ND.enc]
    have HI := fun W => Lib.hid (isVar_any s W)
    have hxr := nt_run
    by_cases h0 : 0 ≤ s
    · rw [show isv s = true by simp [isv]; omega] at HI
      gi_wp2_with (refine ⟨trivial, ?_⟩; gi_at_call 35; refine (CallsIn.inRound l (callsIn_wide.2 (HI _).out)).mono ?_; rintro e w' ⟨rfl, rfl⟩)
      have hpk : wordN (pre ++ [(⟨(b, s, r), kv, hkb⟩ : ND w)]) = wordN pre := by simp [wordN, ND.leaf, h0]
      exact ⟨KeepsFrom.refl _ _, Below.refl _ _, ⟨v, hv, by rw [hpk]; exact hrow, trivial⟩, hB⟩
    · rw [show isv s = false by simp [isv]; omega] at HI
      gi_wp2_with (refine ⟨trivial, ?_⟩; gi_at_call 35; refine (CallsIn.inRound l (callsIn_wide.2 (HI _).out)).mono ?_; rintro e w' ⟨rfl, rfl⟩)
      have hpk : wordN (pre ++ [(⟨(b, s, r), kv, hkb⟩ : ND w)]) = wordN pre ++ [nt s] := by simp [wordN, ND.leaf, h0]
      have hc2 : (W.alloc (.cells #[.int .i64 (bits .xor .i64 (if IntKind.i64.signed = true then -1 else 9223372036854775807) s)] 3)).cell? ⟨w.heap.size, 0, none⟩ = some v := (hv.alloc (.cells #[.int .i64 (nt s)] 3)).cell
      refine wpIn_region_any (by kernel_rfl) ?_
      change wpAnyIn _ _ _ _ _ _ _ _ _ (World.drew _)
      refine wpAnyIn_ready (rs := [0, 1]) (by kernel_rfl) (by simp) ?_
      refine AllReadyIn.cons rfl (fun K hK => ?_) ?_
      · go_simp
        refine hK _ _ ?_
        clear hK K
        refine wpAnyIn_ready (rs := [1]) (by kernel_rfl) (by simp) ?_
        refine AllReadyIn.cons rfl (fun K hK => ?_) ?_
        · go_simp
          refine hK _ _ ?_
          clear hK K
          refine wpAnyIn_ready (rs := [2]) (by kernel_rfl) (by simp) ?_
          refine AllReadyIn.cons rfl (fun K hK => ?_) ?_
          · go_simp
            refine hK _ _ ?_
            clear hK K
            refine wpAnyIn_ready (rs := [3]) (by kernel_rfl) (by simp) ?_
            refine AllReadyIn.cons rfl (fun K hK => ?_) ?_
            · go_simp
              refine hK _ _ ?_
              clear hK K
              refine wpAnyIn_ready (rs := [4]) (by kernel_rfl) (by simp) ?_
              refine AllReadyIn.cons rfl (fun K hK => ?_) ?_
              · go_simp
                refine hK _ _ ?_
                clear hK K
                refine wpAnyIn_ready (rs := [5]) (by kernel_rfl) (by simp) ?_
                refine AllReadyIn.cons rfl (fun K hK => ?_) ?_
                · go_simp
                  refine hK _ _ ?_
                  clear hK K
                  refine wpAnyIn_ready (rs := [6]) (by kernel_rfl) (by simp) ?_
                  refine AllReadyIn.cons rfl (fun K hK => ?_) ?_
                  · go_simp
                    refine hK _ _ ?_
                    clear hK K
                    refine wpAnyIn_ready (rs := [7]) (by kernel_rfl) (by simp) ?_
                    refine AllReadyIn.cons rfl (fun K hK => ?_) ?_
                    · refine stepIn_of_wide rfl (fun c => by simp) (wp_append_lies _ (.tmp 14) (.tmp 20) 26 rfl w.heap.size 3 i0 (.int .i64 0) 1 8 Try.underlying26 hi hz0 hz1 hz2 rfl (by decide) v (wordN pre).length _ (by rfl) (row_kept (hrow.alloc (.cells #[.int .i64 (nt s)] 3)) fun _ _ => rfl) ⟨W.heap.size, 0, none⟩ 1 1 [.int .i64 (nt s)] (by rfl) (by rfl) (World.news_of_block (cs := #[.int .i64 (nt s)]) (t := 3) (fr := (0, 0)) (heap_alloc_new _ _)) (by simp [Value.oneCell']) (by omega) (by simp only [maxLen]; omega) (by omega) (by have := hB.size; simp; omega) (W.heap.size + 1) (by simp) ?_)
                      intro g cap w1 hown1 hgrow hat hlt2
                      obtain ⟨hv1, hv2, hr2, hk2, hb2⟩ := hv.appended (tmp := .cells #[.int .i64 (nt s)] 3) (by decide) hrow hB.size (Nat.le_refl _) hown1 ⟨hgrow.os, hgrow.tape, hgrow.output, hgrow.size, hgrow.block⟩
                      have hc1 := hv1.cell
                      have hf1 := hv1.frozen
                      refine hK _ _ ?_
                      clear hK K
                      refine wpAnyIn_ready (rs := [8]) (by kernel_rfl) (by simp) ?_
                      refine AllReadyIn.cons rfl (fun K hK => ?_) ?_
                      · go_simp
                        refine hK _ _ ?_
                        clear hK K
                        refine wpAnyIn_done (by kernel_rfl) ?_ _
                        gi_wp2
                        first
                          | exact ⟨hk2.from _, hb2, ⟨_, hv2, by rw [hpk]; simpa using hr2, trivial⟩, hB.trans hb2⟩
                          | exact ⟨hk2.from _, hb2, ⟨_, hv2, by rw [hpk]; simpa using hr2⟩, hB.trans hb2⟩
                      exact AllReadyIn.nil
                    exact AllReadyIn.nil
                  exact AllReadyIn.nil
                exact AllReadyIn.nil
              exact AllReadyIn.nil
            exact AllReadyIn.nil
          exact AllReadyIn.nil
        exact AllReadyIn.nil
      refine AllReadyIn.cons rfl (fun K hK => ?_) ?_
      · go_simp
        refine hK _ _ ?_
        clear hK K
        refine wpAnyIn_ready (rs := [0, 2]) (by kernel_rfl) (by simp) ?_
        refine AllReadyIn.cons rfl (fun K hK => ?_) ?_
        · go_simp
          refine hK _ _ ?_
          clear hK K
          refine wpAnyIn_ready (rs := [2]) (by kernel_rfl) (by simp) ?_
          refine AllReadyIn.cons rfl (fun K hK => ?_) ?_
          · go_simp
            refine hK _ _ ?_
            clear hK K
            refine wpAnyIn_ready (rs := [3]) (by kernel_rfl) (by simp) ?_
            refine AllReadyIn.cons rfl (fun K hK => ?_) ?_
            · go_simp
              refine hK _ _ ?_
              clear hK K
              refine wpAnyIn_ready (rs := [4]) (by kernel_rfl) (by simp) ?_
              refine AllReadyIn.cons rfl (fun K hK => ?_) ?_
              · go_simp
                refine hK _ _ ?_
                clear hK K
                refine wpAnyIn_ready (rs := [5]) (by kernel_rfl) (by simp) ?_
                refine AllReadyIn.cons rfl (fun K hK => ?_) ?_
                · go_simp
                  refine hK _ _ ?_
                  clear hK K
                  refine wpAnyIn_ready (rs := [6]) (by kernel_rfl) (by simp) ?_
                  refine AllReadyIn.cons rfl (fun K hK => ?_) ?_
                  · go_simp
                    refine hK _ _ ?_
                    clear hK K
                    refine wpAnyIn_ready (rs := [7]) (by kernel_rfl) (by simp) ?_
                    refine AllReadyIn.cons rfl (fun K hK => ?_) ?_
                    · refine stepIn_of_wide rfl (fun c => by simp) (wp_append_lies _ (.tmp 14) (.tmp 20) 26 rfl w.heap.size 3 i0 (.int .i64 0) 1 8 Try.underlying26 hi hz0 hz1 hz2 rfl (by decide) v (wordN pre).length _ (by rfl) (row_kept (hrow.alloc (.cells #[.int .i64 (nt s)] 3)) fun _ _ => rfl) ⟨W.heap.size, 0, none⟩ 1 1 [.int .i64 (nt s)] (by rfl) (by rfl) (World.news_of_block (cs := #[.int .i64 (nt s)]) (t := 3) (fr := (0, 0)) (heap_alloc_new _ _)) (by simp [Value.oneCell']) (by omega) (by simp only [maxLen]; omega) (by omega) (by have := hB.size; simp; omega) (W.heap.size + 1) (by simp) ?_)
                      intro g cap w1 hown1 hgrow hat hlt2
                      obtain ⟨hv1, hv2, hr2, hk2, hb2⟩ := hv.appended (tmp := .cells #[.int .i64 (nt s)] 3) (by decide) hrow hB.size (Nat.le_refl _) hown1 ⟨hgrow.os, hgrow.tape, hgrow.output, hgrow.size, hgrow.block⟩
                      have hc1 := hv1.cell
                      have hf1 := hv1.frozen
                      refine hK _ _ ?_
                      clear hK K
                      refine wpAnyIn_ready (rs := [8]) (by kernel_rfl) (by simp) ?_
                      refine AllReadyIn.cons rfl (fun K hK => ?_) ?_
                      · go_simp
                        refine hK _ _ ?_
                        clear hK K
                        refine wpAnyIn_done (by kernel_rfl) ?_ _
                        gi_wp2
                        first
                          | exact ⟨hk2.from _, hb2, ⟨_, hv2, by rw [hpk]; simpa using hr2, trivial⟩, hB.trans hb2⟩
                          | exact ⟨hk2.from _, hb2, ⟨_, hv2, by rw [hpk]; simpa using hr2⟩, hB.trans hb2⟩
                      exact AllReadyIn.nil
                    exact AllReadyIn.nil
                  exact AllReadyIn.nil
                exact AllReadyIn.nil
              exact AllReadyIn.nil
            exact AllReadyIn.nil
          exact AllReadyIn.nil
        refine AllReadyIn.cons rfl (fun K hK => ?_) ?_
        · go_simp
          refine hK _ _ ?_
          clear hK K
          refine wpAnyIn_ready (rs := [0, 3]) (by kernel_rfl) (by simp) ?_
          refine AllReadyIn.cons rfl (fun K hK => ?_) ?_
          · go_simp
            refine hK _ _ ?_
            clear hK K
            refine wpAnyIn_ready (rs := [3]) (by kernel_rfl) (by simp) ?_
            refine AllReadyIn.cons rfl (fun K hK => ?_) ?_
            · go_simp
              refine hK _ _ ?_
              clear hK K
              refine wpAnyIn_ready (rs := [4]) (by kernel_rfl) (by simp) ?_
              refine AllReadyIn.cons rfl (fun K hK => ?_) ?_
              · go_simp
                refine hK _ _ ?_
                clear hK K
                refine wpAnyIn_ready (rs := [5]) (by kernel_rfl) (by simp) ?_
                refine AllReadyIn.cons rfl (fun K hK => ?_) ?_
                · go_simp
                  refine hK _ _ ?_
                  clear hK K
                  refine wpAnyIn_ready (rs := [6]) (by kernel_rfl) (by simp) ?_
                  refine AllReadyIn.cons rfl (fun K hK => ?_) ?_
                  · go_simp
                    refine hK _ _ ?_
                    clear hK K
                    refine wpAnyIn_ready (rs := [7]) (by kernel_rfl) (by simp) ?_
                    refine AllReadyIn.cons rfl (fun K hK => ?_) ?_
                    · refine stepIn_of_wide rfl (fun c => by simp) (wp_append_lies _ (.tmp 14) (.tmp 20) 26 rfl w.heap.size 3 i0 (.int .i64 0) 1 8 Try.underlying26 hi hz0 hz1 hz2 rfl (by decide) v (wordN pre).length _ (by rfl) (row_kept (hrow.alloc (.cells #[.int .i64 (nt s)] 3)) fun _ _ => rfl) ⟨W.heap.size, 0, none⟩ 1 1 [.int .i64 (nt s)] (by rfl) (by rfl) (World.news_of_block (cs := #[.int .i64 (nt s)]) (t := 3) (fr := (0, 0)) (heap_alloc_new _ _)) (by simp [Value.oneCell']) (by omega) (by simp only [maxLen]; omega) (by omega) (by have := hB.size; simp; omega) (W.heap.size + 1) (by simp) ?_)
                      intro g cap w1 hown1 hgrow hat hlt2
                      obtain ⟨hv1, hv2, hr2, hk2, hb2⟩ := hv.appended (tmp := .cells #[.int .i64 (nt s)] 3) (by decide) hrow hB.size (Nat.le_refl _) hown1 ⟨hgrow.os, hgrow.tape, hgrow.output, hgrow.size, hgrow.block⟩
                      have hc1 := hv1.cell
                      have hf1 := hv1.frozen
                      refine hK _ _ ?_
                      clear hK K
                      refine wpAnyIn_ready (rs := [8]) (by kernel_rfl) (by simp) ?_
                      refine AllReadyIn.cons rfl (fun K hK => ?_) ?_
                      · go_simp
                        refine hK _ _ ?_
                        clear hK K
                        refine wpAnyIn_done (by kernel_rfl) ?_ _
                        gi_wp2
                        first
                          | exact ⟨hk2.from _, hb2, ⟨_, hv2, by rw [hpk]; simpa using hr2, trivial⟩, hB.trans hb2⟩
                          | exact ⟨hk2.from _, hb2, ⟨_, hv2, by rw [hpk]; simpa using hr2⟩, hB.trans hb2⟩
                      exact AllReadyIn.nil
                    exact AllReadyIn.nil
                  exact AllReadyIn.nil
                exact AllReadyIn.nil
              exact AllReadyIn.nil
            exact AllReadyIn.nil
          refine AllReadyIn.cons rfl (fun K hK => ?_) ?_
          · go_simp
            refine hK _ _ ?_
            clear hK K
            refine wpAnyIn_ready (rs := [0, 4]) (by kernel_rfl) (by simp) ?_
            refine AllReadyIn.cons rfl (fun K hK => ?_) ?_
            · go_simp
              refine hK _ _ ?_
              clear hK K
              refine wpAnyIn_ready (rs := [4]) (by kernel_rfl) (by simp) ?_
              refine AllReadyIn.cons rfl (fun K hK => ?_) ?_
              · go_simp
                refine hK _ _ ?_
                clear hK K
                refine wpAnyIn_ready (rs := [5]) (by kernel_rfl) (by simp) ?_
                refine AllReadyIn.cons rfl (fun K hK => ?_) ?_
                · go_simp
                  refine hK _ _ ?_
                  clear hK K
                  refine wpAnyIn_ready (rs := [6]) (by kernel_rfl) (by simp) ?_
                  refine AllReadyIn.cons rfl (fun K hK => ?_) ?_
                  · go_simp
                    refine hK _ _ ?_
                    clear hK K
                    refine wpAnyIn_ready (rs := [7]) (by kernel_rfl) (by simp) ?_
                    refine AllReadyIn.cons rfl (fun K hK => ?_) ?_
                    · refine stepIn_of_wide rfl (fun c => by simp) (wp_append_lies _ (.tmp 14) (.tmp 20) 26 rfl w.heap.size 3 i0 (.int .i64 0) 1 8 Try.underlying26 hi hz0 hz1 hz2 rfl (by decide) v (wordN pre).length _ (by rfl) (row_kept (hrow.alloc (.cells #[.int .i64 (nt s)] 3)) fun _ _ => rfl) ⟨W.heap.size, 0, none⟩ 1 1 [.int .i64 (nt s)] (by rfl) (by rfl) (World.news_of_block (cs := #[.int .i64 (nt s)]) (t := 3) (fr := (0, 0)) (heap_alloc_new _ _)) (by simp [Value.oneCell']) (by omega) (by simp only [maxLen]; omega) (by omega) (by have := hB.size; simp; omega) (W.heap.size + 1) (by simp) ?_)
                      intro g cap w1 hown1 hgrow hat hlt2
                      obtain ⟨hv1, hv2, hr2, hk2, hb2⟩ := hv.appended (tmp := .cells #[.int .i64 (nt s)] 3) (by decide) hrow hB.size (Nat.le_refl _) hown1 ⟨hgrow.os, hgrow.tape, hgrow.output, hgrow.size, hgrow.block⟩
                      have hc1 := hv1.cell
                      have hf1 := hv1.frozen
                      refine hK _ _ ?_
                      clear hK K
                      refine wpAnyIn_ready (rs := [8]) (by kernel_rfl) (by simp) ?_
                      refine AllReadyIn.cons rfl (fun K hK => ?_) ?_
                      · go_simp
                        refine hK _ _ ?_
                        clear hK K
                        refine wpAnyIn_done (by kernel_rfl) ?_ _
                        gi_wp2
                        first
                          | exact ⟨hk2.from _, hb2, ⟨_, hv2, by rw [hpk]; simpa using hr2, trivial⟩, hB.trans hb2⟩
                          | exact ⟨hk2.from _, hb2, ⟨_, hv2, by rw [hpk]; simpa using hr2⟩, hB.trans hb2⟩
                      exact AllReadyIn.nil
                    exact AllReadyIn.nil
                  exact AllReadyIn.nil
                exact AllReadyIn.nil
              exact AllReadyIn.nil
            refine AllReadyIn.cons rfl (fun K hK => ?_) ?_
            · go_simp
              refine hK _ _ ?_
              clear hK K
              refine wpAnyIn_ready (rs := [0, 5]) (by kernel_rfl) (by simp) ?_
              refine AllReadyIn.cons rfl (fun K hK => ?_) ?_
              · go_simp
                refine hK _ _ ?_
                clear hK K
                refine wpAnyIn_ready (rs := [5]) (by kernel_rfl) (by simp) ?_
                refine AllReadyIn.cons rfl (fun K hK => ?_) ?_
                · go_simp
                  refine hK _ _ ?_
                  clear hK K
                  refine wpAnyIn_ready (rs := [6]) (by kernel_rfl) (by simp) ?_
                  refine AllReadyIn.cons rfl (fun K hK => ?_) ?_
                  · go_simp
                    refine hK _ _ ?_
                    clear hK K
                    refine wpAnyIn_ready (rs := [7]) (by kernel_rfl) (by simp) ?_
                    refine AllReadyIn.cons rfl (fun K hK => ?_) ?_
                    · refine stepIn_of_wide rfl (fun c => by simp) (wp_append_lies _ (.tmp 14) (.tmp 20) 26 rfl w.heap.size 3 i0 (.int .i64 0) 1 8 Try.underlying26 hi hz0 hz1 hz2 rfl (by decide) v (wordN pre).length _ (by rfl) (row_kept (hrow.alloc (.cells #[.int .i64 (nt s)] 3)) fun _ _ => rfl) ⟨W.heap.size, 0, none⟩ 1 1 [.int .i64 (nt s)] (by rfl) (by rfl) (World.news_of_block (cs := #[.int .i64 (nt s)]) (t := 3) (fr := (0, 0)) (heap_alloc_new _ _)) (by simp [Value.oneCell']) (by omega) (by simp only [maxLen]; omega) (by omega) (by have := hB.size; simp; omega) (W.heap.size + 1) (by simp) ?_)
                      intro g cap w1 hown1 hgrow hat hlt2
                      obtain ⟨hv1, hv2, hr2, hk2, hb2⟩ := hv.appended (tmp := .cells #[.int .i64 (nt s)] 3) (by decide) hrow hB.size (Nat.le_refl _) hown1 ⟨hgrow.os, hgrow.tape, hgrow.output, hgrow.size, hgrow.block⟩
                      have hc1 := hv1.cell
                      have hf1 := hv1.frozen
                      refine hK _ _ ?_
                      clear hK K
                      refine wpAnyIn_ready (rs := [8]) (by kernel_rfl) (by simp) ?_
                      refine AllReadyIn.cons rfl (fun K hK => ?_) ?_
                      · go_simp
                        refine hK _ _ ?_
                        clear hK K
                        refine wpAnyIn_done (by kernel_rfl) ?_ _
                        gi_wp2
                        first
                          | exact ⟨hk2.from _, hb2, ⟨_, hv2, by rw [hpk]; simpa using hr2, trivial⟩, hB.trans hb2⟩
                          | exact ⟨hk2.from _, hb2, ⟨_, hv2, by rw [hpk]; simpa using hr2⟩, hB.trans hb2⟩
                      exact AllReadyIn.nil
                    exact AllReadyIn.nil
                  exact AllReadyIn.nil
                exact AllReadyIn.nil
              refine AllReadyIn.cons rfl (fun K hK => ?_) ?_
              · go_simp
                refine hK _ _ ?_
                clear hK K
                refine wpAnyIn_ready (rs := [0, 6]) (by kernel_rfl) (by simp) ?_
                refine AllReadyIn.cons rfl (fun K hK => ?_) ?_
                · go_simp
                  refine hK _ _ ?_
                  clear hK K
                  refine wpAnyIn_ready (rs := [6]) (by kernel_rfl) (by simp) ?_
                  refine AllReadyIn.cons rfl (fun K hK => ?_) ?_
                  · go_simp
                    refine hK _ _ ?_
                    clear hK K
                    refine wpAnyIn_ready (rs := [7]) (by kernel_rfl) (by simp) ?_
                    refine AllReadyIn.cons rfl (fun K hK => ?_) ?_
                    · refine stepIn_of_wide rfl (fun c => by simp) (wp_append_lies _ (.tmp 14) (.tmp 20) 26 rfl w.heap.size 3 i0 (.int .i64 0) 1 8 Try.underlying26 hi hz0 hz1 hz2 rfl (by decide) v (wordN pre).length _ (by rfl) (row_kept (hrow.alloc (.cells #[.int .i64 (nt s)] 3)) fun _ _ => rfl) ⟨W.heap.size, 0, none⟩ 1 1 [.int .i64 (nt s)] (by rfl) (by rfl) (World.news_of_block (cs := #[.int .i64 (nt s)]) (t := 3) (fr := (0, 0)) (heap_alloc_new _ _)) (by simp [Value.oneCell']) (by omega) (by simp only [maxLen]; omega) (by omega) (by have := hB.size; simp; omega) (W.heap.size + 1) (by simp) ?_)
                      intro g cap w1 hown1 hgrow hat hlt2
                      obtain ⟨hv1, hv2, hr2, hk2, hb2⟩ := hv.appended (tmp := .cells #[.int .i64 (nt s)] 3) (by decide) hrow hB.size (Nat.le_refl _) hown1 ⟨hgrow.os, hgrow.tape, hgrow.output, hgrow.size, hgrow.block⟩
                      have hc1 := hv1.cell
                      have hf1 := hv1.frozen
                      refine hK _ _ ?_
                      clear hK K
                      refine wpAnyIn_ready (rs := [8]) (by kernel_rfl) (by simp) ?_
                      refine AllReadyIn.cons rfl (fun K hK => ?_) ?_
                      · go_simp
                        refine hK _ _ ?_
                        clear hK K
                        refine wpAnyIn_done (by kernel_rfl) ?_ _
                        gi_wp2
                        first
                          | exact ⟨hk2.from _, hb2, ⟨_, hv2, by rw [hpk]; simpa using hr2, trivial⟩, hB.trans hb2⟩
                          | exact ⟨hk2.from _, hb2, ⟨_, hv2, by rw [hpk]; simpa using hr2⟩, hB.trans hb2⟩
                      exact AllReadyIn.nil
                    exact AllReadyIn.nil
                  exact AllReadyIn.nil
                refine AllReadyIn.cons rfl (fun K hK => ?_) ?_
                · go_simp
                  refine hK _ _ ?_
                  clear hK K
                  refine wpAnyIn_ready (rs := [0]) (by kernel_rfl) (by simp) ?_
                  refine AllReadyIn.cons rfl (fun K hK => ?_) ?_
                  · go_simp
                    refine hK _ _ ?_
                    clear hK K
                    refine wpAnyIn_ready (rs := [7]) (by kernel_rfl) (by simp) ?_
                    refine AllReadyIn.cons rfl (fun K hK => ?_) ?_
                    · refine stepIn_of_wide rfl (fun c => by simp) (wp_append_lies _ (.tmp 14) (.tmp 20) 26 rfl w.heap.size 3 i0 (.int .i64 0) 1 8 Try.underlying26 hi hz0 hz1 hz2 rfl (by decide) v (wordN pre).length _ (by rfl) (row_kept (hrow.alloc (.cells #[.int .i64 (nt s)] 3)) fun _ _ => rfl) ⟨W.heap.size, 0, none⟩ 1 1 [.int .i64 (nt s)] (by rfl) (by rfl) (World.news_of_block (cs := #[.int .i64 (nt s)]) (t := 3) (fr := (0, 0)) (heap_alloc_new _ _)) (by simp [Value.oneCell']) (by omega) (by simp only [maxLen]; omega) (by omega) (by have := hB.size; simp; omega) (W.heap.size + 1) (by simp) ?_)
                      intro g cap w1 hown1 hgrow hat hlt2
                      obtain ⟨hv1, hv2, hr2, hk2, hb2⟩ := hv.appended (tmp := .cells #[.int .i64 (nt s)] 3) (by decide) hrow hB.size (Nat.le_refl _) hown1 ⟨hgrow.os, hgrow.tape, hgrow.output, hgrow.size, hgrow.block⟩
                      have hc1 := hv1.cell
                      have hf1 := hv1.frozen
                      refine hK _ _ ?_
                      clear hK K
                      refine wpAnyIn_ready (rs := [8]) (by kernel_rfl) (by simp) ?_
                      refine AllReadyIn.cons rfl (fun K hK => ?_) ?_
                      · go_simp
                        refine hK _ _ ?_
                        clear hK K
                        refine wpAnyIn_done (by kernel_rfl) ?_ _
                        gi_wp2
                        first
                          | exact ⟨hk2.from _, hb2, ⟨_, hv2, by rw [hpk]; simpa using hr2, trivial⟩, hB.trans hb2⟩
                          | exact ⟨hk2.from _, hb2, ⟨_, hv2, by rw [hpk]; simpa using hr2⟩, hB.trans hb2⟩
                      exact AllReadyIn.nil
                    exact AllReadyIn.nil
                  exact AllReadyIn.nil
                exact AllReadyIn.nil
              exact AllReadyIn.nil
            exact AllReadyIn.nil
          exact AllReadyIn.nil
        exact AllReadyIn.nil
      exact AllReadyIn.nil
  case done =>
    rintro D zs W hD rfl ⟨⟨v, hv, hrow, -⟩, hB⟩ hK
    have hc := hv.cell
    gi_wp2
    refine ⟨by simp, .inl ⟨_, _, rfl, run_takeDeferred hK, ?_⟩⟩
    exact ⟨_, results_tmp rfl _ _ _, v, rfl, ownsRow_putObj hrow _ hK rfl, hB.trans (belowK_b (w := w) (Nat.le_refl _) W D _ _ (by simp at hD; omega) hK rfl rfl)⟩
  case stop =>
    rintro D c pre W _ _ h _
    exact h.elim
def leafN (x : Nat × Int × Int) : List Int := if 0 ≤ x.2.1 then [] else [x.2.1]
theorem nodes_leaves (t : MT) : t.nodes.flatMap leafN = t.pt.leaves := by
  induction t using MT.ind with | h b v s r kids ih => ?_
  rw [MT.nodes, MT.pt_node, PT.leaves, List.flatMap_cons]
  have : (MT.nodesL kids).flatMap leafN = PT.leavesL (kids.map MT.pt) := by
    clear s r v b
    induction kids with
    | nil => rfl
    | cons k ks ih2 =>
      rw [MT.nodesL, List.flatMap_append, ih k (by simp), ih2 (fun x hx => ih x (by simp [hx])), List.map_cons, PT.leavesL]
  rw [this]
  rfl
theorem wordN_of {w0 : World} {ys : List (ND w0)} {t : MT} (h : ys.map ND.val = t.nodes) : wordN ys = t.pt.leaves.map nt := by
  rw [← nodes_leaves, ← h, List.flatMap_map, List.map_flatMap]
  unfold wordN
  congr 1
  funext x
  unfold ND.leaf leafN
  split <;> rfl
/-- (*Node).Yield -/
theorem word_any {w : World} {lo : Nat} (t : MT) (ht : MT.At w lo t) (hs : t.pt.size ≤ 100000) : Calls Try.prog 18 #[t.ptr] w (SlPost (t.pt.leaves.map nt) w) := by
  obtain ⟨ys, hys⟩ := nds_of (w0 := w) (nodes_lie ht)
  refine callsIn_wide.1 ((word_in t ht hs ys hys (by have := congrArg List.length hys; rw [List.length_map, nodes_len] at this; omega)).mono ?_)
  rintro e w' ⟨v, rfl, hr, hb⟩
  rw [wordN_of hys] at hr
  exact ⟨v, rfl, own_of_row hr, hb⟩
end Go.Proofs.Ytfiafmhnmafnbaa
