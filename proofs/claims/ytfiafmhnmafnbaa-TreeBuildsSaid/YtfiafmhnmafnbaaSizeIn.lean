/- How many nodes a tree has. -/
import Derived.Test.YtfiafmhnmafnbaaWordIn
namespace Go.Proofs.Ytfiafmhnmafnbaa
open Go.RowKit Go.Shelf
attribute [local go_sem] Oper.semAt_some
set_option maxRecDepth 100000 in
set_option maxHeartbeats 2000000 in
theorem size_in {w : World} {lo : Nat} (t : MT) (ht : MT.At w lo t) (hs : t.pt.size ≤ 100000) (ys : List (ND w)) (hys : ys.map ND.val = t.nodes) (hyl : ys.length ≤ 100000) :
    CallsIn Fence.wide 9 Try.prog 15 #[t.ptr] w fun e w' => e = .returned (.int .i64 ys.length) ∧ Below w.heap.size w w' := by
  have HT := Lib.hid ht
  have HYS := Lib.hid hys
  obtain ⟨tb, htb⟩ : ∃ tb, t.blk = tb := ⟨_, rfl⟩
  have htp : t.ptr = .pointer (some ⟨tb, 0, none⟩) := by rw [← htb]; rfl
  have HTP := Lib.hid htp
  rw [htp]
  clear ht hys htb htp
  refine callsIn_of_wp_marks Try.func15 rfl trivial ?_ rfl
  simp only [Try.ntmps15, List.size_toArray, List.length_cons, List.length_nil, Nat.reduceAdd, Nat.reduceSub, Array.replicate_succ, Array.replicate_zero, List.push_toArray, List.append_toArray, List.nil_append, List.cons_append]
  gi_wp2_with (refine ⟨trivial, ?_⟩; gi_at_call 38; refine (all_in Fence.wide 8 trivial rfl _ _).mono ?_; rintro e w' ⟨rfl, rfl⟩)
  have bO := Go.Boxed.new w 3 (.int .i64 0)
  have bN := Go.Boxed.new (w.alloc (.cells #[.int .i64 0] 3)) 29 (.pointer (some ⟨tb, 0, none⟩))
  rw [World.size_alloc] at bN
  have hB0 : Below w.heap.size w ((w.alloc (.cells #[.int .i64 0] 3)).alloc (.cells #[.pointer (some ⟨tb, 0, none⟩)] 29)) := ((Below.refl _ w).alloc (Nat.le_refl _) _).alloc (by simp) _
  refine wpIn_rangeFunc_ownG rfl (by omega) (gf := 53) (lb := #[.pointer (some ⟨w.heap.size + 1, 0, none⟩)]) rfl trivial (enters_of Try.func53 (by kernel_rfl) rfl)
    (all_stops Fence.wide rfl 8 trivial trivial rfl (w.heap.size + 1) t HT.out (by omega) ys HYS.out _ (by simp) hB0 (by rw [HTP.out]; exact bN.cell)) belowK_t (belowK_b (by simp; omega)) (Below.refl _ _) (fun _ => rfl)
    (fun pre W => (W.cell? ⟨w.heap.size, 0, none⟩ = some (.int .i64 pre.length) ∧ W.frozen? ⟨w.heap.size, 0, none⟩ = false) ∧ Below w.heap.size w W)
    (fun _ _ _ => False)
    (OwnFrom.and (Own.from (fun s A B row hs hg hr => ⟨cell_kept hs.1 hg hr, (frozen_kept hs.1 hg hr).trans hs.2⟩) _) (ownFrom_below (Nat.le_refl _) (by simp; omega)))
    (fun _ _ _ _ _ hs _ _ => hs)
    ⟨⟨(bO.alloc _).cell, (bO.alloc _).frozen⟩, hB0⟩
    (fun x => { tmps := #[.pointer (some ⟨tb, 0, none⟩), undef, .int .i64 0, .pointer (some ⟨w.heap.size, 0, none⟩), .pointer (some ⟨tb, 0, none⟩), .func (.func 53) #[] #[.pointer (some ⟨w.heap.size + 1, 0, none⟩)], x.enc, undef, undef, undef], defers := [] }) ?assign ?body ?done ?stop
  case assign =>
    intro l x W K hK
    gi_wp2
    simpa using hK
  case body =>
    rintro l pre x W ⟨⟨hc, hf⟩, hB⟩ hlt
    have hw : IntKind.i64.wrap ((pre.length : Int) + 1) = (pre.length : Int) + 1 := by simp [IntKind.wrap, IntKind.bits]; omega
    gi_wp2
    refine ⟨(KeepsOthers.setCell _ _ _).from _, (Below.refl w.heap.size W).setCell (p := ⟨w.heap.size, 0, none⟩) (Nat.le_refl _) _, ⟨?_, by rw [World.frozen?_setCell]; exact hf⟩, hB.setCell (p := ⟨w.heap.size, 0, none⟩) (Nat.le_refl _) _⟩
    rw [World.cell?_setCell_same' _ _ _ (by rw [hc]; rfl)]
    simp
  case done =>
    rintro D zs W hD rfl ⟨⟨hc, hf⟩, hB⟩ hK
    gi_wp2
    refine ⟨by simp, .inl ⟨_, _, rfl, run_takeDeferred hK, ?_⟩⟩
    exact ⟨_, results_tmp rfl _ _ _, rfl, hB.trans (belowK_b (w := w) (Nat.le_refl _) W D _ _ (by simp at hD; omega) hK rfl rfl)⟩
  case stop =>
    rintro D c pre W _ _ h _
    exact h.elim
/-- (*Node).Size -/
theorem size_any {w : World} {lo : Nat} (t : MT) (ht : MT.At w lo t) (hs : t.pt.size ≤ 100000) : Calls Try.prog 15 #[t.ptr] w fun e w' => e = .returned (.int .i64 t.pt.size) ∧ Below w.heap.size w w' := by
  obtain ⟨ys, hys⟩ := nds_of (w0 := w) (nodes_lie ht)
  have hl : ys.length = t.pt.size := by have := congrArg List.length hys; rw [List.length_map, nodes_len] at this; exact this
  have h := callsIn_wide.1 (size_in t ht hs ys hys (by omega))
  rw [hl] at h
  exact h
end Go.Proofs.Ytfiafmhnmafnbaa
