/- How high a tree in memory is. -/
import Derived.Test.YtfiafmhnmafnbaaLead
import Derived.Test.YtfiafmhnmafnbaaTree
namespace Go.Proofs.Ytfiafmhnmafnbaa
open Go.RowKit
theorem heightL_take (ks : List MT) (k : Nat) (h : k < ks.length) : PT.heightL ((ks.take (k + 1)).map MT.pt) = max (PT.heightL ((ks.take k).map MT.pt)) ks[k].pt.height := by
  rw [List.take_succ_eq_append_getElem h, List.map_append, PT.heightL_append]
  simp [PT.heightL]
theorem sizeL_take_le (ks : List PT) (k : Nat) : PT.sizeL (ks.take k) ≤ PT.sizeL ks := by
  have := PT.sizeL_append (ks.take k) (ks.drop k)
  rw [List.take_append_drop] at this
  omega
theorem heightL_le (ks : List PT) : PT.heightL ks ≤ PT.sizeL ks := by
  induction ks with
  | nil => simp [PT.heightL]
  | cons k ks ih => have := PT.height_le k; simp only [PT.heightL, PT.sizeL]; omega
set_option maxHeartbeats 1000000 in
theorem height_any (t : MT) {w : World} {lo : Nat} (h : MT.At w lo t) (hs : t.pt.size ≤ 1000000) :
    Calls Try.prog 16 #[t.ptr] w fun e w' => e = .returned (.int .i64 t.pt.height) ∧ w' = w := by
  induction t using MT.ind with | h b v s r kids ih => ?_
  obtain ⟨a, cap, rfl, hn, hcap, hmax, hc⟩ := h.reads
  have hb := h.2.1
  have H := Lib.hid h
  rw [MT.pt_node, PT.size] at hs
  have hkl : kids.length ≤ 1000000 := by have := PT.len_le (kids.map MT.pt); simp at this; omega
  have IH := Lib.hid (fun k (hk : k < kids.length) => ih kids[k] (List.getElem_mem hk) (H.out.kid (List.getElem_mem hk)) (by have := PT.size_le (List.mem_map_of_mem (f := MT.pt) (List.getElem_mem hk)); omega))
  have HL := Lib.hid (heightL_take kids)
  have HB := Lib.hid (fun k => Nat.le_trans (heightL_le ((kids.take k).map MT.pt)) (by rw [List.map_take]; exact Nat.le_trans (sizeL_take_le _ _) (Nat.le_of_add_left_le hs)))
  have g2 := cell_of_block (off := 2) hb
  simp at g2
  have HC := Lib.hid hc
  rw [MT.pt_node, PT.height]
  clear ih h hb hn hc hs
  unfold MT.ptr MT.blk
  go_enter Try.func16, Try.ntmps16
  go_wp2
  go_loop [3, 11] (fun m i => ∃ k : Nat, k ≤ kids.length ∧ i = .int .i64 k ∧ m = .int .i64 (PT.heightL ((kids.take k).map MT.pt) : Nat)) (fun _ i => kids.length - (intOf i).toNat)
  case atStart => exact ⟨0, by omega, rfl, by simp [PT.heightL]⟩
  case round =>
    obtain ⟨k, hk, rfl, rfl⟩ := hrel
    by_cases hlt : k < kids.length
    · obtain ⟨g, rfl, hg⟩ := HC.out k hlt
      have HI := Lib.hid (IH.out k hlt)
      have HM := Lib.hid (HL.out k hlt)
      have HB1 := HB.out k
      have HB2 := HB.out (k + 1)
      rw [HM.out] at HB2
      unfold MT.ptr at hg HI
      generalize kids[k].blk = kb at *
      generalize kids[k].pt.height = kh at *
      generalize PT.heightL ((kids.take k).map MT.pt) = mh at *
      go_wp2_with (first | (go_at_call 16; refine HI.out.mono ?_; rintro e w' ⟨rfl, rfl⟩))
      go_round
      case rel => exact ⟨k + 1, by omega, by go_num, by rw [HM.out]; congr 1; split <;> omega⟩
      case measure => simp [intOf]; omega
    · have hke : k = kids.length := by omega
      subst hke
      have HB1 := HB.out kids.length
      rw [List.take_length] at *
      go_wp2
      go_ret
      exact ⟨rfl, rfl⟩
end Go.Proofs.Ytfiafmhnmafnbaa
