/- Does a base hold a mark? -/
import Derived.Test.YtlnaepemkeodoaaDoorLen
import Derived.Test.YtlnaepemkeodoaaDoorLine
import Derived.Deep.RegionHeld3
namespace Go.Proofs.YtlnaepemkeodoaaDoor
open Go.RowKit
theorem slice_h35 (W : World) (a : Option Addr) (len cap c : Nat) (h : c ≤ cap) :
    (Instr.slice 35 (.slice a len cap) none (some (.int .i64 (c : Int))) none).run Tryd.prog W = .ok (.slice a c cap) W := by
  have hz : (Go.sizeOf 9).run Tryd.prog W = .ok 1 W := rfl
  have he : Tryd.prog.elem 35 = 9 := by simp [Program.elem, Tryd.underlying35]
  rw [run_slice_h W 35 _ _ _ (by simp [Program.elem, Tryd.underlying35]) .i64 _ (by omega) (by omega), he, hz]
  simp [Result.andThen, sliced, Addr.add]
theorem wordsF_sum (q : Bool) (cur l : List UInt8) : ((wordsF q cur l).map fun x => x.length + 1).sum = cur.length + l.length + 1 := by
  induction l generalizing q cur with
  | nil => simp [wordsF]
  | cons c r ih =>
    rw [wordsF]
    split
    · rw [ih]; simp; omega
    · split
      · rw [List.map_cons, List.sum_cons, ih]; simp; omega
      · rw [ih]; simp; omega
theorem lens_le : ∀ (W : List (List UInt8)), Lib.lens W + W.length = (W.map fun x => x.length + 1).sum
  | [] => rfl
  | x :: r => by
    have h := lens_le r
    rw [List.map_cons, List.sum_cons, ← h]
    simp [Lib.lens]
    omega
theorem take_sum (W : List (List UInt8)) (k : Nat) : ((W.take k).map fun x => x.length + 1).sum ≤ (W.map fun x => x.length + 1).sum := by
  induction W generalizing k with
  | nil => simp
  | cons x r ih =>
    cases k with
    | zero => simp
    | succ k => have := ih k; simp only [List.take_succ_cons, List.map_cons, List.sum_cons]; omega
theorem join_le (W : List (List UInt8)) : (Lib.join W [32]).length ≤ Lib.lens W + W.length := by
  cases W with
  | nil => simp [Lib.join_nil]
  | cons x r => rw [Lib.join_length]; simp; omega
theorem join_small (x : List UInt8) (k : Nat) : (Lib.join ((wordsL x).take k) [32]).length ≤ x.length + 1 := by
  have h1 := join_le ((wordsL x).take k)
  have h2 := lens_le ((wordsL x).take k)
  have h3 := take_sum (wordsL x) k
  have h4 : ((wordsL x).map fun x => x.length + 1).sum = _ := wordsF_sum false [] x
  simp at h4
  omega
theorem has_hit {m h : List (List UInt8)} {x : List UInt8} {k : Nat} (hk : k < (wordsL x).length + 1) (hj : Lib.join ((wordsL x).take k) [32] ∈ h) : hasS m h x = true := by
  unfold hasS
  rw [Bool.or_eq_true]
  exact .inr (List.any_eq_true.2 ⟨k, List.mem_range.2 hk, decide_eq_true hj⟩)
theorem has_miss {m h : List (List UInt8)} {x : List UInt8} (hx : x ∉ m) (hj : ∀ k, k < (wordsL x).length + 1 → Lib.join ((wordsL x).take k) [32] ∉ h) : hasS m h x = false := by
  unfold hasS
  rw [decide_eq_false hx, Bool.false_or, List.any_eq_false]
  intro k hk
  have := hj k (List.mem_range.1 hk)
  simpa using this
theorem has_mark {m h : List (List UInt8)} {x : List UInt8} (hx : x ∈ m) : hasS m h x = true := by
  unfold hasS
  rw [decide_eq_true hx, Bool.true_or]
theorem joinW_any {w : World} {g c : Nat} {L : List (List UInt8)} {k : Nat} (hr : Row w w.heap.size (.slice (some ⟨g, 0, none⟩) L.length c) (strV L) ∨ ∃ base, Row w base (.slice (some ⟨g, 0, none⟩) L.length c) (strV L)) (hk : k ≤ L.length) (hn : L.length ≤ 100000) (hj : (Lib.join (L.take k) [32]).length ≤ 100000) :
    Calls Tryd.prog 18 #[.slice (some ⟨g, 0, none⟩) k c, .string { data := #[32] }] w fun e w' => e = .returned (.string (bOf (Lib.join (L.take k) [32]))) ∧ Below w.heap.size w w' := by
  obtain ⟨base, hr⟩ : ∃ base, Row w base (.slice (some ⟨g, 0, none⟩) L.length c) (strV L) := by
    rcases hr with h | h
    · exact ⟨_, h⟩
    · exact h
  obtain ⟨_, hs⟩ := hr.strs
  have hc := hr.shape
  obtain ⟨_, _, e, hc⟩ := hc
  injection e with _ _ e
  subst e
  rw [strV_len] at hc
  have e1 : ((L.take k).map bOf).map (·.data.toList) = L.take k := by rw [List.map_map]; exact (List.map_congr_left fun _ _ => rfl).trans (List.map_id _)
  have hl : ((L.take k).map bOf).length = k := by simp; omega
  have hg : g < w.heap.size := by
    rcases hr.2 with ⟨h1, _⟩ | ⟨g', cap, cur, h1, _, hh, _⟩
    · cases h1
    · injection h1 with h1
      injection h1 with h1
      injection h1 with h1
      subst h1
      exact lt_of_block hh
  have h := strings_Join g 0 c ((L.take k).map bOf) { data := #[32] } w (fun j y hy => by
    rw [List.getElem?_map] at hy
    obtain ⟨l, hl, rfl⟩ := Option.map_eq_some_iff.1 hy
    obtain ⟨hi, hl⟩ := List.getElem?_eq_some_iff.1 hl
    rw [List.getElem_take] at hl
    have hi' : j < L.length := by simp at hi; omega
    obtain ⟨b, off, h1, _, h3⟩ := hs j hi'
    injection h1 with h1
    injection h1 with h1 h2
    subst h1 h2
    rw [h3, hl]) hg (by rw [hl]; omega) (by rw [hl]; omega) (by rw [e1]; exact Nat.le_trans hj (by decide))
  rw [hl, e1] at h
  exact h
def HasPost (m h : List (List UInt8)) (x : List UInt8) (w : World) (e : Ending) (w' : World) : Prop := e = .returned (.bool (hasS m h x)) ∧ Below w.heap.size w w'
theorem BaseAt.go {w w' : World} {base bb : Nat} {m h : List (List UInt8)} {mv hv : Value} (hB : BaseAt w base bb m h mv hv) (hb : Below w.heap.size w w') : BaseAt w' base bb m h mv hv :=
  ⟨(hb.block bb (lt_of_block hB.blk)).trans hB.blk, hB.mr.below hb, hB.hr.below hb, hB.far⟩
set_option maxHeartbeats 1000000 in
theorem has_any {base bb : Nat} {m h : List (List UInt8)} {x : List UInt8} {mv hv : Value} {w : World} (hB : BaseAt w base bb m h mv hv) (hm : Sorted m) (hh : Sorted h) (hml : m.length + h.length ≤ 1000) (hl : x.length ≤ 80000) :
    Calls Tryd.prog 9 #[.pointer (some ⟨bb, 0, none⟩), .string (bOf x)] w (HasPost m h x w) := by
  have HBk := Lib.hid hB
  obtain ⟨ma, mc, rfl, _⟩ := hB.mr.shape
  obtain ⟨ha, hc, rfl, _⟩ := hB.hr.shape
  rw [strV_len, strV_len] at *
  obtain ⟨c0, c1, f0, f1⟩ := cells_two hB.blk
  have hbb := lt_of_block hB.blk
  have HF := Lib.hid (find_any (c := mc) (x := x) hm hB.mr.strs.2 (by omega))
  by_cases hin : x ∈ m
  · rw [decide_eq_true hin] at HF
    have HP : Hid (HasPost m h x w (.returned (.bool true)) w) := Lib.hid ⟨by rw [has_mark hin], Below.refl _ _⟩
    generalize HasPost m h x w = P at *
    generalize bOf x = X at *
    clear hB HBk hin hm hh
    go_enter Tryd.func9, Tryd.ntmps9
    go_wp2_with (go_at_call 16; refine HF.out.mono ?_; rintro e w' ⟨rfl, rfl⟩)
    all_goals (first | exact HP.out | (go_ret; exact HP.out))
  · rw [decide_eq_false hin] at HF
    have HW := Lib.hid (words_any (bOf x) (by rw [bOf_size]; omega) w)
    have hWn : (wordsL x).length ≤ 80001 := by have := wordsF_len false [] x; unfold wordsL; omega
    have hWp : 0 < (wordsL x).length := List.length_pos_iff.2 (wordsF_ne _ _ _)
    have HWP : Hid (∀ e w', WordsPost (bOf x) w e w' → ∃ g c, e = .returned (.slice (some ⟨g, 0, none⟩) (wordsL x).length c) ∧ (wordsL x).length ≤ c ∧ Hid (Row w' w.heap.size (.slice (some ⟨g, 0, none⟩) (wordsL x).length c) (strV (wordsL x)) ∧ Below w.heap.size w w')) := Lib.hid (by
      rintro e w' ⟨v, rfl, hr, hb⟩
      rw [bOf_data] at hr
      rcases hr.2 with ⟨_, h0⟩ | ⟨g, cap, cur, rfl, _, _, h1, _⟩
      · rw [strV_len] at h0; omega
      · rw [strV_len] at *
        exact ⟨g, cap, rfl, h1, hr, hb⟩)
    have HIT := Lib.hid (fun k => @has_hit m h x k)
    have MISS := Lib.hid (@has_miss m h x hin)
    have HJL := Lib.hid (fun k => Nat.le_trans (join_small x k) (show x.length + 1 ≤ 100000 by omega))
    generalize wordsL x = W at *
    generalize hX : bOf x = X at *
    generalize hWP : WordsPost X w = WP at *
    clear hB hin hX hWP hm
    have HHS := Lib.hid hh
    clear hh
    go_enter Tryd.func9, Tryd.ntmps9
    go_wp2_with (first
      | (go_at_call 17; refine HW.out.mono ?_; intro e w1 hq; obtain ⟨g, c, rfl, hWc, HR⟩ := HWP.out e w1 hq; clear hq)
      | (go_at_call 16; refine HF.out.mono ?_; rintro e w' ⟨rfl, rfl⟩))
    have HB1 := Lib.hid (HBk.out.go HR.out.2)
    go_loopw [26] (fun i wr => ∃ k : Nat, k ≤ W.length + 1 ∧ i = .int .i64 k ∧ Hid (Below w1.heap.size w1 wr ∧ ∀ n, n < k → Lib.join (W.take n) [32] ∉ h)) (fun i _ => W.length + 1 - (intOf i).toNat)
    case atStart => exact ⟨0, by omega, rfl, Lib.hid ⟨Below.refl _ _, fun n hn => by omega⟩⟩
    case round =>
      obtain ⟨k, hk, rfl, hr⟩ := hrel
      have HBr := Lib.hid (HB1.out.go hr.out.1)
      have c1r := (cells_two HBr.out.blk).2.1
      have hbr := lt_of_block HBr.out.blk
      by_cases hlt : k < W.length + 1
      · have hki : (k : Int) < (W.length : Int) + 1 := by omega
        have hs := fun V => slice_h35 V (some ⟨g, 0, none⟩) W.length c k (by omega)
        have HD : Hid (Below wr.heap.size wr wr.drew) := Lib.hid (Below.refl _ _).drew
        have HJ := Lib.hid (joinW_any (w := wr.drew) (g := g) (c := c) (L := W) (k := k) (.inr ⟨_, (HR.out.1.below hr.out.1).below HD.out⟩) (by omega) (by omega) (HJL.out k))
        have HFH := Lib.hid (fun X' (hb : Below wr.drew.heap.size wr.drew X') => find_any (c := hc) (x := Lib.join (W.take k) [32]) HHS.out ((HBr.out.go HD.out).go hb).hr.strs.2 (by omega))
        have HBd := Lib.hid (fun X' (hb : Below wr.drew.heap.size wr.drew X') => (cells_two ((HBr.out.go HD.out).go hb).blk).2.1)
        have c1d := HBd.out _ (Below.refl _ _)
        have HK := Lib.hid (HIT.out k hlt)
        have HM := Lib.hid (fun (hn : Lib.join (W.take k) [32] ∉ h) => show ∀ n, n < k + 1 → Lib.join (W.take n) [32] ∉ h from fun n hn2 => by
          rcases Nat.lt_or_ge n k with h1 | h1
          · exact hr.out.2 n h1
          · obtain rfl : n = k := by omega
            exact hn)
        have HTR := Lib.hid (fun X' (hb : Below wr.drew.heap.size wr.drew X') => hr.out.1.trans ((Below.mono (HD.out.trans hb) (hr.out.1.size))))
        by_cases hjn : Lib.join (W.take k) [32] ∈ h
        · rw [decide_eq_true hjn] at HFH
          have hT := HK.out hjn
          generalize Lib.join (W.take k) [32] = J at *
          go_wp2
          go_region_held3 (fun w' => w'.cell? ⟨bb, 1, none⟩ = some (.slice ha h.length hc)) (first | exact hS1 | exact c1d | exact c1r)
            (first
              | (go_at_call 16; refine (HFH.out _ hb1).mono ?_; rintro e x2 ⟨rfl, rfl⟩)
              | (go_at_call 18; refine HJ.out.mono ?_; rintro e x1 ⟨rfl, hb1⟩
                 have hS1 := HBd.out _ hb1))
          all_goals go_wp2
          all_goals (first | go_ret | skip)
          all_goals exact ⟨by rw [hT]; rfl, HR.out.2.trans ((HTR.out _ hb1).mono HR.out.2.size)⟩
        · rw [decide_eq_false hjn] at HFH
          have HN := Lib.hid (HM.out hjn)
          clear HM HK HIT
          generalize hJ : Lib.join (W.take k) [32] = J at *
          clear hJ hjn
          go_wp2
          go_region_held3 (fun w' => w'.cell? ⟨bb, 1, none⟩ = some (.slice ha h.length hc)) (first | exact hS1 | exact c1d | exact c1r)
            (first
              | (go_at_call 16; refine (HFH.out _ hb1).mono ?_; rintro e x2 ⟨rfl, rfl⟩)
              | (go_at_call 18; refine HJ.out.mono ?_; rintro e x1 ⟨rfl, hb1⟩
                 have hS1 := HBd.out _ hb1))
          all_goals go_wp2
          all_goals go_roundw
          all_goals first
            | exact ⟨k + 1, by omega, by go_num, Lib.hid ⟨HTR.out _ hb1, HN.out⟩⟩
            | (simp [intOf]; omega)
      · obtain rfl : k = W.length + 1 := by omega
        have hF := MISS.out (fun n hn => hr.out.2 n hn)
        go_wp2
        go_ret
        exact ⟨by rw [hF]; rfl, HR.out.2.trans (hr.out.1.mono HR.out.2.size)⟩
end Go.Proofs.YtlnaepemkeodoaaDoor
