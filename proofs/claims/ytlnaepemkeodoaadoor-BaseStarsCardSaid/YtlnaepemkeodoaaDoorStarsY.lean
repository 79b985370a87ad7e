/- What a star makes known: the law, for all texts. -/
import Derived.Test.YtlnaepemkeodoaaDoorStarsX
namespace Go.Proofs.YtlnaepemkeodoaaDoor
open Go.RowKit
theorem stars_any (a b c : ByteArray) (ha : a.size ≤ maxLen) (hb : b.size ≤ maxLen) (hc : c.size ≤ maxLen) (m : Int) (w : World) (hm : w.cell? ⟨0, 0, none⟩ = some (.int .i64 m)) :
    Calls Tryd.prog 4 #[.string a, .string b, .string c] w (Yes w) := by
  by_cases hA : wordB a.data.toList = true
  · by_cases hB : wordB b.data.toList = true
    · by_cases hC : wordB c.data.toList = true
      · refine stars_core ha hb hc hm ((word_iff _).1 hA) ((word_iff _).1 hB) ((word_iff _).1 hC) rfl ?_
        rw [ByteArray.toList_eq, ByteArray.toList_eq, Bool.eq_iff_iff, beq_iff_eq, decide_eq_true_iff]
        exact eq_comm
      · have hC : wordB c.data.toList = false := by simpa using hC
        have HA := Lib.hid (alive_any m w hm)
        have HWa := Lib.hid (fun W (h : Below w.heap.size w W) => word_r ha hA h)
        have HWb := Lib.hid (fun W (h : Below w.heap.size w W) => word_r hb hB h)
        have HWc := Lib.hid (fun W (h : Below w.heap.size w W) => word_r hc hC h)
        clear hA hB hC ha hb hc
        go_enter Tryd.func4, Tryd.ntmps4
        go_wp2_with (first
          | (go_at_call 10; refine (HWc.out _ A2.out).mono ?_; rintro e v0 ⟨rfl, A3⟩)
          | (go_at_call 10; refine (HWb.out _ A1.out).mono ?_; rintro e v0 ⟨rfl, A2⟩)
          | (go_at_call 10; refine (HWa.out _ A0.out).mono ?_; rintro e v0 ⟨rfl, A1⟩)
          | (go_at_call 5; refine HA.out.mono ?_; rintro e w0 ⟨rfl, hb⟩; have A0 := Lib.hid hb; clear hb))
        all_goals (first | exact ⟨rfl, A3.out⟩ | (go_ret; exact ⟨rfl, A3.out⟩))
    · have hB : wordB b.data.toList = false := by simpa using hB
      have HA := Lib.hid (alive_any m w hm)
      have HWa := Lib.hid (fun W (h : Below w.heap.size w W) => word_r ha hA h)
      have HWb := Lib.hid (fun W (h : Below w.heap.size w W) => word_r hb hB h)
      clear hA hB ha hb hc
      go_enter Tryd.func4, Tryd.ntmps4
      go_wp2_with (first
        | (go_at_call 10; refine (HWb.out _ A1.out).mono ?_; rintro e v0 ⟨rfl, A2⟩)
        | (go_at_call 10; refine (HWa.out _ A0.out).mono ?_; rintro e v0 ⟨rfl, A1⟩)
        | (go_at_call 5; refine HA.out.mono ?_; rintro e w0 ⟨rfl, hb⟩; have A0 := Lib.hid hb; clear hb))
      all_goals (first | exact ⟨rfl, A2.out⟩ | (go_ret; exact ⟨rfl, A2.out⟩))
  · have hA : wordB a.data.toList = false := by simpa using hA
    have HA := Lib.hid (alive_any m w hm)
    have HWa := Lib.hid (fun W (h : Below w.heap.size w W) => word_r ha hA h)
    clear hA ha hb hc
    go_enter Tryd.func4, Tryd.ntmps4
    go_wp2_with (first
      | (go_at_call 10; refine (HWa.out _ A0.out).mono ?_; rintro e v0 ⟨rfl, A1⟩)
      | (go_at_call 5; refine HA.out.mono ?_; rintro e w0 ⟨rfl, hb⟩; have A0 := Lib.hid hb; clear hb))
    all_goals (first | exact ⟨rfl, A1.out⟩ | (go_ret; exact ⟨rfl, A1.out⟩))
end Go.Proofs.YtlnaepemkeodoaaDoor
