/- A base's text. -/
import Derived.Test.YtlnaepemkeodoaaDoorHas
namespace Go.Proofs.YtlnaepemkeodoaaDoor
open Go.RowKit
theorem app_data (a c : ByteArray) : (a ++ c).data.toList = a.data.toList ++ c.data.toList := by
  rw [ByteArray.data_append]; simp
theorem cells_app (a c : List UInt8) : Lib.byteCells (a ++ c) = Lib.byteCells a ++ Lib.byteCells c := by simp [Lib.byteCells]
theorem cells_len (a : List UInt8) : (Lib.byteCells a).length = a.length := by simp [Lib.byteCells]
theorem wrote {B b : Nat} {l : List UInt8} {s : ByteArray} {w : World} (h : Lib.IsBuilder 43 5 B b (Lib.byteCells l) w) (hlen : l.length + s.size ≤ 300000) (hB : B ≤ w.heap.size) :
    Calls Tryd.prog 14 #[.pointer (some ⟨b, 0, none⟩), .string s] w fun e w' => e = .returned (.tuple #[.int .i64 s.size, .nilIface]) ∧ Lib.IsBuilder 43 5 B b (Lib.byteCells (l ++ s.data.toList)) w' ∧ Below B w w' := by
  refine (Builder_WriteString B b _ s w h (by rw [cells_len]; omega) hB).mono ?_
  rintro e w' ⟨rfl, h1, h2⟩
  refine ⟨rfl, .inr ?_, h2⟩
  rw [cells_app]
  exact h1
theorem new_builder (w : World) : Lib.IsBuilder 43 5 w.heap.size w.heap.size (Lib.byteCells []) (w.alloc (.cells #[.pointer none, .slice none 0 0] 43)) :=
  .inl ⟨Nat.le_refl _, _, heap_alloc_this _ _, World.ownsRow_nil _ _ _ _, by simp [Value.ownBlock]⟩
def marksT (m : List (List UInt8)) : List UInt8 := m.flatMap (· ++ [10])
def headsT (h : List (List UInt8)) : List UInt8 := h.flatMap (· ++ [32, 42, 10])
theorem textS_two (m h : List (List UInt8)) : textS m h = marksT m ++ headsT h := rfl
theorem marksT_next {m : List (List UInt8)} {k : Nat} (hk : k < m.length) : marksT (m.take (k + 1)) = marksT (m.take k) ++ (bOf m[k] ++ { data := #[10] }).data.toList := by
  unfold marksT
  rw [List.take_succ_eq_append_getElem hk, List.flatMap_append, app_data]
  simp [bOf_data]
theorem headsT_next {m : List (List UInt8)} {k : Nat} (hk : k < m.length) : headsT (m.take (k + 1)) = headsT (m.take k) ++ (bOf m[k] ++ { data := #[32, 42, 10] }).data.toList := by
  unfold headsT
  rw [List.take_succ_eq_append_getElem hk, List.flatMap_append, app_data]
  simp [bOf_data]
theorem marksT_le (m : List (List UInt8)) (k : Nat) : (marksT (m.take k)).length ≤ (marksT m).length := by
  conv => rhs; rw [← List.take_append_drop k m]
  unfold marksT
  rw [List.flatMap_append, List.length_append]
  omega
theorem headsT_le (m : List (List UInt8)) (k : Nat) : (headsT (m.take k)).length ≤ (headsT m).length := by
  conv => rhs; rw [← List.take_append_drop k m]
  unfold headsT
  rw [List.flatMap_append, List.length_append]
  omega
def TextPost (m h : List (List UInt8)) (w : World) (e : Ending) (w' : World) : Prop := e = .returned (.string (bOf (textS m h))) ∧ Below w.heap.size w w'
set_option maxHeartbeats 1000000 in
theorem text_any {base bb : Nat} {m h : List (List UInt8)} {mv hv : Value} {w : World} (hB : BaseAt w base bb m h mv hv) (hml : m.length + h.length ≤ 1000) (hl : (textS m h).length ≤ 200000) :
    Calls Tryd.prog 7 #[.pointer (some ⟨bb, 0, none⟩)] w (TextPost m h w) := by
  have HBk := Lib.hid hB
  obtain ⟨ma, mc, rfl, _⟩ := hB.mr.shape
  obtain ⟨ha, hc, rfl, _⟩ := hB.hr.shape
  rw [strV_len, strV_len] at *
  obtain ⟨c0, c1, f0, f1⟩ := cells_two hB.blk
  have hbb := lt_of_block hB.blk
  have hl1 : (marksT m).length ≤ 200000 := by rw [textS_two, List.length_append] at hl; omega
  have HL1 := Lib.hid (fun k => Nat.le_trans (marksT_le m k) hl1)
  have HL2 := Lib.hid (fun k => show (marksT m ++ headsT (h.take k)).length ≤ 200000 by
    have := headsT_le h k
    rw [textS_two, List.length_append] at hl
    rw [List.length_append]; omega)
  clear hl hl1 hB
  have HN := Lib.hid (new_builder w)
  have HB0 := Lib.hid (HBk.out.go (below_one w (.cells #[.pointer none, .slice none 0 0] 43)))
  have c0n := (cells_two HB0.out.blk).1
  go_enter Tryd.func7, Tryd.ntmps7
  go_wp2
  go_loopw [13] (fun i wr => ∃ k : Nat, k ≤ m.length ∧ i = .int .i64 k ∧ Hid (Lib.IsBuilder 43 5 w.heap.size w.heap.size (Lib.byteCells (marksT (m.take k))) wr ∧ Below w.heap.size w wr)) (fun i _ => m.length - (intOf i).toNat)
  case atStart => exact ⟨0, by omega, rfl, Lib.hid ⟨HN.out, below_one _ _⟩⟩
  case round =>
    obtain ⟨k, hk, rfl, hr⟩ := hrel
    have HBr := Lib.hid (HBk.out.go hr.out.2)
    have hsz := hr.out.2.size
    by_cases hlt : k < m.length
    · have hki : (k : Int) < m.length := by omega
      obtain ⟨b, off, rfl, hb, hcl⟩ := HBr.out.mr.strs.2 k hlt
      have HNX := Lib.hid (marksT_next hlt)
      have HLs := Lib.hid (show (marksT (m.take k)).length + (bOf m[k] ++ { data := #[10] }).size ≤ 300000 by
        have h1 := HL1.out (k + 1)
        rw [HNX.out, List.length_append] at h1
        have h2 : (bOf m[k] ++ { data := #[10] }).size = (bOf m[k] ++ { data := #[10] }).data.toList.length := Lib.size_eq _
        omega)
      have HWr := Lib.hid (wrote hr.out.1 HLs.out hsz)
      generalize marksT (m.take k) = T at *
      have hcat : ¬ (9223372036854775807 < (bOf m[k]).size + 1) := by
        have h2 := HLs.out
        rw [ByteArray.size_append] at h2
        omega
      clear HLs HL1 HL2
      generalize bOf m[k] = y at *
      go_wp2_with (go_at_call 14; refine HWr.out.mono ?_; rintro e w' ⟨rfl, h1, h2⟩; have H1 := Lib.hid h1; have H2 := Lib.hid h2; clear h1 h2)
      go_roundw
      case rel => exact ⟨k + 1, by omega, by go_num, Lib.hid ⟨by rw [HNX.out]; exact H1.out, hr.out.2.trans H2.out⟩⟩
      case measure => simp [intOf]; omega
    · obtain rfl : k = m.length := by omega
      have HI := Lib.hid (show Lib.IsBuilder 43 5 w.heap.size w.heap.size (Lib.byteCells (marksT m ++ headsT (h.take 0))) wr by
        have h1 := hr.out.1
        rw [List.take_of_length_le (Nat.le_refl _)] at h1
        simpa [headsT] using h1)
      have c1r := (cells_two HBr.out.blk).2.1
      have hbr := lt_of_block HBr.out.blk
      go_wp2
      go_loopw [26] (fun i wr => ∃ k : Nat, k ≤ h.length ∧ i = .int .i64 k ∧ Hid (Lib.IsBuilder 43 5 w.heap.size w.heap.size (Lib.byteCells (marksT m ++ headsT (h.take k))) wr ∧ Below w.heap.size w wr)) (fun i _ => h.length - (intOf i).toNat)
      case atStart => exact ⟨0, by omega, rfl, Lib.hid ⟨HI.out, hr.out.2⟩⟩
      case round =>
        obtain ⟨k, hk, rfl, hr2⟩ := hrel
        have HBr2 := Lib.hid (HBk.out.go hr2.out.2)
        have hsz2 := hr2.out.2.size
        by_cases hlt : k < h.length
        · have hki : (k : Int) < h.length := by omega
          obtain ⟨b, off, rfl, hb, hcl⟩ := HBr2.out.hr.strs.2 k hlt
          have HNX := Lib.hid (headsT_next hlt)
          have HLs := Lib.hid (show (marksT m ++ headsT (h.take k)).length + (bOf h[k] ++ { data := #[32, 42, 10] }).size ≤ 300000 by
            have h1 := HL2.out (k + 1)
            rw [HNX.out, ← List.append_assoc, List.length_append] at h1
            have h2 : (bOf h[k] ++ { data := #[32, 42, 10] }).size = (bOf h[k] ++ { data := #[32, 42, 10] }).data.toList.length := Lib.size_eq _
            omega)
          have HWr := Lib.hid (wrote hr2.out.1 HLs.out hsz2)
          generalize headsT (h.take k) = T at *
          have hcat : ¬ (9223372036854775807 < (bOf h[k]).size + 3) := by
            have h2 := HLs.out
            rw [ByteArray.size_append] at h2
            omega
          clear HLs HL1 HL2
          generalize bOf h[k] = y at *
          go_wp2_with (go_at_call 14; refine HWr.out.mono ?_; rintro e w' ⟨rfl, h1, h2⟩; have H1 := Lib.hid h1; have H2 := Lib.hid h2; clear h1 h2)
          go_roundw
          case rel => exact ⟨k + 1, by omega, by go_num, Lib.hid ⟨by rw [HNX.out, ← List.append_assoc]; exact H1.out, hr2.out.2.trans H2.out⟩⟩
          case measure => simp [intOf]; omega
        · obtain rfl : k = h.length := by omega
          have HT := Lib.hid (show TextPost m h w = fun e w' => e = .returned (.string ⟨(marksT m ++ headsT (h.take h.length)).toArray⟩) ∧ Below w.heap.size w w' by
            rw [List.take_of_length_le (Nat.le_refl _)]; rfl)
          have HSt := Lib.hid (Builder_String_any _ _ _ _ hr2.out.1 hsz2)
          generalize marksT m ++ headsT (h.take h.length) = T at *
          go_wp2_with (go_at_call 15; refine HSt.out.mono ?_; rintro e w' ⟨rfl, h2⟩; have H2 := Lib.hid h2; clear h2)
          go_ret
          rw [HT.out]
          exact ⟨rfl, hr2.out.2.trans H2.out⟩
end Go.Proofs.YtlnaepemkeodoaaDoor
