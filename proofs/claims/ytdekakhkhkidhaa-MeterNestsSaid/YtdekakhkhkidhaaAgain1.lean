/- The closures of MeterAgain: all amounts of a list, one amount, none. -/
import Derived.Test.YtdekakhkhkidhaaArgs
import Derived.Laws.BitsAllLaws
import Derived.Laws.BitsLemmas
namespace Go.Proofs.Ytdekakhkhkidhaa
open Go.RowKit

def am (x : Int) : Int := bits .and .i64 x 4095
theorem am_range (x : Int) : 0 ≤ am x ∧ am x ≤ 4095 := by
  unfold am
  have h : bits .and .i64 x 4095 = IntKind.i64.wrap ((BitVec.ofInt 64 x &&& BitVec.ofInt 64 4095).toNat : Int) := rfl
  rw [h, BitVec.toNat_and]
  have hx : (BitVec.ofInt 64 x).toNat &&& (BitVec.ofInt 64 4095).toNat ≤ 4095 := Nat.and_le_right
  rw [IntKind.wrap_i64]
  omega
theorem nn_am (x : Int) : nn (am x) = am x := nn_of _ (am_range x).1

def Spent16 (b : Nat) (l s : Int) (ys : List Int) (e : Ending) (w' : World) : Prop :=
  if did l ys = ys.length then e = .returned (.tuple #[]) ∧ MeterAt w' b (l - sumN ys) (s + sumN ys)
  else e = .panicked [{ v := overV b, recovered := false }] ∧ MeterAt w' b 0 (s + l)

set_option maxHeartbeats 400000 in
theorem c16 {Lb Mb b B : Nat} {l s : Int} {a : Option Addr} {cap : Nat} {xs : List Int} {w : World}
    (hL : w.heap[Lb]? = some (.cells #[.slice a xs.length cap] 22 (0, 0))) (hMp : w.heap[Mb]? = some (.cells #[.pointer (some ⟨b, 0, none⟩)] 24 (0, 0)))
    (hM : MeterAt w b l s) (hl0 : 0 ≤ l) (hs0 : 0 ≤ s) (hs : l + s ≤ 1000000)
    (hx : Ints w B a xs) (hB : B ≤ w.heap.size) (hbB : B ≤ b) (hlen : xs.length ≤ 100) :
    Calls Try.prog 16 #[.pointer (some ⟨Lb, 0, none⟩), .pointer (some ⟨Mb, 0, none⟩)] w fun e w' =>
      Spent16 b l s (xs.map am) e w' ∧ Kept (fun k => k = b) w w' := by
  have hneM : Mb ≠ b := by rintro rfl; unfold MeterAt at hM; rw [hM] at hMp; simp at hMp
  have hcL := cell_of_block (off := 0) hL
  simp at hcL
  have HX := Lib.hid hx
  have HM := Lib.hid hM
  have HMp := Lib.hid hMp
  clear hL hx hM hMp
  have hdl := did_le l (xs.map am)
  have HE := Lib.hid (show (xs.map am).length = xs.length by simp)
  rw [HE.out] at hdl
  go_enter Try.func16, Try.ntmps16
  go_wp2
  go_loopw [6] (fun i wr => ∃ k : Nat, k ≤ did l (xs.map am) ∧ i = .int .i64 k ∧ MeterAt wr b (l - sumN ((xs.map am).take k)) (s + sumN ((xs.map am).take k)) ∧
      Kept (fun k => k = b) w wr) (fun i _ => xs.length - (intOf i).toNat)
  case atStart => exact ⟨0, Nat.zero_le _, rfl, by simpa [sumN] using HM.out, Kept.refl _ _⟩
  case round =>
    obtain ⟨k, hk, rfl, hMr, hK⟩ := hrel
    have hpre := did_pre (xs.map am) l k hl0 hk
    have hnn := sumN_nonneg ((xs.map am).take k)
    by_cases hlt : k < xs.length
    · obtain ⟨ab, off, rfl, hab, hcx⟩ := (HX.out.kept hK hB (by rintro k rfl; assumption)) k hlt
      have hcp := cell_of_block (off := 0) (hK.get HMp.out hneM)
      simp at hcp
      have hlt' : (k : Int) < xs.length := by omega
      have hltm : k < (xs.map am).length := by rw [HE.out]; exact hlt
      have hgm : (xs.map am)[k] = am xs[k] := by simp
      by_cases hd : k < did l (xs.map am)
      · have hy := did_yes (xs.map am) l k hltm hd
        rw [hgm] at hy
        have hst := sumN_take_succ (xs.map am) k hltm
        rw [hgm] at hst
        have HS := Lib.hid hst
        have HKr := Lib.hid hK
        have HMr := Lib.hid hMr
        clear hK hMr hst hgm
        go_wp2_with fail
        refine (spend_fits (n := am xs[k]) HMr.out (by omega) (by omega) (by omega) hy).mono ?_
        rintro e w2 ⟨rfl, hM2, hK2⟩
        have HM2 := Lib.hid hM2
        have HK2 := Lib.hid hK2
        clear hM2 hK2
        go_wp2
        go_roundw
        case rel =>
          refine ⟨k + 1, by omega, by go_num, ?_, HKr.out.trans HK2.out⟩
          rw [HS.out]
          exact HM2.out.cast (by omega) (by omega)
        case measure => simp [intOf]; omega
      · have hkd : k = did l (xs.map am) := by omega
        have hy := did_no (xs.map am) l k hltm hkd
        rw [hgm] at hy
        have HKD := Lib.hid hkd
        have HKr := Lib.hid hK
        have HMr := Lib.hid hMr
        clear hK hMr hkd hgm
        go_wp2_with fail
        refine (spend_over (n := am xs[k]) HMr.out (by omega) (by omega) (by omega) hy).mono ?_
        rintro e w2 ⟨rfl, hM2, hK2⟩
        have HM2 := Lib.hid hM2
        have HK2 := Lib.hid hK2
        clear hM2 hK2
        go_wp2
        refine ⟨rfl, ?_, HKr.out.trans HK2.out⟩
        unfold Spent16
        rw [if_neg (by have := HKD.out; have := HE.out; omega)]
        exact ⟨rfl, HM2.out.cast rfl (by omega)⟩
    · have hkl : k = xs.length := by omega
      have HKL := Lib.hid hkl
      have HKr := Lib.hid hK
      have HMr := Lib.hid hMr
      clear hK hMr hkl
      have hlt' : ¬ (k : Int) < xs.length := by omega
      go_wp2
      go_end0
      have h1 := HKL.out
      have h2 := HMr.out
      rw [List.take_of_length_le (by have := HE.out; omega)] at h2
      refine ⟨?_, HKr.out⟩
      unfold Spent16
      rw [if_pos (by have := HE.out; omega)]
      exact ⟨rfl, h2⟩

/-- One amount: whether it is done; what is left. -/
theorem c17 {Mb Xb b : Nat} {l s x : Int} {w : World} (hMp : w.heap[Mb]? = some (.cells #[.pointer (some ⟨b, 0, none⟩)] 24 (0, 0)))
    (hX : w.heap[Xb]? = some (.cells #[.int .i64 x] 3 (0, 0))) (hM : MeterAt w b l s) (hl0 : 0 ≤ l) (hs0 : 0 ≤ s) (hs : l + s ≤ 1000000) :
    Calls Try.prog 17 #[.pointer (some ⟨Mb, 0, none⟩), .pointer (some ⟨Xb, 0, none⟩)] w fun e w' =>
      Out (decide (am x ≤ l)) b e ∧ Kept (fun k => k = b) w w' ∧ MeterAt w' b (if am x ≤ l then l - am x else 0) (if am x ≤ l then s + am x else s + l) := by
  have h1 := cell_of_block (off := 0) hMp
  have h2 := cell_of_block (off := 0) hX
  simp at h1 h2
  have HM := Lib.hid hM
  clear hMp hX hM
  by_cases hd : am x ≤ l
  · simp only [hd, if_true, decide_true]
    have HD := Lib.hid hd
    have HN := Lib.hid (nn_am x)
    clear hd
    go_enter Try.func17, Try.ntmps17
    go_wp2_with fail
    refine (spend_fits (n := am x) HM.out hl0 hs0 hs (by rw [HN.out]; exact HD.out)).mono ?_
    rintro e w2 ⟨rfl, hM2, hK2⟩
    rw [HN.out] at hM2
    have HE := Lib.hid (And.intro hK2 hM2)
    clear hM2 hK2
    go_wp2
    go_end0
    exact ⟨rfl, HE.out⟩
  · simp only [hd, if_false, decide_false]
    have HD := Lib.hid hd
    have HN := Lib.hid (nn_am x)
    clear hd
    go_enter Try.func17, Try.ntmps17
    go_wp2_with fail
    refine (spend_over (n := am x) HM.out hl0 hs0 hs (by rw [HN.out]; have := HD.out; omega)).mono ?_
    rintro e w2 ⟨rfl, hM2, hK2⟩
    have HE := Lib.hid (And.intro hK2 hM2)
    clear hM2 hK2
    go_wp2
    exact ⟨rfl, ⟨[], rfl, rfl⟩, HE.out⟩

theorem c18 {Mb b : Nat} {l s : Int} {w : World} (hMp : w.heap[Mb]? = some (.cells #[.pointer (some ⟨b, 0, none⟩)] 24 (0, 0)))
    (hM : MeterAt w b l s) (hl0 : 0 ≤ l) (hs0 : 0 ≤ s) (hs : l + s ≤ 1000000) :
    Calls Try.prog 18 #[.pointer (some ⟨Mb, 0, none⟩)] w fun e w' => e = .returned (.tuple #[]) ∧ Kept (fun k => k = b) w w' ∧ MeterAt w' b l s := by
  have h1 := cell_of_block (off := 0) hMp
  simp at h1
  have HM := Lib.hid hM
  clear hMp hM
  go_enter Try.func18, Try.ntmps18
  go_wp2_with fail
  refine (spend_fits (n := 0) HM.out hl0 hs0 hs hl0).mono ?_
  rintro e w2 ⟨rfl, hM2, hK2⟩
  have HE := Lib.hid (And.intro hK2 (hM2.cast (l' := l) (s' := s) (by simp [nn]) (by simp [nn])))
  clear hM2 hK2
  go_wp2
  go_end0
  exact ⟨rfl, HE.out⟩
end Go.Proofs.Ytdekakhkhkidhaa
