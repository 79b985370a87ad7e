/- The closures that spend all amounts of a list. -/
import Derived.Test.YtdekakhkhkidhaaPlain
import Derived.Test.YtdekakhkhkidhaaMeter
namespace Go.Proofs.Ytdekakhkhkidhaa
open Go.RowKit

theorem MeterAt.cast {w : World} {b : Nat} {l s l' s' : Int} (h : MeterAt w b l s) (h1 : l = l') (h2 : s = s') : MeterAt w b l' s' := by subst h1; subst h2; exact h
theorem MeterAt.kept {w w' : World} {b : Nat} {l s : Int} {S : Nat → Prop} (h : MeterAt w b l s) (hk : Kept S w w') (hs : ¬ S b) : MeterAt w' b l s := hk.get h hs
/-- The numbers at an address, in blocks below B. -/
def Ints (w : World) (B : Nat) (a : Option Addr) (xs : List Int) : Prop :=
  ∀ i (h : i < xs.length), ∃ b off, a = some ⟨b, off, none⟩ ∧ b < B ∧ w.cell? ⟨b, off + i, none⟩ = some (.int .i64 xs[i])
theorem Ints.kept {w w' : World} {B : Nat} {a : Option Addr} {xs : List Int} {S : Nat → Prop} (h : Ints w B a xs) (hk : Kept S w w') (hB : B ≤ w.heap.size) (hS : ∀ k, S k → B ≤ k) : Ints w' B a xs := by
  intro i hi
  obtain ⟨b, off, ha, hb, hc⟩ := h i hi
  exact ⟨b, off, ha, hb, by rw [World.cell?_of_block (w := w) (hk.block b (by omega) (fun hs => by have := hS b hs; omega))]; exact hc⟩

def Spent13 (b Db : Nat) (l s : Int) (xs : List Int) (e : Ending) (w' : World) : Prop :=
  w'.heap[Db]? = some (.cells #[.int .i64 (did l xs : Nat)] 3 (0, 0)) ∧
  if did l xs = xs.length then e = .returned (.tuple #[]) ∧ MeterAt w' b (l - sumN xs) (s + sumN xs)
  else e = .panicked [{ v := overV b, recovered := false }] ∧ MeterAt w' b 0 (s + l)

set_option maxHeartbeats 400000 in
theorem c13 {Lb Mb Db b B : Nat} {l s : Int} {a : Option Addr} {cap : Nat} {xs : List Int} {w : World}
    (hL : w.heap[Lb]? = some (.cells #[.slice a xs.length cap] 22 (0, 0))) (hMp : w.heap[Mb]? = some (.cells #[.pointer (some ⟨b, 0, none⟩)] 24 (0, 0)))
    (hD : w.heap[Db]? = some (.cells #[.int .i64 0] 3 (0, 0))) (hM : MeterAt w b l s) (hl0 : 0 ≤ l) (hs0 : 0 ≤ s) (hs : l + s ≤ 1000000)
    (hx : Ints w B a xs) (hB : B ≤ w.heap.size) (hDB : B ≤ Db) (hbB : B ≤ b) (hlen : xs.length ≤ 100) :
    Calls Try.prog 13 #[.pointer (some ⟨Lb, 0, none⟩), .pointer (some ⟨Mb, 0, none⟩), .pointer (some ⟨Db, 0, none⟩)] w fun e w' =>
      Spent13 b Db l s xs e w' ∧ Kept (fun k => k = b ∨ k = Db) w w' := by
  have hne : b ≠ Db := by rintro rfl; unfold MeterAt at hM; rw [hM] at hD; simp at hD
  have hneM : Mb ≠ b ∧ Mb ≠ Db := ⟨by rintro rfl; unfold MeterAt at hM; rw [hM] at hMp; simp at hMp, by rintro rfl; rw [hD] at hMp; simp at hMp⟩
  have hneL : Lb ≠ b ∧ Lb ≠ Db := ⟨by rintro rfl; unfold MeterAt at hM; rw [hM] at hL; simp at hL, by rintro rfl; rw [hD] at hL; simp at hL⟩
  have hcL := cell_of_block (off := 0) hL
  simp at hcL
  have HX := Lib.hid hx
  have HM := Lib.hid hM
  have HD := Lib.hid hD
  have HMp := Lib.hid hMp
  clear hL hx hM hD hMp
  have hdl := did_le l xs
  go_enter Try.func13, Try.ntmps13
  go_wp2
  go_loopw [7] (fun i wr => ∃ k : Nat, k ≤ did l xs ∧ i = .int .i64 k ∧ MeterAt wr b (l - sumN (xs.take k)) (s + sumN (xs.take k)) ∧
      wr.heap[Db]? = some (.cells #[.int .i64 k] 3 (0, 0)) ∧ Kept (fun k => k = b ∨ k = Db) w wr) (fun i _ => xs.length - (intOf i).toNat)
  case atStart => exact ⟨0, Nat.zero_le _, rfl, by simpa [sumN] using HM.out, HD.out, Kept.refl _ _⟩
  case round =>
    obtain ⟨k, hk, rfl, hMr, hDr, hK⟩ := hrel
    have hpre := did_pre xs l k hl0 hk
    have hnn := sumN_nonneg (xs.take k)
    by_cases hlt : k < xs.length
    · obtain ⟨ab, off, rfl, hab, hcx⟩ := (HX.out.kept hK hB (by rintro k (rfl | rfl) <;> assumption)) k hlt
      have hcp := cell_of_block (off := 0) (hK.get HMp.out (by rintro (h | h); exact hneM.1 h; exact hneM.2 h))
      simp at hcp
      have hlt' : (k : Int) < xs.length := by omega
      by_cases hd : k < did l xs
      · have hy := did_yes xs l k hlt hd
        have HS := Lib.hid (sumN_take_succ xs k hlt)
        have HKr := Lib.hid hK
        have HDr := Lib.hid hDr
        have HMr := Lib.hid hMr
        clear hK hDr hMr
        go_wp2_with fail
        refine (spend_fits HMr.out (by omega) (by omega) (by omega) hy).mono ?_
        rintro e w2 ⟨rfl, hM2, hK2⟩
        have hD2 := hK2.get HDr.out (by intro h; exact hne h.symm)
        have hcd := cell_of_block (off := 0) hD2
        have hfd := free_of_block (off := 0) hD2
        simp at hcd
        have HM2 := Lib.hid hM2
        have HK2 := Lib.hid hK2
        have HD2 := Lib.hid hD2
        clear hM2 hK2 hD2
        go_wp2
        go_roundw
        case rel =>
          refine ⟨k + 1, by omega, by go_num, ?_, ?_, ?_⟩
          · rw [HS.out]
            exact (HM2.out.kept ((Kept.refl (· = Db) w2).setCell (p := ⟨Db, 0, none⟩) (.inl rfl) _) hne).cast (by omega) (by omega)
          · have := heap_setCell_known (off := 0) (u := .int .i64 (↑k + 1)) HD2.out
            simpa using this
          · exact (HKr.out.trans (HK2.out.mono (fun _ _ h => .inl h))).setCell (.inl (.inr rfl)) _
        case measure => simp [intOf]; omega
      · have hkd : k = did l xs := by omega
        have hy := did_no xs l k hlt hkd
        have HKD := Lib.hid hkd
        have HKr := Lib.hid hK
        have HDr := Lib.hid hDr
        have HMr := Lib.hid hMr
        clear hK hDr hMr hkd
        go_wp2_with fail
        refine (spend_over HMr.out (by omega) (by omega) (by omega) hy).mono ?_
        rintro e w2 ⟨rfl, hM2, hK2⟩
        have hD2 := hK2.get HDr.out (by intro h; exact hne h.symm)
        have HM2 := Lib.hid hM2
        have HK2 := Lib.hid hK2
        have HD2 := Lib.hid hD2
        clear hM2 hK2 hD2
        go_wp2
        refine ⟨rfl, ⟨by rw [← HKD.out]; exact HD2.out, ?_⟩, HKr.out.trans (HK2.out.mono (fun _ _ h => .inl h))⟩
        rw [if_neg (by have := HKD.out; omega)]
        exact ⟨rfl, HM2.out.cast rfl (by omega)⟩
    · have hkl : k = xs.length := by omega
      have HKL := Lib.hid hkl
      have HKr := Lib.hid hK
      have HDr := Lib.hid hDr
      have HMr := Lib.hid hMr
      clear hK hDr hMr hkl
      have hlt' : ¬ (k : Int) < xs.length := by omega
      go_wp2
      go_end0
      have h1 := HKL.out
      have h2 := HMr.out
      rw [List.take_of_length_le (by omega)] at h2
      refine ⟨⟨by have : did l xs = k := by omega
                  rw [this]; exact HDr.out, ?_⟩, HKr.out⟩
      rw [if_pos (by omega)]
      exact ⟨rfl, h2⟩
set_option maxHeartbeats 400000 in
theorem c24 {Lb Mb Db b B : Nat} {l s : Int} {a : Option Addr} {cap : Nat} {xs : List Int} {w : World}
    (hL : w.heap[Lb]? = some (.cells #[.slice a xs.length cap] 22 (0, 0))) (hMp : w.heap[Mb]? = some (.cells #[.pointer (some ⟨b, 0, none⟩)] 24 (0, 0)))
    (hD : w.heap[Db]? = some (.cells #[.int .i64 0] 3 (0, 0))) (hM : MeterAt w b l s) (hl0 : 0 ≤ l) (hs0 : 0 ≤ s) (hs : l + s ≤ 1000000)
    (hx : Ints w B a xs) (hB : B ≤ w.heap.size) (hDB : B ≤ Db) (hbB : B ≤ b) (hlen : xs.length ≤ 100) :
    Calls Try.prog 24 #[.pointer (some ⟨Lb, 0, none⟩), .pointer (some ⟨Mb, 0, none⟩), .pointer (some ⟨Db, 0, none⟩)] w fun e w' =>
      Spent13 b Db l s xs e w' ∧ Kept (fun k => k = b ∨ k = Db) w w' := by
  have hne : b ≠ Db := by rintro rfl; unfold MeterAt at hM; rw [hM] at hD; simp at hD
  have hneM : Mb ≠ b ∧ Mb ≠ Db := ⟨by rintro rfl; unfold MeterAt at hM; rw [hM] at hMp; simp at hMp, by rintro rfl; rw [hD] at hMp; simp at hMp⟩
  have hneL : Lb ≠ b ∧ Lb ≠ Db := ⟨by rintro rfl; unfold MeterAt at hM; rw [hM] at hL; simp at hL, by rintro rfl; rw [hD] at hL; simp at hL⟩
  have hcL := cell_of_block (off := 0) hL
  simp at hcL
  have HX := Lib.hid hx
  have HM := Lib.hid hM
  have HD := Lib.hid hD
  have HMp := Lib.hid hMp
  clear hL hx hM hD hMp
  have hdl := did_le l xs
  go_enter Try.func24, Try.ntmps24
  go_wp2
  go_loopw [7] (fun i wr => ∃ k : Nat, k ≤ did l xs ∧ i = .int .i64 k ∧ MeterAt wr b (l - sumN (xs.take k)) (s + sumN (xs.take k)) ∧
      wr.heap[Db]? = some (.cells #[.int .i64 k] 3 (0, 0)) ∧ Kept (fun k => k = b ∨ k = Db) w wr) (fun i _ => xs.length - (intOf i).toNat)
  case atStart => exact ⟨0, Nat.zero_le _, rfl, by simpa [sumN] using HM.out, HD.out, Kept.refl _ _⟩
  case round =>
    obtain ⟨k, hk, rfl, hMr, hDr, hK⟩ := hrel
    have hpre := did_pre xs l k hl0 hk
    have hnn := sumN_nonneg (xs.take k)
    by_cases hlt : k < xs.length
    · obtain ⟨ab, off, rfl, hab, hcx⟩ := (HX.out.kept hK hB (by rintro k (rfl | rfl) <;> assumption)) k hlt
      have hcp := cell_of_block (off := 0) (hK.get HMp.out (by rintro (h | h); exact hneM.1 h; exact hneM.2 h))
      simp at hcp
      have hlt' : (k : Int) < xs.length := by omega
      by_cases hd : k < did l xs
      · have hy := did_yes xs l k hlt hd
        have HS := Lib.hid (sumN_take_succ xs k hlt)
        have HKr := Lib.hid hK
        have HDr := Lib.hid hDr
        have HMr := Lib.hid hMr
        clear hK hDr hMr
        go_wp2_with fail
        refine (spend_fits HMr.out (by omega) (by omega) (by omega) hy).mono ?_
        rintro e w2 ⟨rfl, hM2, hK2⟩
        have hD2 := hK2.get HDr.out (by intro h; exact hne h.symm)
        have hcd := cell_of_block (off := 0) hD2
        have hfd := free_of_block (off := 0) hD2
        simp at hcd
        have HM2 := Lib.hid hM2
        have HK2 := Lib.hid hK2
        have HD2 := Lib.hid hD2
        clear hM2 hK2 hD2
        go_wp2
        go_roundw
        case rel =>
          refine ⟨k + 1, by omega, by go_num, ?_, ?_, ?_⟩
          · rw [HS.out]
            exact (HM2.out.kept ((Kept.refl (· = Db) w2).setCell (p := ⟨Db, 0, none⟩) (.inl rfl) _) hne).cast (by omega) (by omega)
          · have := heap_setCell_known (off := 0) (u := .int .i64 (↑k + 1)) HD2.out
            simpa using this
          · exact (HKr.out.trans (HK2.out.mono (fun _ _ h => .inl h))).setCell (.inl (.inr rfl)) _
        case measure => simp [intOf]; omega
      · have hkd : k = did l xs := by omega
        have hy := did_no xs l k hlt hkd
        have HKD := Lib.hid hkd
        have HKr := Lib.hid hK
        have HDr := Lib.hid hDr
        have HMr := Lib.hid hMr
        clear hK hDr hMr hkd
        go_wp2_with fail
        refine (spend_over HMr.out (by omega) (by omega) (by omega) hy).mono ?_
        rintro e w2 ⟨rfl, hM2, hK2⟩
        have hD2 := hK2.get HDr.out (by intro h; exact hne h.symm)
        have HM2 := Lib.hid hM2
        have HK2 := Lib.hid hK2
        have HD2 := Lib.hid hD2
        clear hM2 hK2 hD2
        go_wp2
        refine ⟨rfl, ⟨by rw [← HKD.out]; exact HD2.out, ?_⟩, HKr.out.trans (HK2.out.mono (fun _ _ h => .inl h))⟩
        rw [if_neg (by have := HKD.out; omega)]
        exact ⟨rfl, HM2.out.cast rfl (by omega)⟩
    · have hkl : k = xs.length := by omega
      have HKL := Lib.hid hkl
      have HKr := Lib.hid hK
      have HDr := Lib.hid hDr
      have HMr := Lib.hid hMr
      clear hK hDr hMr hkl
      have hlt' : ¬ (k : Int) < xs.length := by omega
      go_wp2
      go_end0
      have h1 := HKL.out
      have h2 := HMr.out
      rw [List.take_of_length_le (by omega)] at h2
      refine ⟨⟨by have : did l xs = k := by omega
                  rw [this]; exact HDr.out, ?_⟩, HKr.out⟩
      rw [if_pos (by omega)]
      exact ⟨rfl, h2⟩
set_option maxHeartbeats 400000 in
theorem c23 {Lb Db b B : Nat} {l s : Int} {a : Option Addr} {cap : Nat} {xs : List Int} {w : World}
    (hL : w.heap[Lb]? = some (.cells #[.slice a xs.length cap] 22 (0, 0)))
    (hD : w.heap[Db]? = some (.cells #[.int .i64 0] 3 (0, 0))) (hM : MeterAt w b l s) (hl0 : 0 ≤ l) (hs0 : 0 ≤ s) (hs : l + s ≤ 1000000)
    (hx : Ints w B a xs) (hB : B ≤ w.heap.size) (hDB : B ≤ Db) (hbB : B ≤ b) (hlen : xs.length ≤ 100) :
    Calls Try.prog 23 #[.pointer (some ⟨b, 0, none⟩), .pointer (some ⟨Lb, 0, none⟩), .pointer (some ⟨Db, 0, none⟩)] w fun e w' =>
      Spent13 b Db l s xs e w' ∧ Kept (fun k => k = b ∨ k = Db) w w' := by
  have hne : b ≠ Db := by rintro rfl; unfold MeterAt at hM; rw [hM] at hD; simp at hD
  have hneL : Lb ≠ b ∧ Lb ≠ Db := ⟨by rintro rfl; unfold MeterAt at hM; rw [hM] at hL; simp at hL, by rintro rfl; rw [hD] at hL; simp at hL⟩
  have hcL := cell_of_block (off := 0) hL
  simp at hcL
  have HX := Lib.hid hx
  have HM := Lib.hid hM
  have HD := Lib.hid hD
  clear hL hx hM hD
  have hdl := did_le l xs
  go_enter Try.func23, Try.ntmps23
  go_wp2
  go_loopw [8] (fun i wr => ∃ k : Nat, k ≤ did l xs ∧ i = .int .i64 k ∧ MeterAt wr b (l - sumN (xs.take k)) (s + sumN (xs.take k)) ∧
      wr.heap[Db]? = some (.cells #[.int .i64 k] 3 (0, 0)) ∧ Kept (fun k => k = b ∨ k = Db) w wr) (fun i _ => xs.length - (intOf i).toNat)
  case atStart => exact ⟨0, Nat.zero_le _, rfl, by simpa [sumN] using HM.out, HD.out, Kept.refl _ _⟩
  case round =>
    obtain ⟨k, hk, rfl, hMr, hDr, hK⟩ := hrel
    have hpre := did_pre xs l k hl0 hk
    have hnn := sumN_nonneg (xs.take k)
    by_cases hlt : k < xs.length
    · obtain ⟨ab, off, rfl, hab, hcx⟩ := (HX.out.kept hK hB (by rintro k (rfl | rfl) <;> assumption)) k hlt
      have hlt' : (k : Int) < xs.length := by omega
      by_cases hd : k < did l xs
      · have hy := did_yes xs l k hlt hd
        have HS := Lib.hid (sumN_take_succ xs k hlt)
        have HKr := Lib.hid hK
        have HDr := Lib.hid hDr
        have HMr := Lib.hid hMr
        clear hK hDr hMr
        go_wp2_with fail
        refine (spend_fits HMr.out (by omega) (by omega) (by omega) hy).mono ?_
        rintro e w2 ⟨rfl, hM2, hK2⟩
        have hD2 := hK2.get HDr.out (by intro h; exact hne h.symm)
        have hcd := cell_of_block (off := 0) hD2
        have hfd := free_of_block (off := 0) hD2
        simp at hcd
        have HM2 := Lib.hid hM2
        have HK2 := Lib.hid hK2
        have HD2 := Lib.hid hD2
        clear hM2 hK2 hD2
        go_wp2
        go_roundw
        case rel =>
          refine ⟨k + 1, by omega, by go_num, ?_, ?_, ?_⟩
          · rw [HS.out]
            exact (HM2.out.kept ((Kept.refl (· = Db) w2).setCell (p := ⟨Db, 0, none⟩) (.inl rfl) _) hne).cast (by omega) (by omega)
          · have := heap_setCell_known (off := 0) (u := .int .i64 (↑k + 1)) HD2.out
            simpa using this
          · exact (HKr.out.trans (HK2.out.mono (fun _ _ h => .inl h))).setCell (.inl (.inr rfl)) _
        case measure => simp [intOf]; omega
      · have hkd : k = did l xs := by omega
        have hy := did_no xs l k hlt hkd
        have HKD := Lib.hid hkd
        have HKr := Lib.hid hK
        have HDr := Lib.hid hDr
        have HMr := Lib.hid hMr
        clear hK hDr hMr hkd
        go_wp2_with fail
        refine (spend_over HMr.out (by omega) (by omega) (by omega) hy).mono ?_
        rintro e w2 ⟨rfl, hM2, hK2⟩
        have hD2 := hK2.get HDr.out (by intro h; exact hne h.symm)
        have HM2 := Lib.hid hM2
        have HK2 := Lib.hid hK2
        have HD2 := Lib.hid hD2
        clear hM2 hK2 hD2
        go_wp2
        refine ⟨rfl, ⟨by rw [← HKD.out]; exact HD2.out, ?_⟩, HKr.out.trans (HK2.out.mono (fun _ _ h => .inl h))⟩
        rw [if_neg (by have := HKD.out; omega)]
        exact ⟨rfl, HM2.out.cast rfl (by omega)⟩
    · have hkl : k = xs.length := by omega
      have HKL := Lib.hid hkl
      have HKr := Lib.hid hK
      have HDr := Lib.hid hDr
      have HMr := Lib.hid hMr
      clear hK hDr hMr hkl
      have hlt' : ¬ (k : Int) < xs.length := by omega
      go_wp2
      go_end0
      have h1 := HKL.out
      have h2 := HMr.out
      rw [List.take_of_length_le (by omega)] at h2
      refine ⟨⟨by have : did l xs = k := by omega
                  rw [this]; exact HDr.out, ?_⟩, HKr.out⟩
      rw [if_pos (by omega)]
      exact ⟨rfl, h2⟩
end Go.Proofs.Ytdekakhkhkidhaa
