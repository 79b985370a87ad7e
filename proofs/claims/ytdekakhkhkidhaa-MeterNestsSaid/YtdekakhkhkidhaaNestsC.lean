/- The closures of MeterNests. -/
import Derived.Test.YtdekakhkhkidhaaNestsR
namespace Go.Proofs.Ytdekakhkhkidhaa.meterNests
open Go.RowKit
theorem nn_pos {x : Int} (h : 0 ≤ x) : nn x = x := nn_of x h
/-- One amount of a meter that is handed in. -/
theorem c22 {Xb b : Nat} {l s x : Int} {w : World} (hx0 : 0 ≤ x) (hX : w.heap[Xb]? = some (.cells #[.int .i64 x] 3 (0, 0))) (hM : MeterAt w b l s) (hl0 : 0 ≤ l) (hs0 : 0 ≤ s) (hs : l + s ≤ 1000000) :
    Calls Try.prog 22 #[.pointer (some ⟨b, 0, none⟩), .pointer (some ⟨Xb, 0, none⟩)] w fun e w' =>
      Out (decide (x ≤ l)) b e ∧ Kept (fun k => k = b) w w' ∧ MeterAt w' b (if x ≤ l then l - x else 0) (if x ≤ l then s + x else s + l) := by
  have h2 := cell_of_block (off := 0) hX
  simp at h2
  have HM := Lib.hid hM
  have HN := Lib.hid (nn_pos hx0)
  clear hX hM
  by_cases hd : x ≤ l
  · simp only [hd, if_true, decide_true]
    have HD := Lib.hid hd
    clear hd
    go_enter Try.func22, Try.ntmps22
    go_wp2_with fail
    refine (spend_fits (n := x) HM.out hl0 hs0 hs (by rw [HN.out]; exact HD.out)).mono ?_
    rintro e w2 ⟨rfl, hM2, hK2⟩
    rw [HN.out] at hM2
    have HE := Lib.hid (And.intro hK2 hM2)
    clear hM2 hK2
    go_wp2
    go_end0
    exact ⟨rfl, HE.out⟩
  · simp only [hd, if_false, decide_false]
    have HD := Lib.hid hd
    clear hd
    go_enter Try.func22, Try.ntmps22
    go_wp2_with fail
    refine (spend_over (n := x) HM.out hl0 hs0 hs (by rw [HN.out]; have := HD.out; omega)).mono ?_
    rintro e w2 ⟨rfl, hM2, hK2⟩
    have HE := Lib.hid (And.intro hK2 hM2)
    clear hM2 hK2
    go_wp2
    exact ⟨rfl, ⟨[], rfl, rfl⟩, HE.out⟩
/-- What the inner closure finds. -/
structure NMem (w : World) (Jb Ib Mb Ob bj bm : Nat) (n k inner outer : Int) : Prop where
  jp : w.heap[Jb]? = some (.cells #[.pointer (some ⟨bj, 0, none⟩)] 24 (0, 0))
  ip : w.heap[Ib]? = some (.cells #[.int .i64 inner] 3 (0, 0))
  mp : w.heap[Mb]? = some (.cells #[.pointer (some ⟨bm, 0, none⟩)] 24 (0, 0))
  op : w.heap[Ob]? = some (.cells #[.int .i64 outer] 3 (0, 0))
  mj : MeterAt w bj k 0
  mm : MeterAt w bm n 0
  ne : bm ≠ bj
  r : 0 ≤ n ∧ n ≤ 255 ∧ 0 ≤ k ∧ k ≤ 255 ∧ 0 ≤ inner ∧ inner ≤ 255 ∧ 0 ≤ outer ∧ outer ≤ 255
theorem not_meter {w : World} {b p : Nat} {l s : Int} {v : Value} {t : TypeId} (h : MeterAt w b l s) (hp : w.heap[p]? = some (.cells #[v] t (0, 0))) : p ≠ b := by
  rintro rfl
  unfold MeterAt at h
  rw [h] at hp
  simp at hp
theorem NMem.kept {w w' : World} {Jb Ib Mb Ob bj bm : Nat} {n k inner outer : Int} (h : NMem w Jb Ib Mb Ob bj bm n k inner outer) (hk : Kept (fun _ => False) w w') : NMem w' Jb Ib Mb Ob bj bm n k inner outer :=
  ⟨hk.get h.jp id, hk.get h.ip id, hk.get h.mp id, hk.get h.op id, h.mj.kept hk id, h.mm.kept hk id, h.ne, h.r⟩
/-- What the inner work does. -/
def In20 (bj bm : Nat) (n k inner outer : Int) (e : Ending) (w' : World) : Prop :=
  if k < inner then Out false bj e ∧ MeterAt w' bj 0 k ∧ MeterAt w' bm n 0
  else if n < outer then Out false bm e ∧ MeterAt w' bj (k - inner) inner ∧ MeterAt w' bm 0 n
  else Out true bj e ∧ MeterAt w' bj (k - inner) inner ∧ MeterAt w' bm (n - outer) outer
theorem c20 {w : World} {Jb Ib Mb Ob bj bm : Nat} {n k inner outer : Int} (h : NMem w Jb Ib Mb Ob bj bm n k inner outer) :
    Calls Try.prog 20 #[.pointer (some ⟨Jb, 0, none⟩), .pointer (some ⟨Ib, 0, none⟩), .pointer (some ⟨Mb, 0, none⟩), .pointer (some ⟨Ob, 0, none⟩)] w fun e w' =>
      In20 bj bm n k inner outer e w' ∧ Kept (fun i => i = bj ∨ i = bm) w w' := by
  obtain ⟨jp, ip, mp, op, mj, mm, ne, r0, r1, r2, r3, r4, r5, r6, r7⟩ := h
  have c0 := cell_of_block (off := 0) jp
  have c1 := cell_of_block (off := 0) ip
  simp at c0 c1
  have HNI := Lib.hid (nn_pos r4)
  have HNO := Lib.hid (nn_pos r6)
  have HMM := Lib.hid mm
  have HMJ := Lib.hid mj
  have HMP := Lib.hid (And.intro mp (not_meter mj mp))
  have HOP := Lib.hid (And.intro op (not_meter mj op))
  clear jp ip mp op mm mj
  by_cases h1 : k < inner
  · unfold In20
    simp only [if_pos h1]
    go_enter Try.func20, Try.ntmps20
    go_wp2_with fail
    refine (spend_over (n := inner) HMJ.out (by omega) (by omega) (by omega) (by rw [HNI.out]; exact h1)).mono ?_
    rintro e w2 ⟨rfl, hM2, hK2⟩
    have HE := Lib.hid (And.intro (hM2.cast (l' := 0) (s' := k) rfl (by omega)) (And.intro (HMM.out.kept hK2 ne) (hK2.mono (S' := fun i => i = bj ∨ i = bm) (fun _ _ h => .inl h))))
    clear hM2 hK2
    go_wp2
    exact ⟨rfl, ⟨⟨[], rfl, rfl⟩, HE.out.1, HE.out.2.1⟩, HE.out.2.2⟩
  · have HH := Lib.hid h1
    clear h1
    by_cases h2 : n < outer
    · unfold In20
      simp only [if_neg HH.out, if_pos h2]
      go_enter Try.func20, Try.ntmps20
      go_wp2_with fail
      refine (spend_fits (n := inner) HMJ.out (by omega) (by omega) (by omega) (by rw [HNI.out]; have := HH.out; omega)).mono ?_
      rintro e w2 ⟨rfl, hM2, hK2⟩
      rw [HNI.out] at hM2
      have c2 := cell_of_block (off := 0) (hK2.get HMP.out.1 HMP.out.2)
      have c3 := cell_of_block (off := 0) (hK2.get HOP.out.1 HOP.out.2)
      simp at c2 c3
      have HMM2 := Lib.hid (HMM.out.kept hK2 ne)
      have HM2 := Lib.hid hM2
      have HK2 := Lib.hid hK2
      clear hM2 hK2
      go_wp2_with fail
      refine (spend_over (n := outer) HMM2.out (by omega) (by omega) (by omega) (by rw [HNO.out]; exact h2)).mono ?_
      rintro e w3 ⟨rfl, hM3, hK3⟩
      have HE := Lib.hid (And.intro ((HM2.out.kept hK3 (Ne.symm ne)).cast (l' := k - inner) (s' := inner) rfl (by omega)) (And.intro (hM3.cast (l' := 0) (s' := n) rfl (by omega)) ((HK2.out.mono (S' := fun i => i = bj ∨ i = bm) (fun _ _ h => .inl h)).trans (hK3.mono (fun _ _ h => .inr h)))))
      clear hM3 hK3
      go_wp2
      exact ⟨rfl, ⟨⟨[], rfl, rfl⟩, HE.out.1, HE.out.2.1⟩, HE.out.2.2⟩
    · have HH2 := Lib.hid h2
      clear h2
      unfold In20
      simp only [if_neg HH.out, if_neg HH2.out]
      go_enter Try.func20, Try.ntmps20
      go_wp2_with fail
      refine (spend_fits (n := inner) HMJ.out (by omega) (by omega) (by omega) (by rw [HNI.out]; have := HH.out; omega)).mono ?_
      rintro e w2 ⟨rfl, hM2, hK2⟩
      rw [HNI.out] at hM2
      have c2 := cell_of_block (off := 0) (hK2.get HMP.out.1 HMP.out.2)
      have c3 := cell_of_block (off := 0) (hK2.get HOP.out.1 HOP.out.2)
      simp at c2 c3
      have HMM2 := Lib.hid (HMM.out.kept hK2 ne)
      have HM2 := Lib.hid hM2
      have HK2 := Lib.hid hK2
      clear hM2 hK2
      go_wp2_with fail
      refine (spend_fits (n := outer) HMM2.out (by omega) (by omega) (by omega) (by rw [HNO.out]; have := HH2.out; omega)).mono ?_
      rintro e w3 ⟨rfl, hM3, hK3⟩
      rw [HNO.out] at hM3
      have HE := Lib.hid (And.intro ((HM2.out.kept hK3 (Ne.symm ne)).cast (l' := k - inner) (s' := inner) rfl (by omega)) (And.intro (hM3.cast (l' := n - outer) (s' := outer) rfl (by omega)) ((HK2.out.mono (S' := fun i => i = bj ∨ i = bm) (fun _ _ h => .inl h)).trans (hK3.mono (fun _ _ h => .inr h)))))
      clear hM3 hK3
      go_wp2
      go_end0
      exact ⟨⟨rfl, HE.out.1, HE.out.2.1⟩, HE.out.2.2⟩
/-- What the outer work finds besides. -/
structure NMem2 (w : World) (Jb Ib Mb Ob Nb Bb Kb Sb Tb bj bm : Nat) (n k inner outer : Int) : Prop where
  m : NMem w Jb Ib Mb Ob bj bm n k inner outer
  np : w.heap[Nb]? = some (.cells #[.bool false] 4 (0, 0))
  bp : w.heap[Bb]? = some (.cells #[.bool false] 4 (0, 0))
  kp : w.heap[Kb]? = some (.cells #[.int .i64 k] 3 (0, 0))
  sp : w.heap[Sb]? = some (.cells #[.int .i64 0] 3 (0, 0))
  tp : w.heap[Tb]? = some (.cells #[.bool false] 4 (0, 0))
  d1 : Nb ≠ Bb ∧ Nb ≠ Tb ∧ Bb ≠ Tb ∧ Kb ≠ Sb ∧ Ib ≠ Sb ∧ Ob ≠ Sb
theorem NMem2.kept {w w' : World} {Jb Ib Mb Ob Nb Bb Kb Sb Tb bj bm : Nat} {n k inner outer : Int} (h : NMem2 w Jb Ib Mb Ob Nb Bb Kb Sb Tb bj bm n k inner outer) (hk : Kept (fun _ => False) w w') : NMem2 w' Jb Ib Mb Ob Nb Bb Kb Sb Tb bj bm n k inner outer :=
  ⟨h.m.kept hk, hk.get h.np id, hk.get h.bp id, hk.get h.kp id, hk.get h.sp id, hk.get h.tp id, h.d1⟩
end Go.Proofs.Ytdekakhkhkidhaa.meterNests
