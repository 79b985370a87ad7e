/- The outer closure of MeterNests. -/
import Derived.Test.YtdekakhkhkidhaaNestsC
namespace Go.Proofs.Ytdekakhkhkidhaa.meterNests
open Go.RowKit
def S19 (Nb Bb Sb Tb bj bm : Nat) (i : Nat) : Prop := i = bj ∨ i = bm ∨ i = Nb ∨ i = Bb ∨ i = Sb ∨ i = Tb
theorem held_id {k : Int} (h0 : 0 ≤ k) (h1 : k ≤ 255) : held k = k := by unfold held; rw [if_neg (by omega), if_neg (by omega)]
theorem lt_m {w : World} {b : Nat} {l s : Int} (h : MeterAt w b l s) : b < w.heap.size := lt_of_block h
theorem type_ne {w : World} {a b : Nat} {x y : Value} (ha : w.heap[a]? = some (.cells #[x] 4 (0, 0))) (hb : w.heap[b]? = some (.cells #[y] 3 (0, 0))) : a ≠ b := by
  rintro rfl
  rw [ha] at hb
  simp at hb
set_option maxHeartbeats 1000000 in
theorem c19_a {w : World} {Jb Ib Mb Ob Nb Bb Kb Sb Tb bj bm : Nat} {n k inner outer : Int} (h : NMem2 w Jb Ib Mb Ob Nb Bb Kb Sb Tb bj bm n k inner outer) (h1 : k < inner) (h2 : True) :
    Calls Try.prog 19 #[.pointer (some ⟨Jb, 0, none⟩), .pointer (some ⟨Ib, 0, none⟩), .pointer (some ⟨Mb, 0, none⟩), .pointer (some ⟨Ob, 0, none⟩), .pointer (some ⟨Nb, 0, none⟩), .pointer (some ⟨Bb, 0, none⟩), .pointer (some ⟨Kb, 0, none⟩), .pointer (some ⟨Sb, 0, none⟩), .pointer (some ⟨Tb, 0, none⟩)] w fun e w' =>
      e = .returned (.tuple #[]) ∧ Kept (S19 Nb Bb Sb Tb bj bm) w w' ∧ MeterAt w' bj 0 k ∧ MeterAt w' bm n 0 ∧ w'.heap[Nb]? = some (.cells #[.bool false] 4 (0, 0)) ∧ w'.heap[Bb]? = some (.cells #[.bool true] 4 (0, 0)) ∧ w'.heap[Sb]? = some (.cells #[.int .i64 k] 3 (0, 0)) ∧ w'.heap[Tb]? = some (.cells #[.bool false] 4 (0, 0)) := by
  have hmf : ∀ (fn : Fn) (first cap : Array Value) (w : World), (Instr.makeFunc fn first cap).run Try.prog w = .ok (.func fn first cap) w := fun _ _ _ _ => rfl
  obtain ⟨hm, np, bp, kp, sp, tp, d1, d2, d3, d4, d5, d6⟩ := h
  have r := hm.r
  have c0 := cell_of_block (off := 0) hm.jp
  simp at c0
  have HM := Lib.hid hm
  have HNP := Lib.hid (And.intro np (And.intro (not_meter hm.mj np) (not_meter hm.mm np)))
  have HBP := Lib.hid (And.intro bp (And.intro (not_meter hm.mj bp) (not_meter hm.mm bp)))
  have HKP := Lib.hid (And.intro kp (And.intro (not_meter hm.mj kp) (not_meter hm.mm kp)))
  have HSP := Lib.hid (And.intro sp (And.intro (not_meter hm.mj sp) (not_meter hm.mm sp)))
  have HTP := Lib.hid (And.intro tp (And.intro (not_meter hm.mj tp) (not_meter hm.mm tp)))
  have HIP := Lib.hid (And.intro hm.ip (And.intro (not_meter hm.mj hm.ip) (not_meter hm.mm hm.ip)))
  have HT := Lib.hid (type_ne np kp)
  have HT2 := Lib.hid (type_ne bp kp)
  have HT3 := Lib.hid (type_ne np hm.ip)
  have HT4 := Lib.hid (type_ne bp hm.ip)
  have HT5 := Lib.hid (type_ne np sp)
  have HT6 := Lib.hid (type_ne bp sp)
  have HT7 := Lib.hid (type_ne tp sp)
  have HH1 := Lib.hid h1
  have HH2 := Lib.hid h2
  clear hm np bp kp sp tp h1 h2
  go_enter Try.func19, Try.ntmps19
  go_wp2_with fail
  refine (run_any false (b := bj) (g := 20) (cap := #[.pointer (some ⟨Jb, 0, none⟩), .pointer (some ⟨Ib, 0, none⟩), .pointer (some ⟨Mb, 0, none⟩), .pointer (some ⟨Ob, 0, none⟩)]) (S := fun i => i = bj ∨ i = bm) (R := fun w' => MeterAt w' bj 0 k ∧ MeterAt w' bm n 0) (fun _ => by simp [go_sem]) ?_ ?_ ?_).mono ?_
  · rintro w2 w3 hk ⟨q1, q2⟩
    have := lt_m HM.out.mj
    have := lt_m HM.out.mm
    exact ⟨q1.kept hk (by omega), q2.kept hk (by omega)⟩
  · rintro i (rfl | rfl)
    · exact lt_m HM.out.mj
    · exact lt_m HM.out.mm
  · intro w1 hk1
    refine (c20 (HM.out.kept hk1)).mono ?_
    rintro e w2 ⟨hi, hk⟩
    unfold In20 at hi
    rw [if_pos HH1.out] at hi
    exact ⟨hi.1, hk, hi.2⟩
  rintro e w2 ⟨rfl, hk2, hj2, hm2⟩
  have q0 := hk2.get HNP.out.1 (by rintro (h | h); exact HNP.out.2.1 h; exact HNP.out.2.2 h)
  have e0 := cell_of_block (off := 0) q0
  have f0 := free_of_block (off := 0) q0
  have q1 := hk2.get HBP.out.1 (by rintro (h | h); exact HBP.out.2.1 h; exact HBP.out.2.2 h)
  have q2 := hk2.get HKP.out.1 (by rintro (h | h); exact HKP.out.2.1 h; exact HKP.out.2.2 h)
  have q3 := hk2.get HIP.out.1 (by rintro (h | h); exact HIP.out.2.1 h; exact HIP.out.2.2 h)
  have q4 := hk2.get HSP.out.1 (by rintro (h | h); exact HSP.out.2.1 h; exact HSP.out.2.2 h)
  have q5 := hk2.get HTP.out.1 (by rintro (h | h); exact HTP.out.2.1 h; exact HTP.out.2.2 h)
  -- the two stores
  have n1 := heap_setCell_known (off := 0) (u := .bool false) q0
  have s1 := Kept.setCell (S := (· = Nb)) (Kept.refl _ w2) (p := ⟨Nb, 0, none⟩) (.inl rfl) (.bool false)
  have b1 := s1.get q1 (Ne.symm d1)
  have e1 := cell_of_block (off := 0) b1
  have f1 := free_of_block (off := 0) b1
  have n2 := heap_setCell_known (off := 0) (u := .bool true) b1
  have s2 := Kept.setCell (S := (· = Bb)) (Kept.refl _ (w2.setCell ⟨Nb, 0, none⟩ (.bool false))) (p := ⟨Bb, 0, none⟩) (.inl rfl) (.bool true)
  have m1 := s2.get n1 d1
  have k2 := s2.get (s1.get q2 (Ne.symm HT.out)) (Ne.symm HT2.out)
  have i2 := s2.get (s1.get q3 (Ne.symm HT3.out)) (Ne.symm HT4.out)
  have sp2 := s2.get (s1.get q4 (Ne.symm HT5.out)) (Ne.symm HT6.out)
  have tp2 := s2.get (s1.get q5 (Ne.symm d2)) (Ne.symm d3)
  have j2 := (hj2.kept s1 (Ne.symm HNP.out.2.1)).kept s2 (Ne.symm HBP.out.2.1)
  have mm2 := (hm2.kept s1 (Ne.symm HNP.out.2.2)).kept s2 (Ne.symm HBP.out.2.2)
  have e2 := cell_of_block (off := 0) k2
  simp at e0 e1 e2 n1 n2 m1
  have HK2 := Lib.hid (((hk2.mono (S' := S19 Nb Bb Sb Tb bj bm) (fun i _ h => by unfold S19; omega)).trans (s1.mono (fun i _ h => by unfold S19; omega))).trans (s2.mono (fun i _ h => by unfold S19; omega)))
  have HA := Lib.hid (And.intro m1 (And.intro n2 (And.intro i2 (And.intro sp2 (And.intro tp2 (And.intro j2 mm2))))))
  clear hk2 hj2 hm2 q0 q1 q2 q3 q4 q5 n1 n2 m1 b1 s1 s2 k2 i2 sp2 tp2 j2 mm2
  go_wp2_with fail
  generalize ((w2.setCell ⟨Nb, 0, none⟩ (.bool false)).setCell ⟨Bb, 0, none⟩ (.bool true)) = W at *
  refine (try_any false (s := k) (n := k) (g := 22) (cap := #[.pointer (some ⟨Ib, 0, none⟩)]) (S := fun _ => False) (R := fun _ => True) (fun _ _ => by simp [go_sem]) (fun _ _ _ _ => trivial) (fun _ h => h.elim) ?_).mono ?_
  · intro w1 b hk1 hb hmb
    rw [held_id r.2.2.1 r.2.2.2.1] at hmb
    refine (c22 (x := inner) (by omega) (hk1.get HA.out.2.2.1 (by simp)) hmb (by omega) (by omega) (by omega)).mono ?_
    rintro e w3 ⟨ho, hk3, hm3⟩
    have hd : decide (inner ≤ k) = false := by have := HH1.out; simp; omega
    rw [hd] at ho
    rw [if_neg (by have := HH1.out; omega), if_neg (by have := HH1.out; omega)] at hm3
    exact ⟨ho, hk3.mono (fun _ _ h => .inr h), trivial, 0, hm3.cast rfl (by omega)⟩
  rintro e w3 ⟨rfl, hk3, -⟩
  obtain ⟨m1, n2, i2, sp2, tp2, j2, mm2⟩ := HA.out
  have a1 := hk3.get m1 (by simp)
  have a2 := hk3.get n2 (by simp)
  have a4 := hk3.get sp2 (by simp)
  have a5 := hk3.get tp2 (by simp)
  have a6 := j2.kept hk3 (by simp)
  have a7 := mm2.kept hk3 (by simp)
  have s3 := Kept.setCell (S := (· = Sb)) (Kept.refl _ w3) (p := ⟨Sb, 0, none⟩) (.inl rfl) (.int .i64 k)
  have s4 := Kept.setCell (S := (· = Tb)) (Kept.refl _ (w3.setCell ⟨Sb, 0, none⟩ (.int .i64 k))) (p := ⟨Tb, 0, none⟩) (.inl rfl) (.bool false)
  have g4 := cell_of_block (off := 0) a4
  have z4 := free_of_block (off := 0) a4
  have t5 := s3.get a5 HT7.out
  have g5 := cell_of_block (off := 0) t5
  have z5 := free_of_block (off := 0) t5
  have x4 := s4.get (heap_setCell_known (off := 0) (u := .int .i64 k) a4) (Ne.symm HT7.out)
  have x5 := heap_setCell_known (off := 0) (u := .bool false) t5
  simp at g4 g5 x4 x5
  have HE := Lib.hid (show Kept (S19 Nb Bb Sb Tb bj bm) w ((w3.setCell ⟨Sb, 0, none⟩ (.int .i64 k)).setCell ⟨Tb, 0, none⟩ (.bool false)) ∧ MeterAt ((w3.setCell ⟨Sb, 0, none⟩ (.int .i64 k)).setCell ⟨Tb, 0, none⟩ (.bool false)) bj 0 k ∧ MeterAt ((w3.setCell ⟨Sb, 0, none⟩ (.int .i64 k)).setCell ⟨Tb, 0, none⟩ (.bool false)) bm n 0 ∧ _ ∧ _ from
    ⟨((HK2.out.trans (hk3.mono (fun _ _ h => h.elim))).trans (s3.mono (fun i _ h => by unfold S19; omega))).trans (s4.mono (fun i _ h => by unfold S19; omega)), (a6.kept s3 (Ne.symm HSP.out.2.1)).kept s4 (Ne.symm HTP.out.2.1), (a7.kept s3 (Ne.symm HSP.out.2.2)).kept s4 (Ne.symm HTP.out.2.2),
      s4.get (s3.get a1 HT5.out) d2, s4.get (s3.get a2 HT6.out) d3⟩)
  have HX := Lib.hid (And.intro x4 x5)
  clear HA hk3 m1 n2 i2 sp2 tp2 j2 mm2 a1 a2 a4 a5 a6 a7 s3 s4 t5 x4 x5
  go_wp2_with fail
  go_end0
  exact ⟨rfl, HE.out.1, HE.out.2.1, HE.out.2.2.1, HE.out.2.2.2.1, HE.out.2.2.2.2, HX.out.1, HX.out.2⟩

set_option maxHeartbeats 1000000 in
theorem c19_c {w : World} {Jb Ib Mb Ob Nb Bb Kb Sb Tb bj bm : Nat} {n k inner outer : Int} (h : NMem2 w Jb Ib Mb Ob Nb Bb Kb Sb Tb bj bm n k inner outer) (h1 : inner ≤ k) (h2 : outer ≤ n) :
    Calls Try.prog 19 #[.pointer (some ⟨Jb, 0, none⟩), .pointer (some ⟨Ib, 0, none⟩), .pointer (some ⟨Mb, 0, none⟩), .pointer (some ⟨Ob, 0, none⟩), .pointer (some ⟨Nb, 0, none⟩), .pointer (some ⟨Bb, 0, none⟩), .pointer (some ⟨Kb, 0, none⟩), .pointer (some ⟨Sb, 0, none⟩), .pointer (some ⟨Tb, 0, none⟩)] w fun e w' =>
      e = .returned (.tuple #[]) ∧ Kept (S19 Nb Bb Sb Tb bj bm) w w' ∧ MeterAt w' bj (k - inner) inner ∧ MeterAt w' bm (n - outer) outer ∧ w'.heap[Nb]? = some (.cells #[.bool true] 4 (0, 0)) ∧ w'.heap[Bb]? = some (.cells #[.bool true] 4 (0, 0)) ∧ w'.heap[Sb]? = some (.cells #[.int .i64 inner] 3 (0, 0)) ∧ w'.heap[Tb]? = some (.cells #[.bool true] 4 (0, 0)) := by
  have hmf : ∀ (fn : Fn) (first cap : Array Value) (w : World), (Instr.makeFunc fn first cap).run Try.prog w = .ok (.func fn first cap) w := fun _ _ _ _ => rfl
  obtain ⟨hm, np, bp, kp, sp, tp, d1, d2, d3, d4, d5, d6⟩ := h
  have r := hm.r
  have c0 := cell_of_block (off := 0) hm.jp
  simp at c0
  have HM := Lib.hid hm
  have HNP := Lib.hid (And.intro np (And.intro (not_meter hm.mj np) (not_meter hm.mm np)))
  have HBP := Lib.hid (And.intro bp (And.intro (not_meter hm.mj bp) (not_meter hm.mm bp)))
  have HKP := Lib.hid (And.intro kp (And.intro (not_meter hm.mj kp) (not_meter hm.mm kp)))
  have HSP := Lib.hid (And.intro sp (And.intro (not_meter hm.mj sp) (not_meter hm.mm sp)))
  have HTP := Lib.hid (And.intro tp (And.intro (not_meter hm.mj tp) (not_meter hm.mm tp)))
  have HIP := Lib.hid (And.intro hm.ip (And.intro (not_meter hm.mj hm.ip) (not_meter hm.mm hm.ip)))
  have HT := Lib.hid (type_ne np kp)
  have HT2 := Lib.hid (type_ne bp kp)
  have HT3 := Lib.hid (type_ne np hm.ip)
  have HT4 := Lib.hid (type_ne bp hm.ip)
  have HT5 := Lib.hid (type_ne np sp)
  have HT6 := Lib.hid (type_ne bp sp)
  have HT7 := Lib.hid (type_ne tp sp)
  have HH1 := Lib.hid h1
  have HH2 := Lib.hid h2
  clear hm np bp kp sp tp h1 h2
  go_enter Try.func19, Try.ntmps19
  go_wp2_with fail
  refine (run_any true (b := bj) (g := 20) (cap := #[.pointer (some ⟨Jb, 0, none⟩), .pointer (some ⟨Ib, 0, none⟩), .pointer (some ⟨Mb, 0, none⟩), .pointer (some ⟨Ob, 0, none⟩)]) (S := fun i => i = bj ∨ i = bm) (R := fun w' => MeterAt w' bj (k - inner) inner ∧ MeterAt w' bm (n - outer) outer) (fun _ => by simp [go_sem]) ?_ ?_ ?_).mono ?_
  · rintro w2 w3 hk ⟨q1, q2⟩
    have := lt_m HM.out.mj
    have := lt_m HM.out.mm
    exact ⟨q1.kept hk (by omega), q2.kept hk (by omega)⟩
  · rintro i (rfl | rfl)
    · exact lt_m HM.out.mj
    · exact lt_m HM.out.mm
  · intro w1 hk1
    refine (c20 (HM.out.kept hk1)).mono ?_
    rintro e w2 ⟨hi, hk⟩
    unfold In20 at hi
    rw [if_neg (by have := HH1.out; omega), if_neg (by have := HH2.out; omega)] at hi
    exact ⟨hi.1, hk, hi.2⟩
  rintro e w2 ⟨rfl, hk2, hj2, hm2⟩
  have q0 := hk2.get HNP.out.1 (by rintro (h | h); exact HNP.out.2.1 h; exact HNP.out.2.2 h)
  have e0 := cell_of_block (off := 0) q0
  have f0 := free_of_block (off := 0) q0
  have q1 := hk2.get HBP.out.1 (by rintro (h | h); exact HBP.out.2.1 h; exact HBP.out.2.2 h)
  have q2 := hk2.get HKP.out.1 (by rintro (h | h); exact HKP.out.2.1 h; exact HKP.out.2.2 h)
  have q3 := hk2.get HIP.out.1 (by rintro (h | h); exact HIP.out.2.1 h; exact HIP.out.2.2 h)
  have q4 := hk2.get HSP.out.1 (by rintro (h | h); exact HSP.out.2.1 h; exact HSP.out.2.2 h)
  have q5 := hk2.get HTP.out.1 (by rintro (h | h); exact HTP.out.2.1 h; exact HTP.out.2.2 h)
  -- the two stores
  have n1 := heap_setCell_known (off := 0) (u := .bool true) q0
  have s1 := Kept.setCell (S := (· = Nb)) (Kept.refl _ w2) (p := ⟨Nb, 0, none⟩) (.inl rfl) (.bool true)
  have b1 := s1.get q1 (Ne.symm d1)
  have e1 := cell_of_block (off := 0) b1
  have f1 := free_of_block (off := 0) b1
  have n2 := heap_setCell_known (off := 0) (u := .bool true) b1
  have s2 := Kept.setCell (S := (· = Bb)) (Kept.refl _ (w2.setCell ⟨Nb, 0, none⟩ (.bool true))) (p := ⟨Bb, 0, none⟩) (.inl rfl) (.bool true)
  have m1 := s2.get n1 d1
  have k2 := s2.get (s1.get q2 (Ne.symm HT.out)) (Ne.symm HT2.out)
  have i2 := s2.get (s1.get q3 (Ne.symm HT3.out)) (Ne.symm HT4.out)
  have sp2 := s2.get (s1.get q4 (Ne.symm HT5.out)) (Ne.symm HT6.out)
  have tp2 := s2.get (s1.get q5 (Ne.symm d2)) (Ne.symm d3)
  have j2 := (hj2.kept s1 (Ne.symm HNP.out.2.1)).kept s2 (Ne.symm HBP.out.2.1)
  have mm2 := (hm2.kept s1 (Ne.symm HNP.out.2.2)).kept s2 (Ne.symm HBP.out.2.2)
  have e2 := cell_of_block (off := 0) k2
  simp at e0 e1 e2 n1 n2 m1
  have HK2 := Lib.hid (((hk2.mono (S' := S19 Nb Bb Sb Tb bj bm) (fun i _ h => by unfold S19; omega)).trans (s1.mono (fun i _ h => by unfold S19; omega))).trans (s2.mono (fun i _ h => by unfold S19; omega)))
  have HA := Lib.hid (And.intro m1 (And.intro n2 (And.intro i2 (And.intro sp2 (And.intro tp2 (And.intro j2 mm2))))))
  clear hk2 hj2 hm2 q0 q1 q2 q3 q4 q5 n1 n2 m1 b1 s1 s2 k2 i2 sp2 tp2 j2 mm2
  go_wp2_with fail
  generalize ((w2.setCell ⟨Nb, 0, none⟩ (.bool true)).setCell ⟨Bb, 0, none⟩ (.bool true)) = W at *
  refine (try_any true (s := inner) (n := k) (g := 22) (cap := #[.pointer (some ⟨Ib, 0, none⟩)]) (S := fun _ => False) (R := fun _ => True) (fun _ _ => by simp [go_sem]) (fun _ _ _ _ => trivial) (fun _ h => h.elim) ?_).mono ?_
  · intro w1 b hk1 hb hmb
    rw [held_id r.2.2.1 r.2.2.2.1] at hmb
    refine (c22 (x := inner) (by omega) (hk1.get HA.out.2.2.1 (by simp)) hmb (by omega) (by omega) (by omega)).mono ?_
    rintro e w3 ⟨ho, hk3, hm3⟩
    have hd : decide (inner ≤ k) = true := by have := HH1.out; simp; omega
    rw [hd] at ho
    rw [if_pos (by have := HH1.out; omega), if_pos (by have := HH1.out; omega)] at hm3
    exact ⟨ho, hk3.mono (fun _ _ h => .inr h), trivial, _, hm3.cast rfl (by omega)⟩
  rintro e w3 ⟨rfl, hk3, -⟩
  obtain ⟨m1, n2, i2, sp2, tp2, j2, mm2⟩ := HA.out
  have a1 := hk3.get m1 (by simp)
  have a2 := hk3.get n2 (by simp)
  have a4 := hk3.get sp2 (by simp)
  have a5 := hk3.get tp2 (by simp)
  have a6 := j2.kept hk3 (by simp)
  have a7 := mm2.kept hk3 (by simp)
  have s3 := Kept.setCell (S := (· = Sb)) (Kept.refl _ w3) (p := ⟨Sb, 0, none⟩) (.inl rfl) (.int .i64 inner)
  have s4 := Kept.setCell (S := (· = Tb)) (Kept.refl _ (w3.setCell ⟨Sb, 0, none⟩ (.int .i64 inner))) (p := ⟨Tb, 0, none⟩) (.inl rfl) (.bool true)
  have g4 := cell_of_block (off := 0) a4
  have z4 := free_of_block (off := 0) a4
  have t5 := s3.get a5 HT7.out
  have g5 := cell_of_block (off := 0) t5
  have z5 := free_of_block (off := 0) t5
  have x4 := s4.get (heap_setCell_known (off := 0) (u := .int .i64 inner) a4) (Ne.symm HT7.out)
  have x5 := heap_setCell_known (off := 0) (u := .bool true) t5
  simp at g4 g5 x4 x5
  have HE := Lib.hid (show Kept (S19 Nb Bb Sb Tb bj bm) w ((w3.setCell ⟨Sb, 0, none⟩ (.int .i64 inner)).setCell ⟨Tb, 0, none⟩ (.bool true)) ∧ MeterAt ((w3.setCell ⟨Sb, 0, none⟩ (.int .i64 inner)).setCell ⟨Tb, 0, none⟩ (.bool true)) bj (k - inner) inner ∧ MeterAt ((w3.setCell ⟨Sb, 0, none⟩ (.int .i64 inner)).setCell ⟨Tb, 0, none⟩ (.bool true)) bm (n - outer) outer ∧ _ ∧ _ from
    ⟨((HK2.out.trans (hk3.mono (fun _ _ h => h.elim))).trans (s3.mono (fun i _ h => by unfold S19; omega))).trans (s4.mono (fun i _ h => by unfold S19; omega)), (a6.kept s3 (Ne.symm HSP.out.2.1)).kept s4 (Ne.symm HTP.out.2.1), (a7.kept s3 (Ne.symm HSP.out.2.2)).kept s4 (Ne.symm HTP.out.2.2),
      s4.get (s3.get a1 HT5.out) d2, s4.get (s3.get a2 HT6.out) d3⟩)
  have HX := Lib.hid (And.intro x4 x5)
  clear HA hk3 m1 n2 i2 sp2 tp2 j2 mm2 a1 a2 a4 a5 a6 a7 s3 s4 t5 x4 x5
  go_wp2_with fail
  go_end0
  exact ⟨rfl, HE.out.1, HE.out.2.1, HE.out.2.2.1, HE.out.2.2.2.1, HE.out.2.2.2.2, HX.out.1, HX.out.2⟩

set_option maxHeartbeats 1000000 in
theorem c19_b {w : World} {Jb Ib Mb Ob Nb Bb Kb Sb Tb bj bm : Nat} {n k inner outer : Int} (h : NMem2 w Jb Ib Mb Ob Nb Bb Kb Sb Tb bj bm n k inner outer) (h1 : inner ≤ k) (h2 : n < outer) :
    Calls Try.prog 19 #[.pointer (some ⟨Jb, 0, none⟩), .pointer (some ⟨Ib, 0, none⟩), .pointer (some ⟨Mb, 0, none⟩), .pointer (some ⟨Ob, 0, none⟩), .pointer (some ⟨Nb, 0, none⟩), .pointer (some ⟨Bb, 0, none⟩), .pointer (some ⟨Kb, 0, none⟩), .pointer (some ⟨Sb, 0, none⟩), .pointer (some ⟨Tb, 0, none⟩)] w fun e w' =>
      Out false bm e ∧ Kept (S19 Nb Bb Sb Tb bj bm) w w' ∧ MeterAt w' bj (k - inner) inner ∧ MeterAt w' bm 0 n ∧ w'.heap[Nb]? = some (.cells #[.bool false] 4 (0, 0)) ∧ w'.heap[Bb]? = some (.cells #[.bool false] 4 (0, 0)) := by
  have hmf : ∀ (fn : Fn) (first cap : Array Value) (w : World), (Instr.makeFunc fn first cap).run Try.prog w = .ok (.func fn first cap) w := fun _ _ _ _ => rfl
  obtain ⟨hm, np, bp, kp, sp, tp, d1, d2, d3, d4, d5, d6⟩ := h
  have c0 := cell_of_block (off := 0) hm.jp
  simp at c0
  have HM := Lib.hid hm
  have HNP := Lib.hid (And.intro np (And.intro (not_meter hm.mj np) (not_meter hm.mm np)))
  have HBP := Lib.hid (And.intro bp (And.intro (not_meter hm.mj bp) (not_meter hm.mm bp)))
  have HH1 := Lib.hid h1
  have HH2 := Lib.hid h2
  clear hm np bp kp sp tp h1 h2
  go_enter Try.func19, Try.ntmps19
  go_wp2_with fail
  refine (run_other (b := bj) (b' := bm) (g := 20) (cap := #[.pointer (some ⟨Jb, 0, none⟩), .pointer (some ⟨Ib, 0, none⟩), .pointer (some ⟨Mb, 0, none⟩), .pointer (some ⟨Ob, 0, none⟩)]) (S := fun i => i = bj ∨ i = bm) (R := fun w' => MeterAt w' bj (k - inner) inner ∧ MeterAt w' bm 0 n) HM.out.ne (fun _ => by simp [go_sem]) ?_ ?_ ?_ ?_).mono ?_
  · rintro w2 w3 hk ⟨q1, q2⟩
    have := lt_m HM.out.mj
    have := lt_m HM.out.mm
    exact ⟨q1.kept hk (by omega), q2.kept hk (by omega)⟩
  · rintro i (rfl | rfl)
    · exact lt_m HM.out.mj
    · exact lt_m HM.out.mm
  · rintro w2 ⟨q1, q2⟩
    exact ⟨⟨_, q1⟩, _, q2⟩
  · intro w1 hk1
    refine (c20 (HM.out.kept hk1)).mono ?_
    rintro e w2 ⟨hi, hk⟩
    unfold In20 at hi
    rw [if_neg (by have := HH1.out; omega), if_pos HH2.out] at hi
    exact ⟨hi.1, hk, hi.2⟩
  rintro e w2 ⟨⟨older, rfl, ho⟩, hk2, hj2, hm2⟩
  have q0 := hk2.get HNP.out.1 (by rintro (h | h); exact HNP.out.2.1 h; exact HNP.out.2.2 h)
  have q1 := hk2.get HBP.out.1 (by rintro (h | h); exact HBP.out.2.1 h; exact HBP.out.2.2 h)
  have HE := Lib.hid (And.intro ho (And.intro (hk2.mono (S' := S19 Nb Bb Sb Tb bj bm) (fun i _ h => by unfold S19; omega)) (And.intro hj2 (And.intro hm2 (And.intro q0 q1)))))
  clear ho hk2 hj2 hm2 q0 q1
  go_wp2_with fail
  exact ⟨rfl, ⟨older, rfl, HE.out.1⟩, HE.out.2⟩
end Go.Proofs.Ytdekakhkhkidhaa.meterNests
