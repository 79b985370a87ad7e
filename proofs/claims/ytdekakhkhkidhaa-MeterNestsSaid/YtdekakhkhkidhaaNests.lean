/-
  MeterNests answers true, and leaves its arguments as they were, for all numbers. No conditions.
-/
import Derived.Test.YtdekakhkhkidhaaNestsD
import Derived.Deep.QuietTactic
import Derived.BigQuiet
import Derived.Deep.RegionWith
import Derived.Deep.RegionHeld3
import Derived.Deep.DeepCutAuto
import Derived.WalkKit
import Derived.ProofKit
import Derived.OpenShut
import Derived.ShutString
namespace Go.Proofs.Ytdekakhkhkidhaa.meterNests
open Go.ChangeShapes Go.WideShapes Go.ChangeAt Go.RowKit
open Go.ChangeMaps (open_string shut_string)
set_option linter.unusedVariables false      -- a walk need not use every 'w<i>' (that an integer argument fits its kind)

theorem own : ownKnob Try.prog.godebug = none := by kernel_rfl


theorem below_drewN {b : Nat} {a w : World} (h : Below b a w) (n : Nat) : Below b a (w.drewN n) := ⟨h.os, h.tape, h.output, h.size, h.block⟩
def m8 (x : Int) : Int := bits .and .i64 x 255
theorem m8_range (x : Int) : 0 ≤ m8 x ∧ m8 x ≤ 255 := by
  unfold m8
  have h : bits .and .i64 x 255 = IntKind.i64.wrap ((BitVec.ofInt 64 x &&& BitVec.ofInt 64 255).toNat : Int) := rfl
  rw [h, BitVec.toNat_and]
  have hx : (BitVec.ofInt 64 x).toNat &&& (BitVec.ofInt 64 255).toNat ≤ 255 := Nat.and_le_right
  rw [IntKind.wrap_i64]
  omega
set_option maxRecDepth 100000 in
set_option maxHeartbeats 1000000 in
theorem walk (a0 a1 a2 a3 : Int) (w : World) :
    Calls Try.prog 5 #[.int .i64 a0, .int .i64 a1, .int .i64 a2, .int .i64 a3] w fun e w' => e = .returned (.bool true) ∧ Below w.heap.size w w' := by
  have hmf : ∀ (fn : Fn) (first cap : Array Value) (w : World), (Instr.makeFunc fn first cap).run Try.prog w = .ok (.func fn first cap) w := fun _ _ _ _ => rfl
  go_enter Try.func5, Try.ntmps5
  go_wp2_with fail
  obtain ⟨f0, f1, f2⟩ := heap_three w (.cells #[.int .i64 a1] 3) (.cells #[.int .i64 a2] 3) (.cells #[.int .i64 a3] 3)
  refine (alive_any _).mono ?_
  rintro e w2 ⟨rfl, hb⟩
  have hsz2 := hb.size
  simp at hsz2
  have hk2 : Kept (fun _ => False) w w2 := ((((Kept.refl _ _).alloc _).alloc _).alloc _).trans (kept_of_below hb _)
  have k0 := (hb.block w.heap.size (by simp only [World.size_alloc]; omega)).trans f0
  have k1 := (hb.block (w.heap.size + 1) (by simp only [World.size_alloc]; omega)).trans f1
  have k2 := (hb.block (w.heap.size + 2) (by simp only [World.size_alloc]; omega)).trans f2
  have c0 := cell_of_block (off := 0) k0
  have c1 := cell_of_block (off := 0) k1
  have c2 := cell_of_block (off := 0) k2
  have z0 := free_of_block (off := 0) k0
  have z1 := free_of_block (off := 0) k1
  have z2 := free_of_block (off := 0) k2
  simp at c0 c1 c2
  have HK := Lib.hid (And.intro hk2 (And.intro k0 (And.intro k1 k2)))
  clear f0 f1 f2 hb hk2 k0 k1 k2
  go_wp2_with fail
  go_region
  go_upto_region 4 with fail
  obtain ⟨hk2, k0, k1, k2⟩ := HK.out
  have e0 := heap_setCell_known (off := 0) (u := .int .i64 (m8 a1)) k0
  have e1 := heap_setCell_known (off := 0) (u := .int .i64 (m8 a2)) k1
  have e2 := heap_setCell_known (off := 0) (u := .int .i64 (m8 a3)) k2
  simp at e0 e1 e2
  have q1 := (Kept.refl (fun k => k = w.heap.size) w2).setCell (p := ⟨w.heap.size, 0, none⟩) (.inl rfl) (.int .i64 (m8 a1))
  have q2 := (Kept.refl (fun k => k = w.heap.size + 1) (w2.setCell ⟨w.heap.size, 0, none⟩ (.int .i64 (m8 a1)))).setCell (p := ⟨w.heap.size + 1, 0, none⟩) (.inl rfl) (.int .i64 (m8 a2))
  have q3 := (Kept.refl (fun k => k = w.heap.size + 2) ((w2.setCell ⟨w.heap.size, 0, none⟩ (.int .i64 (m8 a1))).setCell ⟨w.heap.size + 1, 0, none⟩ (.int .i64 (m8 a2)))).setCell (p := ⟨w.heap.size + 2, 0, none⟩) (.inl rfl) (.int .i64 (m8 a3))
  have hW : ∃ W : World, W = (((w2.setCell ⟨w.heap.size, 0, none⟩ (.int .i64 (m8 a1))).setCell ⟨w.heap.size + 1, 0, none⟩ (.int .i64 (m8 a2))).setCell ⟨w.heap.size + 2, 0, none⟩ (.int .i64 (m8 a3))).drew ∧
      Kept (fun _ => False) w W ∧ W.heap[w.heap.size]? = some (.cells #[.int .i64 (m8 a1)] 3 (0, 0)) ∧ W.heap[w.heap.size + 1]? = some (.cells #[.int .i64 (m8 a2)] 3 (0, 0)) ∧
      W.heap[w.heap.size + 2]? = some (.cells #[.int .i64 (m8 a3)] 3 (0, 0)) ∧ w.heap.size + 3 ≤ W.heap.size := by
    refine ⟨_, rfl, ?_, ?_, ?_, ?_, ?_⟩
    · exact (((hk2.then (S'' := fun _ => False) q1 (fun _ _ h => h) (fun i hi h => by omega)).then (S'' := fun _ => False) q2 (fun _ _ h => h) (fun i hi h => by omega)).then (S'' := fun _ => False) q3 (fun _ _ h => h) (fun i hi h => by omega)).drew
    · exact q3.get (q2.get e0 (by omega)) (by omega)
    · have := heap_setCell_known (off := 0) (u := .int .i64 (m8 a2)) (q1.get k1 (by omega))
      exact q3.get (by simpa using this) (by omega)
    · have := heap_setCell_known (off := 0) (u := .int .i64 (m8 a3)) (q2.get (q1.get k2 (by omega)) (by omega))
      simp at this
      exact this
    · have := q1.size; have := q2.size; have := q3.size; simp only [World.drew] at *; omega
  clear e0 e1 e2 q1 q2 q3 hk2 k0 k1 k2 c0 c1 c2 z0 z1 z2 HK
  have hm0 : m8 a0 = bits .and .i64 a0 255 := rfl
  have hm1 : m8 a1 = bits .and .i64 a1 255 := rfl
  have hm2 : m8 a2 = bits .and .i64 a2 255 := rfl
  have hm3 : m8 a3 = bits .and .i64 a3 255 := rfl
  rw [hm1, hm2, hm3] at hW
  obtain ⟨W, hWe, hKW, k0, k1, k2, hsW⟩ := hW
  rw [show w.heap.size + 1 + 1 = w.heap.size + 2 from rfl]
  rw [← hWe]
  clear hWe
  clear hm0 hm1 hm2 hm3
  have r0 := m8_range a0
  have r1 := m8_range a1
  have r2 := m8_range a2
  have r3 := m8_range a3
  unfold m8 at r0 r1 r2 r3
  generalize bits .and .i64 a0 255 = n at *
  generalize bits .and .i64 a1 255 = k at *
  generalize bits .and .i64 a2 255 = inner at *
  generalize bits .and .i64 a3 255 = outer at *
  have HR := Lib.hid (And.intro r0 (And.intro r1 (And.intro r2 r3)))
  clear r0 r1 r2 r3
  have c0 := cell_of_block (off := 0) k0
  simp at c0
  have hbW : (⟨w.heap.size, 0, none⟩ : Addr).block < W.heap.size := by simp only; omega
  have l0 : w.heap.size < W.heap.size := by omega
  have HK := Lib.hid (And.intro hKW (And.intro k0 (And.intro k1 k2)))
  clear hKW hbW k0 k1 k2
  refine region4 (n := n) (k := k) (B := w.heap.size) c0 l0 ?_
  intro x y t26 t27 t28 t29 wx hmet
  obtain ⟨bm, bj, Mb, Jb, rfl, rfl, hM⟩ := hmet
  clear c0
  have HM := Lib.hid hM
  have hMb := lt_of_block hM.mp
  have c9 := cell_of_block (off := 0) hM.mp
  simp at c9
  have hsx := hM.kept.size
  clear hM
  have c9a := fun o1 o2 o3 o4 => cell_alloc_keep (w := ((wx.alloc o1).alloc o2).alloc o3) (o := o4) (p := ⟨Mb, 0, none⟩) (by simp only [World.size_alloc]; omega) (cell_alloc_keep (w := (wx.alloc o1).alloc o2) (by simp only [World.size_alloc]; omega) (cell_alloc_keep (w := wx.alloc o1) (by simp only [World.size_alloc]; omega) (cell_alloc_keep (by simpa using hMb) c9)))
  clear c9
  go_wp2_with fail
  have hf := fun i x h => heap_four wx (.cells #[.bool false] 4) (.cells #[.bool false] 4) (.cells #[.bool false] 4) (.cells #[.int .i64 0] 3) i x h
  have hkx : Kept (fun _ => False) W ((((wx.alloc (.cells #[.bool false] 4)).alloc (.cells #[.bool false] 4)).alloc (.cells #[.bool false] 4)).alloc (.cells #[.int .i64 0] 3)) := ((((HM.out.kept).alloc _).alloc _).alloc _).alloc _
  have hkm : Kept (fun _ => False) wx ((((wx.alloc (.cells #[.bool false] 4)).alloc (.cells #[.bool false] 4)).alloc (.cells #[.bool false] 4)).alloc (.cells #[.int .i64 0] 3)) := ((((Kept.refl _ _).alloc _).alloc _).alloc _).alloc _
  have hs5 : ((((wx.alloc (.cells #[.bool false] 4)).alloc (.cells #[.bool false] 4)).alloc (.cells #[.bool false] 4)).alloc (.cells #[.int .i64 0] 3)).heap.size = wx.heap.size + 4 := by simp
  obtain ⟨hKW, k0, k1, k2⟩ := HK.out
  obtain ⟨_, m1, m2, m3, m4, ⟨m5, m6⟩, m7, m8, m9, m10⟩ := HM.out
  have hbj := lt_m m2
  have hbm := lt_m m1
  have hJb := lt_of_block m4
  have h5 : NMem2 ((((wx.alloc (.cells #[.bool false] 4)).alloc (.cells #[.bool false] 4)).alloc (.cells #[.bool false] 4)).alloc (.cells #[.int .i64 0] 3)) Jb (w.heap.size + 1) Mb (w.heap.size + 2) wx.heap.size (wx.heap.size + 1) w.heap.size (wx.heap.size + 3) (wx.heap.size + 2) bj bm n k inner outer := by
    obtain ⟨⟨r0, r1⟩, ⟨r2, r3⟩, ⟨r4, r5⟩, r6, r7⟩ := HR.out
    refine ⟨⟨hkm.get m4 id, hkx.get k1 id, hkm.get m3 id, hkx.get k2 id, ?_, ?_, m5, r0, r1, r2, r3, r4, r5, r6, r7⟩, hf 0 _ rfl, hf 1 _ rfl, hkx.get k0 id, hf 3 _ rfl, hf 2 _ rfl, by omega⟩
    · have := m2.kept hkm id
      rw [held_id r2 r3] at this
      exact this
    · have := m1.kept hkm id
      rw [held_id r0 r1] at this
      exact this
  have hb5 : Below w.heap.size w ((((wx.alloc (.cells #[.bool false] 4)).alloc (.cells #[.bool false] 4)).alloc (.cells #[.bool false] 4)).alloc (.cells #[.int .i64 0] 3)) := (hKW.trans hkx).below (Nat.le_refl _) (fun _ _ h => h)
  have H5 := Lib.hid h5
  have HB5 := Lib.hid hb5
  clear hf hkx hkm h5 hb5 hKW k0 k1 k2 m1 m2 m3 m4 m5 m6
  generalize ((((wx.alloc (.cells #[.bool false] 4)).alloc (.cells #[.bool false] 4)).alloc (.cells #[.bool false] 4)).alloc (.cells #[.int .i64 0] 3)) = W5 at *
  rcases (by omega : k < inner ∨ (inner ≤ k ∧ n < outer) ∨ (inner ≤ k ∧ outer ≤ n)) with hc | hc | hc
  all_goals have HC := Lib.hid hc
  · refine (run_any true (b := bm) (g := 19) (cap := #[.pointer (some ⟨Jb, 0, none⟩), .pointer (some ⟨w.heap.size + 1, 0, none⟩), .pointer (some ⟨Mb, 0, none⟩), .pointer (some ⟨w.heap.size + 2, 0, none⟩), .pointer (some ⟨wx.heap.size, 0, none⟩), .pointer (some ⟨wx.heap.size + 1, 0, none⟩), .pointer (some ⟨w.heap.size, 0, none⟩), .pointer (some ⟨wx.heap.size + 3, 0, none⟩), .pointer (some ⟨wx.heap.size + 2, 0, none⟩)]) (S := S19 wx.heap.size (wx.heap.size + 1) (wx.heap.size + 3) (wx.heap.size + 2) bj bm)
        (R := fun w' => MeterAt w' bj 0 k ∧ MeterAt w' bm n 0 ∧ w'.heap[wx.heap.size]? = some (.cells #[.bool false] 4 (0, 0)) ∧ w'.heap[wx.heap.size + 1]? = some (.cells #[.bool true] 4 (0, 0)) ∧ w'.heap[wx.heap.size + 3]? = some (.cells #[.int .i64 k] 3 (0, 0)) ∧ w'.heap[wx.heap.size + 2]? = some (.cells #[.bool false] 4 (0, 0))) (fun _ => by simp [go_sem]) ?_ ?_ ?_).mono ?_
    · rintro w3 w4 hk ⟨g0, g1, g2, g3, g4, g5⟩
      exact ⟨g0.kept hk (by omega), g1.kept hk (by omega), hk.get g2 (by omega), hk.get g3 (by omega), hk.get g4 (by omega), hk.get g5 (by omega)⟩
    · rintro i hi
      unfold S19 at hi
      omega
    · intro w3 hk1
      exact (c19_a (H5.out.kept hk1) HC.out trivial).mono fun e w4 h => ⟨h.1, h.2.1, h.2.2⟩
    rintro e w6 ⟨rfl, hk6, g0, g1, g2, g3, g4, g5⟩
    have e2 := cell_of_block (off := 0) g2
    have e3 := cell_of_block (off := 0) g3
    have e4 := cell_of_block (off := 0) g4
    have e5 := cell_of_block (off := 0) g5
    have p0 := cell_of_block (off := 0) (hk6.get H5.out.m.mp (by unfold S19; have := H5.out.m.ne; have := not_meter H5.out.m.mm H5.out.m.mp; have := not_meter H5.out.m.mj H5.out.m.mp; omega))
    have p1 := cell_of_block (off := 0) (hk6.get H5.out.m.jp (by unfold S19; have := not_meter H5.out.m.mm H5.out.m.jp; have := not_meter H5.out.m.mj H5.out.m.jp; omega))
    have p2 := cell_of_block (off := 0) (hk6.get H5.out.m.ip (by unfold S19; have := not_meter H5.out.m.mm H5.out.m.ip; have := not_meter H5.out.m.mj H5.out.m.ip; omega))
    have p3 := cell_of_block (off := 0) (hk6.get H5.out.m.op (by unfold S19; have := not_meter H5.out.m.mm H5.out.m.op; have := not_meter H5.out.m.mj H5.out.m.op; omega))
    have p4 := cell_of_block (off := 0) (hk6.get H5.out.kp (by unfold S19; have := not_meter H5.out.m.mm H5.out.kp; have := not_meter H5.out.m.mj H5.out.kp; omega))
    simp at e2 e3 e4 e5 p0 p1 p2 p3 p4
    have HG := Lib.hid (And.intro g0 g1)
    have HL0 := fun W (h : W.heap = w6.heap) => Lib.hid (show Calls Try.prog 9 #[.pointer (some ⟨bj, 0, none⟩)] W (fun e w' => e = .returned (.int .i64 _) ∧ w' = W) from (left_any (show MeterAt W bj _ _ by unfold MeterAt; rw [h]; exact g0)).mono fun e w' h => ⟨h.1, h.2.symm⟩)
    have HL1 := fun W (h : W.heap = w6.heap) => Lib.hid (show Calls Try.prog 9 #[.pointer (some ⟨bm, 0, none⟩)] W (fun e w' => e = .returned (.int .i64 _) ∧ w' = W) from (left_any (show MeterAt W bm _ _ by unfold MeterAt; rw [h]; exact g1)).mono fun e w' h => ⟨h.1, h.2.symm⟩)
    have HEND := Lib.hid (HB5.out.trans (hk6.below HB5.out.size (fun i hi h => by unfold S19 at h; omega)))
    clear hk6 g0 g1 g2 g3 g4 g5 c9a
    have hd := HC.out
    have e4' : w6.cell? ⟨wx.heap.size + 1 + 1 + 1, 0, none⟩ = some (.int .i64 k) := e4
    have e5' : w6.cell? ⟨wx.heap.size + 1 + 1, 0, none⟩ = some (.bool false) := e5
    clear e4 e5
    go_wp2_with (first | (go_at_call 9; (with_reducible refine (HL1 _ rfl).out.mono ?_); rintro e w7 ⟨rfl, rfl⟩) | (go_at_call 9; (with_reducible refine (HL0 _ rfl).out.mono ?_); rintro e w7 ⟨rfl, rfl⟩))
    go_ret
    exact ⟨rfl, HEND.out⟩
  · refine (run_any false (b := bm) (g := 19) (cap := #[.pointer (some ⟨Jb, 0, none⟩), .pointer (some ⟨w.heap.size + 1, 0, none⟩), .pointer (some ⟨Mb, 0, none⟩), .pointer (some ⟨w.heap.size + 2, 0, none⟩), .pointer (some ⟨wx.heap.size, 0, none⟩), .pointer (some ⟨wx.heap.size + 1, 0, none⟩), .pointer (some ⟨w.heap.size, 0, none⟩), .pointer (some ⟨wx.heap.size + 3, 0, none⟩), .pointer (some ⟨wx.heap.size + 2, 0, none⟩)]) (S := S19 wx.heap.size (wx.heap.size + 1) (wx.heap.size + 3) (wx.heap.size + 2) bj bm)
        (R := fun w' => MeterAt w' bj (k - inner) inner ∧ MeterAt w' bm 0 n ∧ w'.heap[wx.heap.size]? = some (.cells #[.bool false] 4 (0, 0)) ∧ w'.heap[wx.heap.size + 1]? = some (.cells #[.bool false] 4 (0, 0))) (fun _ => by simp [go_sem]) ?_ ?_ ?_).mono ?_
    · rintro w3 w4 hk ⟨g0, g1, g2, g3⟩
      exact ⟨g0.kept hk (by omega), g1.kept hk (by omega), hk.get g2 (by omega), hk.get g3 (by omega)⟩
    · rintro i hi
      unfold S19 at hi
      omega
    · intro w3 hk1
      exact (c19_b (H5.out.kept hk1) HC.out.1 HC.out.2).mono fun e w4 h => ⟨h.1, h.2.1, h.2.2⟩
    rintro e w6 ⟨rfl, hk6, g0, g1, g2, g3⟩
    have e2 := cell_of_block (off := 0) g2
    have e3 := cell_of_block (off := 0) g3
    have p0 := cell_of_block (off := 0) (hk6.get H5.out.m.mp (by unfold S19; have := H5.out.m.ne; have := not_meter H5.out.m.mm H5.out.m.mp; have := not_meter H5.out.m.mj H5.out.m.mp; omega))
    have p1 := cell_of_block (off := 0) (hk6.get H5.out.m.jp (by unfold S19; have := not_meter H5.out.m.mm H5.out.m.jp; have := not_meter H5.out.m.mj H5.out.m.jp; omega))
    have p2 := cell_of_block (off := 0) (hk6.get H5.out.m.ip (by unfold S19; have := not_meter H5.out.m.mm H5.out.m.ip; have := not_meter H5.out.m.mj H5.out.m.ip; omega))
    have p3 := cell_of_block (off := 0) (hk6.get H5.out.m.op (by unfold S19; have := not_meter H5.out.m.mm H5.out.m.op; have := not_meter H5.out.m.mj H5.out.m.op; omega))
    have p4 := cell_of_block (off := 0) (hk6.get H5.out.kp (by unfold S19; have := not_meter H5.out.m.mm H5.out.kp; have := not_meter H5.out.m.mj H5.out.kp; omega))
    simp at e2 e3 p0 p1 p2 p3 p4
    have HG := Lib.hid (And.intro g0 g1)
    have HL0 := fun W (h : W.heap = w6.heap) => Lib.hid (show Calls Try.prog 9 #[.pointer (some ⟨bj, 0, none⟩)] W (fun e w' => e = .returned (.int .i64 _) ∧ w' = W) from (left_any (show MeterAt W bj _ _ by unfold MeterAt; rw [h]; exact g0)).mono fun e w' h => ⟨h.1, h.2.symm⟩)
    have HL1 := fun W (h : W.heap = w6.heap) => Lib.hid (show Calls Try.prog 9 #[.pointer (some ⟨bm, 0, none⟩)] W (fun e w' => e = .returned (.int .i64 _) ∧ w' = W) from (left_any (show MeterAt W bm _ _ by unfold MeterAt; rw [h]; exact g1)).mono fun e w' h => ⟨h.1, h.2.symm⟩)
    have HEND := Lib.hid (HB5.out.trans (hk6.below HB5.out.size (fun i hi h => by unfold S19 at h; omega)))
    clear hk6 g0 g1 g2 g3 c9a
    have hd1 : ¬ k < inner := by have := HC.out.1; omega
    have hd2 := HC.out.2
    have hkr : 0 ≤ k ∧ k ≤ 255 := HR.out.2.1
    have hir : 0 ≤ inner ∧ inner ≤ 255 := HR.out.2.2.1
    go_wp2_with fail
    go_quiet (first | (go_at_call 9; exact Calls.quiet_of_same (HL1 (w6.drewN _) rfl).out) | (go_at_call 9; exact Calls.quiet_of_same (HL0 (w6.drewN _) rfl).out))
    go_wp2_with fail
    go_ret
    exact ⟨rfl, below_drewN HEND.out _⟩
  · refine (run_any true (b := bm) (g := 19) (cap := #[.pointer (some ⟨Jb, 0, none⟩), .pointer (some ⟨w.heap.size + 1, 0, none⟩), .pointer (some ⟨Mb, 0, none⟩), .pointer (some ⟨w.heap.size + 2, 0, none⟩), .pointer (some ⟨wx.heap.size, 0, none⟩), .pointer (some ⟨wx.heap.size + 1, 0, none⟩), .pointer (some ⟨w.heap.size, 0, none⟩), .pointer (some ⟨wx.heap.size + 3, 0, none⟩), .pointer (some ⟨wx.heap.size + 2, 0, none⟩)]) (S := S19 wx.heap.size (wx.heap.size + 1) (wx.heap.size + 3) (wx.heap.size + 2) bj bm)
        (R := fun w' => MeterAt w' bj (k - inner) inner ∧ MeterAt w' bm (n - outer) outer ∧ w'.heap[wx.heap.size]? = some (.cells #[.bool true] 4 (0, 0)) ∧ w'.heap[wx.heap.size + 1]? = some (.cells #[.bool true] 4 (0, 0)) ∧ w'.heap[wx.heap.size + 3]? = some (.cells #[.int .i64 inner] 3 (0, 0)) ∧ w'.heap[wx.heap.size + 2]? = some (.cells #[.bool true] 4 (0, 0))) (fun _ => by simp [go_sem]) ?_ ?_ ?_).mono ?_
    · rintro w3 w4 hk ⟨g0, g1, g2, g3, g4, g5⟩
      exact ⟨g0.kept hk (by omega), g1.kept hk (by omega), hk.get g2 (by omega), hk.get g3 (by omega), hk.get g4 (by omega), hk.get g5 (by omega)⟩
    · rintro i hi
      unfold S19 at hi
      omega
    · intro w3 hk1
      exact (c19_c (H5.out.kept hk1) HC.out.1 HC.out.2).mono fun e w4 h => ⟨h.1, h.2.1, h.2.2⟩
    rintro e w6 ⟨rfl, hk6, g0, g1, g2, g3, g4, g5⟩
    have e2 := cell_of_block (off := 0) g2
    have e3 := cell_of_block (off := 0) g3
    have e4 := cell_of_block (off := 0) g4
    have e5 := cell_of_block (off := 0) g5
    have p0 := cell_of_block (off := 0) (hk6.get H5.out.m.mp (by unfold S19; have := H5.out.m.ne; have := not_meter H5.out.m.mm H5.out.m.mp; have := not_meter H5.out.m.mj H5.out.m.mp; omega))
    have p1 := cell_of_block (off := 0) (hk6.get H5.out.m.jp (by unfold S19; have := not_meter H5.out.m.mm H5.out.m.jp; have := not_meter H5.out.m.mj H5.out.m.jp; omega))
    have p2 := cell_of_block (off := 0) (hk6.get H5.out.m.ip (by unfold S19; have := not_meter H5.out.m.mm H5.out.m.ip; have := not_meter H5.out.m.mj H5.out.m.ip; omega))
    have p3 := cell_of_block (off := 0) (hk6.get H5.out.m.op (by unfold S19; have := not_meter H5.out.m.mm H5.out.m.op; have := not_meter H5.out.m.mj H5.out.m.op; omega))
    have p4 := cell_of_block (off := 0) (hk6.get H5.out.kp (by unfold S19; have := not_meter H5.out.m.mm H5.out.kp; have := not_meter H5.out.m.mj H5.out.kp; omega))
    simp at e2 e3 e4 e5 p0 p1 p2 p3 p4
    have HG := Lib.hid (And.intro g0 g1)
    have HL0 := fun W (h : W.heap = w6.heap) => Lib.hid (show Calls Try.prog 9 #[.pointer (some ⟨bj, 0, none⟩)] W (fun e w' => e = .returned (.int .i64 _) ∧ w' = W) from (left_any (show MeterAt W bj _ _ by unfold MeterAt; rw [h]; exact g0)).mono fun e w' h => ⟨h.1, h.2.symm⟩)
    have HL1 := fun W (h : W.heap = w6.heap) => Lib.hid (show Calls Try.prog 9 #[.pointer (some ⟨bm, 0, none⟩)] W (fun e w' => e = .returned (.int .i64 _) ∧ w' = W) from (left_any (show MeterAt W bm _ _ by unfold MeterAt; rw [h]; exact g1)).mono fun e w' h => ⟨h.1, h.2.symm⟩)
    have HEND := Lib.hid (HB5.out.trans (hk6.below HB5.out.size (fun i hi h => by unfold S19 at h; omega)))
    clear hk6 g0 g1 g2 g3 g4 g5 c9a
    have hd1 : ¬ k < inner := by have := HC.out.1; omega
    have hd2 : ¬ n < outer := by have := HC.out.2; omega
    have hkr : 0 ≤ k ∧ k ≤ 255 := HR.out.2.1
    have hir : 0 ≤ inner ∧ inner ≤ 255 := HR.out.2.2.1
    have hnr : 0 ≤ n ∧ n ≤ 255 := HR.out.1
    have hor : 0 ≤ outer ∧ outer ≤ 255 := HR.out.2.2.2
    have e4' : w6.cell? ⟨wx.heap.size + 1 + 1 + 1, 0, none⟩ = some (.int .i64 inner) := e4
    have e5' : w6.cell? ⟨wx.heap.size + 1 + 1, 0, none⟩ = some (.bool true) := e5
    clear e4 e5
    go_wp2_with fail
    go_quiet (first | (go_at_call 9; exact Calls.quiet_of_same (HL1 (w6.drewN _) rfl).out) | (go_at_call 9; exact Calls.quiet_of_same (HL0 (w6.drewN _) rfl).out))
    go_wp2_with fail
    go_ret
    exact ⟨rfl, below_drewN HEND.out _⟩

set_option maxRecDepth 100000 in
theorem lifted (os : Os) (started : os.Started) (H : Type) (enc : TypeId × Value → H) :
    ReturnsInHanded {} Try.checked os 5 .any (Rows.meterNestsSpec.pre6 enc Try.prog Try.f5 Rows.meterNestsRow.domain false) (Rows.meterNestsSpec.post enc Try.prog Try.f5 false true false false) := by
  refine returnsInHanded_of_change (C := Try.checked) own started (by kernel_rfl) Try.func5
    (ChangeSpec.witness6 (enc := enc) (C := Try.checked) false ⟨#[], #[.int .i64 0, .int .i64 0, .int .i64 0, .int .i64 0], []⟩ 8 (by kernel_rfl) (by kernel_rfl) (by kernel_rfl) (by kernel_rfl)) ?_
  intro W base args ds gs before hval0 hW hcnd _
  have hval : ∀ (j : Nat) t v, Try.f5.params[j]? = some t → args[j]? = some v → Value.okWide Try.prog W .any base t v := hval0
  have hW' := hW
  obtain ⟨p, q, hA0, hV, rfl, hfz, hnd⟩ := hW
  have hA : DataW.TrodAll enc Try.prog W 0 (fun _ => true) true Try.f5.params.toList args.toList ds p := hA0
  rw [Try.params5] at hA hval
  obtain ⟨v0, vs0, d0, ds0, p0, q0, hargs, rfl, rfl, h0, r0⟩ := trodAll_cons hA
  obtain ⟨v1, vs1, d1, ds1, p1, q1, rfl, rfl, rfl, h1, r1⟩ := trodAll_cons r0
  obtain ⟨v2, vs2, d2, ds2, p2, q2, rfl, rfl, rfl, h2, r2⟩ := trodAll_cons r1
  obtain ⟨v3, vs3, d3, ds3, p3, q3, rfl, rfl, rfl, h3, r3⟩ := trodAll_cons r2
  obtain ⟨rfl, rfl, rfl⟩ := trodAll_nil r3
  obtain rfl : args = #[v0, v1, v2, v3] := by cases args; simp_all
  obtain ⟨rfl, rfl⟩ := trodVars_none hV
  obtain ⟨a0, rfl, rfl, rfl, w0⟩ := open_int Try.underlying3 (hval 0 3 v0 rfl rfl) h0
  obtain ⟨a1, rfl, rfl, rfl, w1⟩ := open_int Try.underlying3 (hval 1 3 v1 rfl rfl) h1
  obtain ⟨a2, rfl, rfl, rfl, w2⟩ := open_int Try.underlying3 (hval 2 3 v2 rfl rfl) h2
  obtain ⟨a3, rfl, rfl, rfl, w3⟩ := open_int Try.underlying3 (hval 3 3 v3 rfl rfl) h3
  clear hA0 hval0
  simp only [List.append_nil] at hW'
  refine (walk a0 a1 a2 a3 W).mono fun e W' ⟨he, bel⟩ => ?_
  subst he
  exact ⟨_, rfl, _, _, _, [], [], [], hW', trodAll_mk1 (shut_bool Try.underlying4 _), (trodAll_cons_mk (shut_int Try.underlying3 w0) (trodAll_cons_mk (shut_int Try.underlying3 w1) (trodAll_cons_mk (shut_int Try.underlying3 w2) (trodAll_cons_mk (shut_int Try.underlying3 w3) trodAll_mk0)))), rfl, bel.frame _, fun h => by cases h⟩

theorem over : Rows.meterNestsRow.holds Try.pinned (OpenSpec.ofChange Rows.meterNestsSpec) :=
  OpenClaim.holds_of_wide 5 Try.f5 rfl rfl rfl rfl rfl rfl rfl ⟨rfl, rfl, rfl, rfl, rfl⟩ rfl rfl rfl rfl rfl (by kernel_rfl) Try.func5 (by kernel_rfl)
    (of_decide_eq_true (by kernel_rfl)) (by unfold Func.isWrapper; first | (rw [if_pos (by decide +kernel)]; kernel_rfl) | (rw [if_neg (by decide +kernel)]; exact ⟨rfl, rfl⟩))
    (fun os started H enc _ => lifted os started H enc)

theorem proved : Rows.MeterNestsSaid :=
  over
#print axioms proved
end Go.Proofs.Ytdekakhkhkidhaa.meterNests
