/- Two new meters: the region in which they come about, over a frame of letters. -/
import Derived.Test.YtdekakhkhkidhaaAgain1
import Derived.Deep.QuietTactic
import Derived.BigQuiet
import Derived.Deep.RegionWith
import Derived.Deep.RegionHeld3
import Derived.Deep.DeepCutAuto
namespace Go.Proofs.Ytdekakhkhkidhaa.meterNests
open Go.RowKit
/-- Two new meters, each behind a variable. -/
structure Meters (W wx : World) (bm bj Mb Jb : Nat) (n k : Int) : Prop where
  kept : Kept (fun _ => False) W wx
  m : MeterAt wx bm (held n) 0
  j : MeterAt wx bj (held k) 0
  mp : wx.heap[Mb]? = some (.cells #[.pointer (some ⟨bm, 0, none⟩)] 24 (0, 0))
  jp : wx.heap[Jb]? = some (.cells #[.pointer (some ⟨bj, 0, none⟩)] 24 (0, 0))
  ne : bm ≠ bj ∧ Mb ≠ Jb
  new : W.heap.size ≤ bm ∧ W.heap.size ≤ bj ∧ W.heap.size ≤ Mb ∧ W.heap.size ≤ Jb
theorem heap_four (w : World) (a b c d : Obj) (i : Nat) (x : Obj) (h : [a, b, c, d][i]? = some x) : ((((w.alloc a).alloc b).alloc c).alloc d).heap[w.heap.size + i]? = some x := by
  obtain ⟨h0, h1, h2⟩ := heap_three w a b c
  match i, h with
  | 0, h => simp at h; subst h; exact heap_alloc_keep h0
  | 1, h => simp at h; subst h; exact heap_alloc_keep h1
  | 2, h => simp at h; subst h; exact heap_alloc_keep h2
  | 3, h => simp at h; subst h; have := heap_alloc_this (((w.alloc a).alloc b).alloc c) d; simpa using this
  | i + 4, h => simp at h
theorem meters_of {W : World} {a b c d : Obj} {n k : Int} (im ij iM iJ : Nat) (h1 : [a, b, c, d][im]? = some (.cells #[.int .i64 (held n), .int .i64 0] 39))
    (h2 : [a, b, c, d][ij]? = some (.cells #[.int .i64 (held k), .int .i64 0] 39)) (h3 : [a, b, c, d][iM]? = some (.cells #[.pointer (some ⟨W.heap.size + im, 0, none⟩)] 24))
    (h4 : [a, b, c, d][iJ]? = some (.cells #[.pointer (some ⟨W.heap.size + ij, 0, none⟩)] 24)) (h5 : im ≠ ij ∧ iM ≠ iJ) :
    Meters W ((((W.alloc a).alloc b).alloc c).alloc d).drew (W.heap.size + im) (W.heap.size + ij) (W.heap.size + iM) (W.heap.size + iJ) n k :=
  ⟨(((((Kept.refl _ _).alloc _).alloc _).alloc _).alloc _).drew, heap_four _ _ _ _ _ _ _ h1, heap_four _ _ _ _ _ _ _ h2, heap_four _ _ _ _ _ _ _ h3, heap_four _ _ _ _ _ _ _ h4, by omega, by omega⟩
def MetersAt (W : World) (n k : Int) (x y : Value) (wx : World) : Prop := ∃ bm bj Mb Jb : Nat, x = .pointer (some ⟨Mb, 0, none⟩) ∧ y = .pointer (some ⟨Jb, 0, none⟩) ∧ Meters W wx bm bj Mb Jb n k
theorem meters_close {p : Prop} (h : p) : p := h
theorem cell_drew {w : World} {p : Addr} {x : Option Value} (h : w.cell? p = x) : w.drew.cell? p = x := h

/-- The region of a number, in a piece of code. -/
def findReg (n : Nat) : Code → Option Code
  | .region id ops b => if id = n then some (.region id ops b) else none
  | .seq a b => match findReg n a with | some c => some c | none => findReg n b
  | .cond _ a b => match findReg n a with | some c => some c | none => findReg n b
  | .block _ c => findReg n c
  | .loop c => findReg n c
  | .scope c => findReg n c
  | _ => none
set_option maxRecDepth 1000000 in
set_option maxHeartbeats 4000000 in
theorem region4 {n k : Int} {B : Nat} {W : World} (c0 : W.cell? ⟨B, 0, none⟩ = some (.int .i64 k)) (hB : B < W.heap.size) {Q : Exit → Act → World → Prop} {u1 u2 u3 u4 u6 u7 u8 u9 u10 u11 u12 u13 u14 u15 u16 u17 u18 u19 u20 u21 u22 u23 u24 u25 u26 u27 u28 u29 u30 u31 u32 u33 u34 u35 u36 u37 u38 u39 u40 u41 u42 u43 u44 u45 u46 u47 u48 u49 u50 u51 u52 u53 u54 u55 u56 u57 u58 u59 u60 u61 u62 u63 u64 u65 u66 u67 u68 u69 u70 u71 u72 u73 u74 u75 u76 u77 u78 u79 u80 u81 u82 u83 u84 u85 u86 u87 u88 u89 u90 u91 u92 u93 u94 u95 u96 u97 u98 u99 u100 u101 u102 u103 u104 u105 u106 u107 u108 u109 u110 u111 u112 u113 u114 u115 u116 u117 u118 u119 u120 u121 u122 : Value}
    (hQ : ∀ (x y t26 t27 t28 t29 : Value) (wx : World), MetersAt W n k x y wx → Q .normal ⟨#[.int .i64 n, u1, u2, u3, u4, .pointer (some ⟨B, 0, none⟩), u6, u7, u8, x, y, u11, u12, u13, u14, u15, u16, u17, u18, u19, u20, u21, u22, u23, u24, u25, t26, t27, t28, t29, u30, u31, u32, u33, u34, u35, u36, u37, u38, u39, u40, u41, u42, u43, u44, u45, u46, u47, u48, u49, u50, u51, u52, u53, u54, u55, u56, u57, u58, u59, u60, u61, u62, u63, u64, u65, u66, u67, u68, u69, u70, u71, u72, u73, u74, u75, u76, u77, u78, u79, u80, u81, u82, u83, u84, u85, u86, u87, u88, u89, u90, u91, u92, u93, u94, u95, u96, u97, u98, u99, u100, u101, u102, u103, u104, u105, u106, u107, u108, u109, u110, u111, u112, u113, u114, u115, u116, u117, u118, u119, u120, u121, u122], []⟩ wx) :
    Code.wp Try.prog ((Try.f5.body.bind (findReg 4)).getD .skip) Q ⟨#[.int .i64 n, u1, u2, u3, u4, .pointer (some ⟨B, 0, none⟩), u6, u7, u8, u9, u10, u11, u12, u13, u14, u15, u16, u17, u18, u19, u20, u21, u22, u23, u24, u25, u26, u27, u28, u29, u30, u31, u32, u33, u34, u35, u36, u37, u38, u39, u40, u41, u42, u43, u44, u45, u46, u47, u48, u49, u50, u51, u52, u53, u54, u55, u56, u57, u58, u59, u60, u61, u62, u63, u64, u65, u66, u67, u68, u69, u70, u71, u72, u73, u74, u75, u76, u77, u78, u79, u80, u81, u82, u83, u84, u85, u86, u87, u88, u89, u90, u91, u92, u93, u94, u95, u96, u97, u98, u99, u100, u101, u102, u103, u104, u105, u106, u107, u108, u109, u110, u111, u112, u113, u114, u115, u116, u117, u118, u119, u120, u121, u122], []⟩ W := by
  conv => arg 2; whnf
  have HQ := Lib.hid hQ
  clear hQ
  have l0 : B < W.heap.size := hB
  have l1 : B < W.heap.size + 1 := by omega
  have l2 : B < W.heap.size + 1 + 1 := by omega
  have l3 : B < W.heap.size + 1 + 1 + 1 := by omega
  have n2 : ¬ W.heap.size + 1 + 1 = B := by omega
  have n3 : ¬ W.heap.size + 1 + 1 + 1 = B := by omega
  clear hB
  go_region_held3 (fun w' : World => w'.cell? ⟨B, 0, none⟩ = some (.int .i64 k)) (repeat (first | exact c0 | refine cell_drew ?_ | refine cell_alloc_keep (by simp only [World.size_alloc]; omega) ?_)) (first | (go_at_call 8; refine (new_any _ _).mono ?_; rintro e w' ⟨rfl, rfl⟩))
  all_goals
    refine HQ.out _ _ _ _ _ _ _ ?_
    clear HQ
    first
      | exact ⟨W.heap.size + 0, W.heap.size + 1, W.heap.size + 2, W.heap.size + 3, rfl, rfl, meters_of 0 1 2 3 rfl rfl rfl rfl (by omega)⟩
      | exact ⟨W.heap.size + 0, W.heap.size + 1, W.heap.size + 3, W.heap.size + 2, rfl, rfl, meters_of 0 1 3 2 rfl rfl rfl rfl (by omega)⟩
      | exact ⟨W.heap.size + 0, W.heap.size + 2, W.heap.size + 1, W.heap.size + 3, rfl, rfl, meters_of 0 2 1 3 rfl rfl rfl rfl (by omega)⟩
      | exact ⟨W.heap.size + 0, W.heap.size + 2, W.heap.size + 3, W.heap.size + 1, rfl, rfl, meters_of 0 2 3 1 rfl rfl rfl rfl (by omega)⟩
      | exact ⟨W.heap.size + 0, W.heap.size + 3, W.heap.size + 1, W.heap.size + 2, rfl, rfl, meters_of 0 3 1 2 rfl rfl rfl rfl (by omega)⟩
      | exact ⟨W.heap.size + 0, W.heap.size + 3, W.heap.size + 2, W.heap.size + 1, rfl, rfl, meters_of 0 3 2 1 rfl rfl rfl rfl (by omega)⟩
      | exact ⟨W.heap.size + 1, W.heap.size + 0, W.heap.size + 2, W.heap.size + 3, rfl, rfl, meters_of 1 0 2 3 rfl rfl rfl rfl (by omega)⟩
      | exact ⟨W.heap.size + 1, W.heap.size + 0, W.heap.size + 3, W.heap.size + 2, rfl, rfl, meters_of 1 0 3 2 rfl rfl rfl rfl (by omega)⟩
      | exact ⟨W.heap.size + 1, W.heap.size + 2, W.heap.size + 0, W.heap.size + 3, rfl, rfl, meters_of 1 2 0 3 rfl rfl rfl rfl (by omega)⟩
      | exact ⟨W.heap.size + 1, W.heap.size + 2, W.heap.size + 3, W.heap.size + 0, rfl, rfl, meters_of 1 2 3 0 rfl rfl rfl rfl (by omega)⟩
      | exact ⟨W.heap.size + 1, W.heap.size + 3, W.heap.size + 0, W.heap.size + 2, rfl, rfl, meters_of 1 3 0 2 rfl rfl rfl rfl (by omega)⟩
      | exact ⟨W.heap.size + 1, W.heap.size + 3, W.heap.size + 2, W.heap.size + 0, rfl, rfl, meters_of 1 3 2 0 rfl rfl rfl rfl (by omega)⟩
      | exact ⟨W.heap.size + 2, W.heap.size + 0, W.heap.size + 1, W.heap.size + 3, rfl, rfl, meters_of 2 0 1 3 rfl rfl rfl rfl (by omega)⟩
      | exact ⟨W.heap.size + 2, W.heap.size + 0, W.heap.size + 3, W.heap.size + 1, rfl, rfl, meters_of 2 0 3 1 rfl rfl rfl rfl (by omega)⟩
      | exact ⟨W.heap.size + 2, W.heap.size + 1, W.heap.size + 0, W.heap.size + 3, rfl, rfl, meters_of 2 1 0 3 rfl rfl rfl rfl (by omega)⟩
      | exact ⟨W.heap.size + 2, W.heap.size + 1, W.heap.size + 3, W.heap.size + 0, rfl, rfl, meters_of 2 1 3 0 rfl rfl rfl rfl (by omega)⟩
      | exact ⟨W.heap.size + 2, W.heap.size + 3, W.heap.size + 0, W.heap.size + 1, rfl, rfl, meters_of 2 3 0 1 rfl rfl rfl rfl (by omega)⟩
      | exact ⟨W.heap.size + 2, W.heap.size + 3, W.heap.size + 1, W.heap.size + 0, rfl, rfl, meters_of 2 3 1 0 rfl rfl rfl rfl (by omega)⟩
      | exact ⟨W.heap.size + 3, W.heap.size + 0, W.heap.size + 1, W.heap.size + 2, rfl, rfl, meters_of 3 0 1 2 rfl rfl rfl rfl (by omega)⟩
      | exact ⟨W.heap.size + 3, W.heap.size + 0, W.heap.size + 2, W.heap.size + 1, rfl, rfl, meters_of 3 0 2 1 rfl rfl rfl rfl (by omega)⟩
      | exact ⟨W.heap.size + 3, W.heap.size + 1, W.heap.size + 0, W.heap.size + 2, rfl, rfl, meters_of 3 1 0 2 rfl rfl rfl rfl (by omega)⟩
      | exact ⟨W.heap.size + 3, W.heap.size + 1, W.heap.size + 2, W.heap.size + 0, rfl, rfl, meters_of 3 1 2 0 rfl rfl rfl rfl (by omega)⟩
      | exact ⟨W.heap.size + 3, W.heap.size + 2, W.heap.size + 0, W.heap.size + 1, rfl, rfl, meters_of 3 2 0 1 rfl rfl rfl rfl (by omega)⟩
      | exact ⟨W.heap.size + 3, W.heap.size + 2, W.heap.size + 1, W.heap.size + 0, rfl, rfl, meters_of 3 2 1 0 rfl rfl rfl rfl (by omega)⟩
end Go.Proofs.Ytdekakhkhkidhaa.meterNests
