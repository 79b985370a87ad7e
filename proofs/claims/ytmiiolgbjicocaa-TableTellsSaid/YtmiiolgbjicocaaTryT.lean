/- Try, by what the work touches. -/
import Derived.Test.YtmiiolgbjicocaaGrowW
namespace Go.Proofs.Ytmiiolgbjicocaa
open Go.RowKit
/-- All blocks but those of one Bool stay. -/
structure Sft (w w' : World) : Prop where
  os : w'.os = w.os
  tape : w'.tape = w.tape
  output : w'.output = w.output
  size : w.heap.size ≤ w'.heap.size
  typ : ∀ (k : Nat) cs t, w.heap[k]? = some (.cells cs t (0, 0)) → t ≠ 4 → w'.heap[k]? = w.heap[k]?
theorem Sft.trans {a b c : World} (h : Sft a b) (k : Sft b c) : Sft a c :=
  ⟨k.os.trans h.os, k.tape.trans h.tape, k.output.trans h.output, Nat.le_trans h.size k.size, fun i cs t h1 h2 => by
    have e := h.typ i cs t h1 h2
    exact (k.typ i cs t (e.trans h1) h2).trans e⟩
theorem sft_alloc (w : World) (o : Obj) : Sft w (w.alloc o) := ⟨rfl, rfl, rfl, by simp, fun k _ _ h _ => (heap_alloc_keep h).trans h.symm⟩
theorem sft_store {w : World} {b : Nat} {cs : Array Value} (hb : w.heap[b]? = some (.cells cs 4 (0, 0))) (u : Value) : Sft w (w.setCell ⟨b, 0, none⟩ u) := by
  have hk := Kept.setCell (S := (· = b)) (Kept.refl _ w) (p := ⟨b, 0, none⟩) (.inl rfl) u
  refine ⟨hk.os, hk.tape, hk.output, hk.size, fun k cs' t h1 h2 => hk.block k (lt_of_block h1) (fun e => ?_)⟩
  have e : k = b := e
  rw [e, hb] at h1
  injection h1 with h1
  injection h1 with _ h3
  exact h2 h3.symm
theorem Tch.store {lo mb : Nat} {a b : World} (h : Tch lo mb a b) {p : Nat} (hp : a.heap.size ≤ p) (u : Value) : Tch lo mb a (b.setCell ⟨p, 0, none⟩ u) := by
  have hk := Kept.setCell (S := (· = p)) (Kept.refl _ b) (p := ⟨p, 0, none⟩) (.inl rfl) u
  exact ⟨hk.os.trans h.os, hk.tape.trans h.tape, hk.output.trans h.output, Nat.le_trans h.size hk.size,
    fun k h1 h2 => (hk.block k (Nat.lt_of_lt_of_le h2 h.size) (fun e => by have e : k = p := e; omega)).trans (h.low k h1 h2),
    fun k cs t h1 h2 h3 h4 => (hk.block k (Nat.lt_of_lt_of_le (lt_of_block h1) h.size) (fun e => by have e : k = p := e; have := lt_of_block h1; omega)).trans (h.typ k cs t h1 h2 h3 h4)⟩
/-- The meter is a new block: what else there was is not it. -/
theorem Tch.from {lo mb : Nat} {a b c : World} (h : Grow a b) (k : Tch lo mb b c) (hm : a.heap.size ≤ mb) (m0 : Nat) : Tch lo m0 a c :=
  ⟨k.os.trans h.os, k.tape.trans h.tape, k.output.trans h.output, Nat.le_trans h.size k.size, fun i hi hl => (k.low i hi (Nat.lt_of_lt_of_le hl h.size)).trans (h.block i hl), fun i cs t h1 h2 h3 _ => by
    have hl := lt_of_block h1
    have e := h.block i hl
    exact (k.typ i cs t (e.trans h1) h2 h3 (by omega)).trans e⟩
theorem runW_grow (w : World) (b : Nat) : Below w.heap.size w (runW w b) := (runW_kept w b).below (Nat.le_refl _) (fun _ _ h => h)
set_option maxRecDepth 100000 in
/-- Run, however the work comes to its end. -/
theorem run_t {b g : Nat} {cap : Array Value} {w : World} {lo : Nat} {R : Bool → World → Prop}
    (hbl : b < w.heap.size) (hcf : ∀ W, (callFunc g cap).run Try.prog W = .ok (.enter g cap) W)
    (hst : ∀ d w2 w3, Sft w2 w3 → R d w2 → R d w3)
    (hwork : ∀ w1, Kept (fun _ => False) w w1 → Calls Try.prog g cap w1 fun e w2 => ∃ d, Out d b e ∧ Tch lo b w1 w2 ∧ R d w2) :
    Calls Try.prog 62 #[.pointer (some ⟨b, 0, none⟩), .func (.func g) #[] cap] w fun e w' => ∃ d, e = .returned (.bool d) ∧ Tch lo b w w' ∧ R d w' := by
  have hmf : ∀ (fn : Fn) (first cap : Array Value) (w : World), (Instr.makeFunc fn first cap).run Try.prog w = .ok (.func fn first cap) w := fun _ _ _ _ => rfl
  have HW := Lib.hid hwork
  have HS := Lib.hid hst
  clear hwork hst
  go_enter_defers Try.func62, Try.ntmps62
  go_wp2_with fail
  refine (HW.out (runW w b) (runW_kept w b)).mono ?_
  rintro e w2 ⟨d, ho, hk, hr⟩
  cases d
  · obtain ⟨older, rfl, hol⟩ := ho
    have HO := Lib.hid hol
    have HR := Lib.hid hr
    have hd := (hk.typ _ _ _ (runW_done w b) (by decide) (by decide) (by omega)).trans (runW_done w b)
    have hm := (hk.typ _ _ _ (runW_m w b) (by decide) (by decide) (by omega)).trans (runW_m w b)
    have hsz := hk.size
    rw [runW_size] at hsz
    have hcd := cell_of_block (off := 0) hd
    have hfd := free_of_block (off := 0) hd
    have hcm := cell_of_block (off := 0) hm
    simp at hcd hcm
    have HK := Lib.hid hk
    have HD := Lib.hid hd
    clear hk hd hr hm hol
    go_wp2
    refine leaves_cons (f := 81) (args := #[.pointer (some ⟨w.heap.size, 0, none⟩), .pointer (some ⟨w.heap.size + 1, 0, none⟩)]) (by simp) (by simp [go_sem]) ?_
    refine (catch_same b ⟨w.heap.size, 0, none⟩ ⟨w.heap.size + 1, 0, none⟩ older _ hcm (by simp; omega) false (by simp; omega) hcd hfd).mono ?_
    rintro e u' w'' ⟨rfl, rfl, rfl⟩
    have hd' := heap_setCell_known (off := 0) (u := .bool false) (heap_alloc_keep (o := .cells #[.pointer (some ⟨b, 0, none⟩)] 132) HD.out)
    have hcd' := cell_of_block (off := 0) hd'
    simp at hcd'
    have hkk : Tch lo b w ((w2.alloc (.cells #[.pointer (some ⟨b, 0, none⟩)] 132)).setCell ⟨w.heap.size + 1, 0, none⟩ (.bool false)) :=
      (((Tch.grow (runW_grow w b)).trans HK.out).trans (Tch.grow (((Kept.refl (fun _ => False) w2).alloc _).below (Nat.le_refl _) (fun _ _ h => h)))).store (by simp) _
    have hrr : R false ((w2.alloc (.cells #[.pointer (some ⟨b, 0, none⟩)] 132)).setCell ⟨w.heap.size + 1, 0, none⟩ (.bool false)) :=
      HS.out _ _ _ ((sft_alloc w2 _).trans (sft_store (heap_alloc_keep HD.out) _)) HR.out
    have hset : settle (.panicking ({ v := overV b, recovered := true } :: older)) = .returning := by simp [settle, HO.out]
    show Leaves _ _ _ _ [] (settle _) _
    rw [hset]
    refine ⟨.bool false, ?_, false, rfl, hkk, hrr⟩
    simp [results, Try.results62, go_sem, hcd']
  · have ho : e = .returned (.tuple #[]) := ho
    subst ho
    have HR := Lib.hid hr
    have hd := (hk.typ _ _ _ (runW_done w b) (by decide) (by decide) (by omega)).trans (runW_done w b)
    have hsz := hk.size
    rw [runW_size] at hsz
    have hcd := cell_of_block (off := 0) hd
    have hfd := free_of_block (off := 0) hd
    simp at hcd
    have HK := Lib.hid hk
    have HD := Lib.hid hd
    clear hk hd hr
    go_wp2
    refine leaves_cons (f := 81) (args := #[.pointer (some ⟨w.heap.size, 0, none⟩), .pointer (some ⟨w.heap.size + 1, 0, none⟩)]) (by simp) (by simp [go_sem]) ?_
    refine (catch_idle ⟨w.heap.size, 0, none⟩ ⟨w.heap.size + 1, 0, none⟩ _).mono ?_
    rintro e u' w'' ⟨rfl, rfl, rfl⟩
    have hd' := heap_setCell_known (off := 0) (u := .bool true) HD.out
    have hcd' := cell_of_block (off := 0) hd'
    simp at hcd'
    have hkk : Tch lo b w (w2.setCell ⟨w.heap.size + 1, 0, none⟩ (.bool true)) :=
      ((Tch.grow (runW_grow w b)).trans HK.out).store (by simp) _
    have hrr : R true (w2.setCell ⟨w.heap.size + 1, 0, none⟩ (.bool true)) := HS.out _ _ _ (sft_store HD.out _) HR.out
    refine ⟨.bool true, ?_, true, rfl, hkk, hrr⟩
    simp [results, Try.results62, go_sem, hcd']
theorem try_t {n : Int} {sb : Nat} {w : World} {lo : Nat} {R : Bool → World → Prop}
    (hst : ∀ d w2 w3, Sft w2 w3 → R d w2 → R d w3)
    (hwork : ∀ w1 b, Kept (fun _ => False) w w1 → w.heap.size ≤ b → MeterAt w1 b (held n) 0 →
      Calls Try.prog 33 #[.pointer (some ⟨sb, 0, none⟩), .pointer (some ⟨b, 0, none⟩)] w1 fun e w2 => ∃ d, Out d b e ∧ Tch lo b w1 w2 ∧ R d w2 ∧ ∃ l s, MeterAt w2 b l s) :
    Calls Try.prog 32 #[.int .i64 n, fillV sb] w fun e w' => ∃ d s, e = .returned (.tuple #[.int .i64 s, .bool d]) ∧ Tch lo w.heap.size w w' ∧ R d w' := by
  have HW := Lib.hid hwork
  have HS := Lib.hid hst
  clear hwork hst
  have hmf : ∀ (fn : Fn) (first cap : Array Value) (w : World), (Instr.makeFunc fn first cap).run Try.prog w = .ok (.func fn first cap) w := fun _ _ _ _ => rfl
  have HV : Hid (fillV sb = fillV sb) := Lib.hid rfl
  generalize hV : fillV sb = V at HV ⊢
  clear HV
  go_enter Try.func32, Try.ntmps32
  go_wp2_with fail
  refine (new_any n _).mono ?_
  rintro e w2 ⟨rfl, rfl⟩
  go_wp2_with fail
  obtain ⟨h0, h1, h2⟩ := heap_three w (.cells #[V] 85) (.cells #[.int .i64 (held n), .int .i64 0] 114) (.cells #[.pointer (some ⟨w.heap.size + 1, 0, none⟩)] 110)
  have hK0 : Kept (fun _ => False) w (((w.alloc (.cells #[V] 85)).alloc (.cells #[.int .i64 (held n), .int .i64 0] 114)).alloc (.cells #[.pointer (some ⟨w.heap.size + 1, 0, none⟩)] 110)) :=
    (((Kept.refl _ _).alloc _).alloc _).alloc _
  have hsz : (((w.alloc (.cells #[V] 85)).alloc (.cells #[.int .i64 (held n), .int .i64 0] 114)).alloc (.cells #[.pointer (some ⟨w.heap.size + 1, 0, none⟩)] 110)).heap.size = w.heap.size + 3 := by simp
  generalize (((w.alloc (.cells #[V] 85)).alloc (.cells #[.int .i64 (held n), .int .i64 0] 114)).alloc (.cells #[.pointer (some ⟨w.heap.size + 1, 0, none⟩)] 110)) = W at *
  refine (run_t (b := w.heap.size + 1) (g := 63) (lo := lo) (R := fun d w' => R d w' ∧ ∃ l s, MeterAt w' (w.heap.size + 1) l s)
    (by omega) (fun _ => by simp [go_sem]) ?_ ?_).mono ?_
  · rintro d w2 w3 hk ⟨hr, l, s, hl⟩
    exact ⟨HS.out d w2 w3 hk hr, l, s, (hk.typ _ _ _ hl (by decide)).trans hl⟩
  · intro w1 hk1
    subst hV
    refine (work_ex (hk1.get h0 (by simp)) (hk1.get h2 (by simp)) (R := fun d w2 => Tch lo (w.heap.size + 1) w1 w2 ∧ R d w2 ∧ ∃ l s, MeterAt w2 (w.heap.size + 1) l s) ?_)
    exact HW.out w1 _ (hK0.trans hk1) (by omega) (hk1.get h1 (by simp))
  rintro e w2 ⟨d, rfl, hk2, hr, l, s, hl⟩
  have hc := cell_of_block (off := 1) hl
  have hc2 := cell_of_block (off := 0) ((hk2.typ _ _ _ h2 (by decide) (by decide) (by omega)).trans h2)
  simp at hc hc2
  have hend : Tch lo w.heap.size w w2 ∧ R d w2 := ⟨Tch.from (hK0.below (Nat.le_refl _) (fun _ _ h => h)) hk2 (by omega) _, hr⟩
  have HE := Lib.hid hend
  clear h0 h1 h2 hK0 hsz hk2 hr hl hend
  go_wp2
  go_ret2
  exact ⟨d, s, rfl, HE.out⟩
end Go.Proofs.Ytmiiolgbjicocaa
