/- tree.Of: the tree of a derivation, or why there is none. -/
import Derived.Test.YtfiafmhnmafnbaaDer
import Derived.Test.YtfiafmhnmafnbaaNodeWalk
namespace Go.Proofs.Ytfiafmhnmafnbaa
open Go.RowKit
theorem ints_up {w : World} {B B' : Nat} {a : Option Addr} {xs : List Int} (h : Ints w B a xs) (hB : B ≤ B') : Ints w B' a xs := fun i hi => by
  obtain ⟨b, off, h1, h2, h3⟩ := h i hi
  exact ⟨b, off, h1, by omega, h3⟩
theorem gram_up {w : World} {B B' : Nat} {g : GramD} (h : GramAt w B g) (hB : B ≤ B') : GramAt w B' g := by
  refine ⟨fun i hi => ?_, fun i hi => ?_, fun i hi => ?_, h.lt, h.lv, h.lr, h.nils⟩
  · obtain ⟨b, off, h1, h2, h3⟩ := h.terms i hi
    exact ⟨b, off, h1, by omega, h3⟩
  · obtain ⟨b, off, h1, h2, h3⟩ := h.vars i hi
    exact ⟨b, off, h1, by omega, h3⟩
  · obtain ⟨b, off, h1, h2, h3, h4, h5, h6, h7⟩ := h.rules i hi
    exact ⟨b, off, h1, by omega, h3, h4, h5, ints_up h6 hB, h7⟩
def OfPost (g : GramD) (v : Int) (rules : List Int) (w : World) (e : Ending) (w' : World) : Prop :=
  Below w.heap.size w w' ∧ (((yieldS g [v] rules).2 = 0 ∧ ∃ t : MT, e = .returned (.tuple #[t.ptr, .int .i64 0]) ∧ t.pt.sym = v ∧ t.pt.rules = rules ∧ t.pt.leaves.map nt = (yieldS g [v] rules).1 ∧ t.pt.valid g = true ∧ MT.At w' w.heap.size t ∧ t.blocks.Nodup) ∨
    ((yieldS g [v] rules).2 ≠ 0 ∧ e = .returned (.tuple #[.pointer none, .int .i64 (yieldS g [v] rules).2])))
theorem ofPost_no {g : GramD} {v : Int} {rules : List Int} {w w' : World} {p : List Int × Int} (he : yieldS g [v] rules = p) (hb : Below w.heap.size w w') (h : p.2 ≠ 0) : OfPost g v rules w (.returned (.tuple #[.pointer none, .int .i64 p.2])) w' := by
  subst he
  exact ⟨hb, .inr ⟨h, rfl⟩⟩
set_option maxHeartbeats 1000000 in
theorem of_any {B : Nat} {g : GramD} {w : World} (h : GramAt w B g) (hB : B ≤ w.heap.size) (hsm : Small g) (hok : GramOk g) {a : Option Addr} {cap : Nat} {rules : List Int} (hr : Ints w B a rules) (hcap : rules.length ≤ cap) (hcm : cap ≤ 9223372036854775807) (hrl : rules.length ≤ 4096) {v : Int} (hv : 0 ≤ v) :
    Calls Try.prog 10 #[GV g, .int .i64 v, .slice a rules.length cap] w (OfPost g v rules w) := by
  have HGV := Lib.hid (show GV g = .agg #[.slice g.ta g.terms.length g.tc, .slice g.va g.vars.length g.vc, .slice g.ra g.rules.length g.rc] from rfl)
  have HS := Lib.hid (boxed_start h hB)
  have hb1 : Below w.heap.size w ((w.alloc (.cells #[.slice g.ta g.terms.length g.tc, .slice g.va g.vars.length g.vc, .slice g.ra g.rules.length g.rc] 25)).alloc (.cells #[.int .i64 v] 3)) := ((Below.refl _ _).alloc (Nat.le_refl _) _).alloc (by simp) _
  have hI : Ints ((w.alloc (.cells #[.slice g.ta g.terms.length g.tc, .slice g.va g.vars.length g.vc, .slice g.ra g.rules.length g.rc] 25)).alloc (.cells #[.int .i64 v] 3)) (w.heap.size + 2) (some ⟨w.heap.size + 1, 0, none⟩) [v] := fun i hi => by
    have : i = 0 := by simpa using hi
    subst this
    refine ⟨w.heap.size + 1, 0, rfl, by omega, ?_⟩
    have := cell_of_block (off := 0) (heap_alloc_this (w.alloc (.cells #[.slice g.ta g.terms.length g.tc, .slice g.va g.vars.length g.vc, .slice g.ra g.rules.length g.rc] 25)) (.cells #[.int .i64 v] 3))
    rw [World.size_alloc] at this
    exact this
  have HY := Lib.hid (yield_any (cap := 1) (cap2 := cap) (gram_up (h.below (hb1.mono hB)) (B' := w.heap.size + 2) (by omega)) (by simp) hsm hI (ints_up (hr.below (hb1.mono hB)) (B' := w.heap.size + 2) (by omega)) (by simp; omega) hrl)
  have HT := fun h => Lib.hid (tree_of hok hv (rules := rules) h)
  have HG := Lib.hid h
  have HR := Lib.hid hr
  have HB1 := Lib.hid hb1
  have hk := HS.out.blk
  have hk2 := heap_alloc_keep (o := .cells #[.int .i64 v] 3) hk
  have HK := Lib.hid hk2
  rw [HGV.out] at HY
  rw [HGV.out]
  clear h hr hb1 hI hk hk2
  generalize hyy : yieldS g [v] rules = Y at *
  have HYY := Lib.hid hyy
  clear hyy
  go_enter Try.func10, Try.ntmps10
  go_wp2_with fail
  refine HY.out.mono ?_
  rintro e w1 ⟨v1, rfl, hown, hb2⟩
  have HBB := Lib.hid (HB1.out.trans (hb2.mono (by simp; omega)))
  have gK := (hb2.block w.heap.size (by simp; omega)).trans HK.out
  have gc0 := cell_of_block (off := 0) gK
  have gc1 := cell_of_block (off := 1) gK
  have gc2 := cell_of_block (off := 2) gK
  simp at gc0 gc1 gc2
  have hs1 := HBB.out.size
  clear hown hb2 gK
  by_cases hz : Y.2 = 0
  · obtain ⟨T, hT1, hT2, hT3, hT4⟩ := (HT hz).out
    have hz' : (Y.2 != 0) = false := by simp [hz]
    have HZ := Lib.hid hz
    have hb3 : Below w.heap.size w (w1.alloc (.cells #[.slice g.ta g.terms.length g.tc, .slice g.va g.vars.length g.vc, .slice g.ra g.rules.length g.rc, .slice a rules.length cap] 62)) := HBB.out.trans ((Below.refl _ _).alloc hs1 _)
    have hBu : BuildAt w.heap.size w1.heap.size g (T.rules ++ []) (w1.alloc (.cells #[.slice g.ta g.terms.length g.tc, .slice g.va g.vars.length g.vc, .slice g.ra g.rules.length g.rc, .slice a rules.length cap] 62)) :=
      ⟨hs1, gram_up (HG.out.below (hb3.mono hB)) hB, a, cap, by rw [List.append_nil, hT2]; exact heap_alloc_this _ _, by rw [List.append_nil, hT2]; exact ints_up (HR.out.below (hb3.mono hB)) hB, by rw [List.append_nil, hT2]; exact hcap, hcm⟩
    have HN := Lib.hid (node_any hsm T hT4 hBu)
    rw [hT1] at HN
    have HTT := Lib.hid (And.intro hT1 (And.intro hT2 (And.intro hT3 hT4)))
    have HB3 := Lib.hid hb3
    clear hz hT1 hT2 hT3 hT4 HT hBu hb3
    go_wp2_with (first | (go_at_call 30; refine HN.out.mono ?_; rintro e w2 ⟨t, rfl, hpt, hAt, hnd, hbu, hkp⟩))
    have HF := Lib.hid (And.intro hpt (And.intro hAt (And.intro hnd hkp)))
    clear hpt hAt hnd hbu hkp
    go_ret2
    have hbf : Below w.heap.size w w2 := HB3.out.trans (HF.out.2.2.2.below (by simp; omega) (fun k hk e => by omega))
    exact ⟨hbf, .inl ⟨HYY.out ▸ HZ.out, t, rfl, by rw [HF.out.1]; exact HTT.out.1, by rw [HF.out.1]; exact HTT.out.2.1, by rw [HF.out.1, HYY.out]; exact HTT.out.2.2.1, by rw [HF.out.1]; exact HTT.out.2.2.2, HF.out.2.1.low (by simp; omega), HF.out.2.2.1⟩⟩
  · have hz' : (Y.2 != 0) = true := by simp [hz]
    have HZ := Lib.hid hz
    clear hz HT
    go_wp2
    go_ret2
    exact ofPost_no HYY.out HBB.out HZ.out
end Go.Proofs.Ytfiafmhnmafnbaa
