/- How bytes that came in are read. -/
import Derived.Test.YticdihfjnmjkmaaBlanksP
import Derived.Lib.SmallJoins
import Derived.Deep.Slices
import Derived.ChangeSame
import Derived.ChangeSlices
set_option maxRecDepth 100000
namespace Go.Proofs.Yticdihfjnmjkmaa
open Go.RowKit Go.ChangeShapes Go.WideShapes Go.Deep Go.Joins
theorem and3 (x : Int) : bits .and .u8 x 3 = 0 ∨ bits .and .u8 x 3 = 1 ∨ bits .and .u8 x 3 = 2 ∨ bits .and .u8 x 3 = 3 := by
  have h : bits .and .u8 x 3 = IntKind.u8.wrap ((BitVec.ofInt 8 x &&& BitVec.ofInt 8 3).toNat : Int) := rfl
  have h2 : (BitVec.ofInt 8 x).toNat &&& 3 ≤ 3 := Nat.and_le_right
  have e : (BitVec.ofInt 8 3).toNat = 3 := by decide
  rw [h, BitVec.toNat_and, e, IntKind.wrap_u8]
  omega
section
variable {H : Type} {enc : TypeId × Value → H} {W : World}
theorem bytes_of_trod {n : Nat} {cs : List Value} {y : DataW H × List MemPlace} (h : DataW.trod enc Try.prog W 0 (fun _ => true) true n 37 cs = some y) :
    ∃ (a : Option Addr) (xs : List Int) (cap : Nat), cs = [.slice a xs.length cap] ∧ BytesAt W W.heap.size a xs ∧ xs.length ≤ maxLen := by
  rcases open_ints Try.underlying37 Try.underlying5 (by kernel_rfl) h with ⟨hcs, _⟩ | ⟨x, l, c, zs, hcs, _, hl, hm, hz, _, hcell, hwf⟩
  · exact ⟨none, [], 0, hcs, fun i hi => by simp at hi, by simp⟩
  · simp only [if_true] at hz
    have hlen : (zs.take l).length = l := by simp; omega
    refine ⟨some x, zs.take l, c, by rw [hlen]; exact hcs, fun i hi => ?_, by omega⟩
    rw [hlen] at hi
    have hc := hcell i (by omega)
    obtain ⟨b, off, spot⟩ := x
    have h0 := hcell 0 (by omega)
    have hspot : spot = none := by simpa [Addr.add] using World.cell?_spot h0
    subst hspot
    rw [addr_add] at hc
    have : zs.getD i 0 = (zs.take l)[i] := by
      rw [List.getElem_take, List.getD_eq_getElem?_getD, List.getElem?_eq_getElem (by omega)]; rfl
    have hw := hwf zs[i] (List.getElem_mem (by omega))
    refine ⟨b, off, rfl, block_of_cell hc, by rw [← this]; exact hc, ?_⟩
    rw [List.getElem_take]
    simp [Lit.wf, IntKind.min, IntKind.max, IntKind.signed, IntKind.bits] at hw
    omega
theorem bytes_of_val {r : Reach} {b0 : Nat} {v : Value} {d : DataW H} {p : List MemPlace} (hv : Value.okWide Try.prog W r b0 37 v) (h : DataW.Trod enc Try.prog W 0 (fun _ => true) true 37 v d p) :
    ∃ (a : Option Addr) (xs : List Int) (cap : Nat), v = .slice a xs.length cap ∧ BytesAt W W.heap.size a xs ∧ xs.length ≤ maxLen := by
  obtain ⟨a, len, cap, rfl⟩ := okWide_slice Try.underlying37 hv
  obtain ⟨fuel, hf⟩ := h
  obtain ⟨a', xs, cap', hcs, h2⟩ := bytes_of_trod hf
  simp only [Value.cells, List.cons.injEq, and_true] at hcs
  exact ⟨a', xs, cap', by simpa using hcs, h2⟩
end
end Go.Proofs.Yticdihfjnmjkmaa
