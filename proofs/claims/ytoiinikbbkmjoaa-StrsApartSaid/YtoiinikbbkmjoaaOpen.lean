/- How words, and lists of words, that came in are read. -/
import Derived.Test.YtoiinikbbkmjoaaAlive
import Derived.Lib.SmallJoins
import Derived.Deep.Slices
import Derived.ChangeSame
import Derived.ChangeSlices
namespace Go.Proofs.Ytoiinikbbkmjoaa
open Go.RowKit Go.ChangeShapes Go.WideShapes Go.Deep Go.Joins
section
variable {H : Type} {enc : TypeId × Value → H} {W : World}
theorem ints_of_trod {n : Nat} {cs : List Value} {y : DataW H × List MemPlace} (h : DataW.trod enc Try.prog W 0 (fun _ => true) true n 22 cs = some y) :
    ∃ (a : Option Addr) (xs : List Int) (cap : Nat), cs = [.slice a xs.length cap] ∧ Lst W a xs ∧ xs.length ≤ cap ∧ cap ≤ maxLen ∧ (a = none → cap = 0) := by
  rcases open_ints Try.underlying22 Try.underlying3 (by kernel_rfl) h with ⟨hcs, _⟩ | ⟨x, l, c, zs, hcs, _, hl, hm, hz, _, hcell, _⟩
  · exact ⟨none, [], 0, hcs, fun i hi => by simp at hi, by simp, by simp, fun _ => rfl⟩
  · simp only [if_true] at hz
    have hlen : (zs.take l).length = l := by simp; omega
    refine ⟨some x, zs.take l, c, by rw [hlen]; exact hcs, fun i hi => ?_, by omega, hm, fun h => by cases h⟩
    rw [hlen] at hi
    have hc := hcell i (by omega)
    obtain ⟨b, off, spot⟩ := x
    have h0 := hcell 0 (by omega)
    have hspot : spot = none := by simpa [Addr.add] using World.cell?_spot h0
    subst hspot
    rw [addr_add] at hc
    refine ⟨b, off, rfl, block_of_cell hc, ?_⟩
    have : zs.getD i 0 = (zs.take l)[i] := by
      rw [List.getElem_take, List.getD_eq_getElem?_getD, List.getElem?_eq_getElem (by omega)]; rfl
    rw [← this]
    exact hc
theorem ints_of_val {r : Reach} {b0 : Nat} {v : Value} {d : DataW H} {p : List MemPlace} (hv : Value.okWide Try.prog W r b0 22 v) (h : DataW.Trod enc Try.prog W 0 (fun _ => true) true 22 v d p) :
    ∃ (a : Option Addr) (xs : List Int) (cap : Nat), v = .slice a xs.length cap ∧ Lst W a xs ∧ xs.length ≤ cap ∧ cap ≤ maxLen ∧ (a = none → cap = 0) := by
  obtain ⟨a, len, cap, rfl⟩ := okWide_slice Try.underlying22 hv
  obtain ⟨fuel, hf⟩ := h
  obtain ⟨a', xs, cap', hcs, h2⟩ := ints_of_trod hf
  simp only [Value.cells, List.cons.injEq, and_true] at hcs
  exact ⟨a', xs, cap', by simpa using hcs, h2⟩
theorem lsts_of_val {r : Reach} {b0 : Nat} {v : Value} {d : DataW H} {p : List MemPlace} (hv : Value.okWide Try.prog W r b0 29 v) (h : DataW.Trod enc Try.prog W 0 (fun _ => true) true 29 v d p) :
    ∃ (a : Option Addr) (Ls : List (List Int)) (cap : Nat), v = .slice a Ls.length cap ∧ Lsts W a Ls ∧ Ls.length ≤ cap ∧ cap ≤ maxLen ∧ (a = none → cap = 0) := by
  obtain ⟨a, len, cap, rfl⟩ := okWide_slice Try.underlying29 hv
  obtain ⟨fuel, hf⟩ := h
  rcases open_slice Try.underlying29 hf with ⟨hcs, _⟩ | ⟨x, l, c, m, n', D, Pl, hcs, _, hl, hm, hmm, _, hel⟩
  · simp only [Value.cells, List.cons.injEq, and_true] at hcs
    exact ⟨none, [], 0, by simpa using hcs, fun i hi => by simp at hi, by simp, by simp, fun _ => rfl⟩
  · simp only [if_true] at hmm
    rw [hmm] at hel
    have e22 : Try.prog.cellsOf 22 = 1 := by kernel_rfl
    rw [e22] at hel
    have hR : ∀ i, ∃ r : Option Addr × List Int × Nat, i < l → (W.cell? ((x.add (i * 1)).add 0) = some (.slice r.1 r.2.1.length r.2.2) ∧ Lst W r.1 r.2.1 ∧ r.2.1.length ≤ r.2.2 ∧ (r.1 = none → r.2.2 = 0)) := fun i => by
      by_cases hi : i < l
      · obtain ⟨cs', hc, ht⟩ := hel i (by omega)
        obtain ⟨a1, xs, c1, rfl, h2, h3, _, h5⟩ := ints_of_trod ht
        exact ⟨(a1, xs, c1), fun _ => ⟨(World.cells?_some hc).2.2 0 (by omega), h2, h3, h5⟩⟩
      · exact ⟨(none, [], 0), fun h => (hi h).elim⟩
    obtain ⟨R, hR2⟩ : ∃ R : Nat → Option Addr × List Int × Nat, ∀ i, i < l → (W.cell? ((x.add (i * 1)).add 0) = some (.slice (R i).1 (R i).2.1.length (R i).2.2) ∧ Lst W (R i).1 (R i).2.1 ∧ (R i).2.1.length ≤ (R i).2.2 ∧ ((R i).1 = none → (R i).2.2 = 0)) :=
      ⟨fun i => Classical.choose (hR i), fun i => Classical.choose_spec (hR i)⟩
    have hlen : ((List.range l).map (fun i => (R i).2.1)).length = l := by simp
    simp only [Value.cells, List.cons.injEq, and_true] at hcs
    refine ⟨some x, (List.range l).map (fun i => (R i).2.1), c, by rw [hlen]; simpa using hcs, fun i hi => ?_, by omega, hm, fun h => by cases h⟩
    rw [hlen] at hi
    have e : ((List.range l).map (fun i => (R i).2.1))[i]'(by rw [hlen]; exact hi) = (R i).2.1 := by simp
    rw [e]
    obtain ⟨hc, hin, hle, hnn⟩ := hR2 i hi
    obtain ⟨b, off, spot⟩ := x
    have hspot : spot = none := by
      have h00 := (hR2 0 (by omega)).1
      rw [Nat.zero_mul] at h00
      simpa [Addr.add] using World.cell?_spot h00
    subst hspot
    rw [addr_add, addr_add, Nat.mul_one, Nat.add_zero] at hc
    exact ⟨b, off, (R i).1, (R i).2.2, rfl, block_of_cell hc, hc, hin, hnn, hle⟩
end
theorem range_of {k : Int} (h : (Lit.int .i64 k).wf = true) : -9223372036854775808 ≤ k ∧ k ≤ 9223372036854775807 := by
  have e1 : IntKind.i64.min = -9223372036854775808 := rfl
  have e2 : IntKind.i64.max = 9223372036854775807 := rfl
  simp [Lit.wf, e1, e2] at h
  exact h
end Go.Proofs.Ytoiinikbbkmjoaa
