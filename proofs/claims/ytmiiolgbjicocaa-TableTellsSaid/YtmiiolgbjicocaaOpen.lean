/- How a grammar and a list of numbers that came in are read. -/
import Derived.Test.YtmiiolgbjicocaaRules
import Derived.Lib.SmallJoins
import Derived.Deep.Slices
import Derived.Deep.Fields
import Derived.ChangeSame
import Derived.ChangeSlices
import Derived.SliceStrings
import Derived.Laws.Cover2
set_option maxRecDepth 100000
namespace Go.Proofs.Ytmiiolgbjicocaa
open Go.RowKit Go.ChangeShapes Go.WideShapes Go.Deep Go.Joins
section
variable {H : Type} {enc : TypeId × Value → H} {W : World}
theorem ints_of_trod_wf {n : Nat} {cs : List Value} {y : DataW H × List MemPlace} (h : DataW.trod enc Try.prog W 0 (fun _ => true) true n 26 cs = some y) :
    ∃ (a : Option Addr) (xs : List Int) (cap : Nat), cs = [.slice a xs.length cap] ∧ Ints W W.heap.size a xs ∧ xs.length ≤ cap ∧ cap ≤ maxLen ∧ (a = none → cap = 0) ∧ ∀ x ∈ xs, (Lit.int .i64 x).wf = true := by
  rcases open_ints Try.underlying26 Try.underlying3 (by kernel_rfl) h with ⟨hcs, _⟩ | ⟨x, l, c, zs, hcs, _, hl, hm, hz, _, hcell, hwf⟩
  · exact ⟨none, [], 0, hcs, fun i hi => by simp at hi, by simp, by simp, fun _ => rfl, fun x hx => by simp at hx⟩
  · simp only [if_true] at hz
    have hlen : (zs.take l).length = l := by simp; omega
    refine ⟨some x, zs.take l, c, by rw [hlen]; exact hcs, fun i hi => ?_, by omega, hm, (fun h => by cases h), fun y hy => hwf y (List.mem_of_mem_take hy)⟩
    rw [hlen] at hi
    have hc := hcell i (by omega)
    obtain ⟨b, off, spot⟩ := x
    have h0 := hcell 0 (by omega)
    have hspot : spot = none := by simpa [Addr.add] using World.cell?_spot h0
    subst hspot
    rw [addr_add] at hc
    refine ⟨b, off, rfl, block_of_cell hc, ?_⟩
    have : zs.getD i 0 = (zs.take l)[i] := by
      rw [List.getElem_take, List.getD_eq_getElem?_getD, List.getElem?_eq_getElem (by omega)]; rfl
    rw [← this]
    exact hc
theorem ints_of_trod {n : Nat} {cs : List Value} {y : DataW H × List MemPlace} (h : DataW.trod enc Try.prog W 0 (fun _ => true) true n 26 cs = some y) :
    ∃ (a : Option Addr) (xs : List Int) (cap : Nat), cs = [.slice a xs.length cap] ∧ Ints W W.heap.size a xs ∧ xs.length ≤ cap ∧ cap ≤ maxLen ∧ (a = none → cap = 0) := by
  obtain ⟨a, xs, cap, h1, h2, h3, h4, h5, _⟩ := ints_of_trod_wf h
  exact ⟨a, xs, cap, h1, h2, h3, h4, h5⟩
theorem strs_of_trod {n : Nat} {cs : List Value} {y : DataW H × List MemPlace} (h : DataW.trod enc Try.prog W 0 (fun _ => true) true n 22 cs = some y) :
    ∃ (a : Option Addr) (xs : List ByteArray) (cap : Nat), cs = [.slice a xs.length cap] ∧ StrsAt W W.heap.size a xs ∧ xs.length ≤ cap ∧ cap ≤ maxLen := by
  rcases open_strings Try.underlying22 Try.underlying9 (by kernel_rfl) h with ⟨hcs, _⟩ | ⟨x, l, c, zs, hcs, _, hl, hm, hz, _, hcell, hsz⟩
  · exact ⟨none, [], 0, hcs, fun i hi => by simp at hi, by simp, by simp⟩
  · simp only [if_true] at hz
    have hlen : (zs.take l).length = l := by simp; omega
    refine ⟨some x, zs.take l, c, by rw [hlen]; exact hcs, fun i hi => ?_, by omega, hm⟩
    rw [hlen] at hi
    have hc := hcell i (by omega)
    obtain ⟨b, off, spot⟩ := x
    have h0 := hcell 0 (by omega)
    have hspot : spot = none := by simpa [Addr.add] using World.cell?_spot h0
    subst hspot
    rw [addr_add] at hc
    have e : zs.getD i ByteArray.empty = (zs.take l)[i] := by
      rw [List.getElem_take, List.getD_eq_getElem?_getD, List.getElem?_eq_getElem (by omega)]; rfl
    refine ⟨b, off, rfl, block_of_cell hc, by rw [← e]; exact hc, ?_⟩
    have := hsz _ (List.getElem_mem (l := zs.take l) (by omega) |> List.mem_of_mem_take)
    simpa [maxLen] using this
theorem float_of_trod {n : Nat} {c : Value} {y : DataW H × List MemPlace} (h : DataW.trod enc Try.prog W 0 (fun _ => true) true n 62 [c] = some y) : ∃ f, c = .float .f64 f := by
  cases n with
  | zero => simp [DataW.trod] at h
  | succ n =>
    unfold DataW.trod at h
    rw [Try.underlying62] at h
    split at h <;> simp_all
theorem rule_of_trod {n : Nat} {cs : List Value} {y : DataW H × List MemPlace} (h : DataW.trod enc Try.prog W 0 (fun _ => true) true n 64 cs = some y) :
    ∃ r : RuleD, cs = [.int .i64 r.left, .slice r.ra r.right.length r.rc, .float .f64 r.wt] ∧ Ints W W.heap.size r.ra r.right ∧ r.right.length ≤ r.rc ∧ r.rc ≤ maxLen ∧ (r.ra = none → r.rc = 0) ∧ ∀ x ∈ r.right, (Lit.int .i64 x).wf = true := by
  obtain ⟨xs, m, -, -, hcl, hxl, hf⟩ := DataW.trod_struct Try.underlying64 h
  have e52 : Try.prog.cellsOf 64 = 3 := by kernel_rfl
  have e3 : Try.prog.cellsOf 3 = 1 := by kernel_rfl
  have e26 : Try.prog.cellsOf 26 = 1 := by kernel_rfl
  have e46 : Try.prog.cellsOf 62 = 1 := by kernel_rfl
  rw [e52] at hcl
  match cs, hcl with
  | [c0, c1, c2], _ =>
    match xs, hxl with
    | [x0, x1, x2], _ =>
      have h0 : DataW.trod enc Try.prog W 0 (fun _ => true) true m 3 (([c0, c1, c2].drop 0).take (Try.prog.cellsOf 3)) = some x0 := hf 0 _ rfl
      have h1 : DataW.trod enc Try.prog W 0 (fun _ => true) true m 26 (([c0, c1, c2].drop 1).take (Try.prog.cellsOf 26)) = some x1 := hf 1 _ rfl
      have h2 : DataW.trod enc Try.prog W 0 (fun _ => true) true m 62 (([c0, c1, c2].drop 2).take (Try.prog.cellsOf 62)) = some x2 := hf 2 _ rfl
      rw [e3] at h0
      rw [e26] at h1
      rw [e46] at h2
      simp only [List.drop_zero, List.drop_succ_cons, List.take_succ_cons, List.take_zero] at h0 h1 h2
      obtain ⟨l, hl, -, -⟩ := DataW.trod_int Try.underlying3 h0
      obtain ⟨a, zs, cap, hz, hi, hle, hm, hn⟩ := ints_of_trod_wf h1
      obtain ⟨f, rfl⟩ := float_of_trod h2
      simp only [List.cons.injEq, and_true] at hl hz
      subst hl hz
      exact ⟨⟨l, a, zs, cap, f⟩, rfl, hi, hle, hm, hn⟩
theorem rules_of_trod {n : Nat} {cs : List Value} {y : DataW H × List MemPlace} (h : DataW.trod enc Try.prog W 0 (fun _ => true) true n 23 cs = some y) :
    ∃ (a : Option Addr) (rs : List RuleD) (cap : Nat), cs = [.slice a rs.length cap] ∧ RulesAt W W.heap.size a rs ∧ rs.length ≤ cap ∧ cap ≤ maxLen ∧ ∀ i (h : i < rs.length), rs[i].right.length ≤ rs[i].rc ∧ (rs[i].ra = none → rs[i].rc = 0) ∧ ∀ x ∈ rs[i].right, (Lit.int .i64 x).wf = true := by
  rcases open_slice Try.underlying23 h with ⟨hcs, _⟩ | ⟨x, l, c, m, n', D, Pl, hcs, _, hl, hm, hmm, _, hel⟩
  · exact ⟨none, [], 0, hcs, fun i hi => by simp at hi, by simp, by simp, fun i hi => by simp at hi⟩
  · simp only [if_true] at hmm
    rw [hmm] at hel
    have e52 : Try.prog.cellsOf 64 = 3 := by kernel_rfl
    rw [e52] at hel
    have hR : ∀ i, ∃ r : RuleD, i < l → ((∀ j, j < 3 → W.cell? ((x.add (i * 3)).add j) = ([.int .i64 r.left, .slice r.ra r.right.length r.rc, .float .f64 r.wt] : List Value)[j]?) ∧ Ints W W.heap.size r.ra r.right ∧ r.right.length ≤ r.rc ∧ r.rc ≤ maxLen ∧ (r.ra = none → r.rc = 0) ∧ ∀ x ∈ r.right, (Lit.int .i64 x).wf = true) := fun i => by
      by_cases hi : i < l
      · obtain ⟨cs', hc, ht⟩ := hel i (by omega)
        obtain ⟨r, rfl, h2⟩ := rule_of_trod ht
        exact ⟨r, fun _ => ⟨(World.cells?_some hc).2.2, h2⟩⟩
      · exact ⟨⟨0, none, [], 0, 0⟩, fun h => (hi h).elim⟩
    obtain ⟨R, hR2⟩ : ∃ R : Nat → RuleD, ∀ i, i < l → ((∀ j, j < 3 → W.cell? ((x.add (i * 3)).add j) = ([.int .i64 (R i).left, .slice (R i).ra (R i).right.length (R i).rc, .float .f64 (R i).wt] : List Value)[j]?) ∧ Ints W W.heap.size (R i).ra (R i).right ∧ (R i).right.length ≤ (R i).rc ∧ (R i).rc ≤ maxLen ∧ ((R i).ra = none → (R i).rc = 0) ∧ ∀ x ∈ (R i).right, (Lit.int .i64 x).wf = true) :=
      ⟨fun i => Classical.choose (hR i), fun i => Classical.choose_spec (hR i)⟩
    have hlen : ((List.range l).map R).length = l := by simp
    refine ⟨some x, (List.range l).map R, c, by rw [hlen]; exact hcs, fun i hi => ?_, by omega, hm, fun i hi => ?_⟩
    · rw [hlen] at hi
      have e : ((List.range l).map R)[i]'(by rw [hlen]; exact hi) = R i := by simp
      rw [e]
      obtain ⟨hc, hin, hle, hmx, -⟩ := hR2 i hi
      obtain ⟨b, off, spot⟩ := x
      have h0 := hc 0 (by omega)
      have h1 := hc 1 (by omega)
      have h2 := hc 2 (by omega)
      have hspot : spot = none := by
        have h00 := (hR2 0 (by omega)).1 0 (by omega)
        rw [Nat.zero_mul] at h00
        simpa [Addr.add] using World.cell?_spot h00
      subst hspot
      rw [addr_add, addr_add] at h0 h1 h2
      exact ⟨b, off, rfl, block_of_cell h0, h0, h1, h2, hin, by simp only [maxLen] at hmx; omega⟩
    · rw [hlen] at hi
      have e : ((List.range l).map R)[i]'(by rw [hlen]; exact hi) = R i := by simp
      rw [e]
      exact ⟨(hR2 i hi).2.2.1, (hR2 i hi).2.2.2.2⟩
theorem gram_of_trod_wf {r : Reach} {b0 : Nat} {v : Value} {d : DataW H} {p : List MemPlace} (hv : Value.okWide Try.prog W r b0 25 v) (h : DataW.Trod enc Try.prog W 0 (fun _ => true) true 25 v d p) :
    ∃ g : GramD, v = GV g ∧ GramAt W W.heap.size g ∧ ∀ i (h : i < g.rules.length), g.rules[i].right.length ≤ g.rules[i].rc ∧ ∀ x ∈ g.rules[i].right, (Lit.int .i64 x).wf = true := by
  obtain ⟨v0, v1, v2, y0, y1, y2, n, rfl, -, -, h0, h1, h2⟩ := open_agg3 Try.underlying25 (by kernel_rfl) (by kernel_rfl) hv h
  obtain ⟨ta, ts, tc, e0, hs0, hl0, hm0⟩ := strs_of_trod h0
  obtain ⟨va, vs, vc, e1, hs1, hl1, hm1⟩ := strs_of_trod h1
  obtain ⟨ra, rs, rc, e2, hs2, hl2, hm2, hn⟩ := rules_of_trod h2
  simp only [List.cons.injEq, and_true] at e0 e1 e2
  subst e0 e1 e2
  simp only [maxLen] at hm0 hm1 hm2
  exact ⟨⟨ta, ts, tc, va, vs, vc, ra, rs, rc⟩, rfl, ⟨hs0, hs1, hs2, by simp only; omega, by simp only; omega, by simp only; omega, fun i h => (hn i h).2.1⟩, fun i h => ⟨(hn i h).1, (hn i h).2.2⟩⟩
theorem gram_of_trod {r : Reach} {b0 : Nat} {v : Value} {d : DataW H} {p : List MemPlace} (hv : Value.okWide Try.prog W r b0 25 v) (h : DataW.Trod enc Try.prog W 0 (fun _ => true) true 25 v d p) :
    ∃ g : GramD, v = GV g ∧ GramAt W W.heap.size g := by
  obtain ⟨g, h1, h2, _⟩ := gram_of_trod_wf hv h
  exact ⟨g, h1, h2⟩
theorem ints_of_val_wf {r : Reach} {b0 : Nat} {v : Value} {d : DataW H} {p : List MemPlace} (hv : Value.okWide Try.prog W r b0 26 v) (h : DataW.Trod enc Try.prog W 0 (fun _ => true) true 26 v d p) :
    ∃ (a : Option Addr) (xs : List Int) (cap : Nat), v = .slice a xs.length cap ∧ Ints W W.heap.size a xs ∧ xs.length ≤ cap ∧ cap ≤ maxLen ∧ (a = none → cap = 0) ∧ ∀ x ∈ xs, (Lit.int .i64 x).wf = true := by
  obtain ⟨a, len, cap, rfl⟩ := okWide_slice Try.underlying26 hv
  obtain ⟨fuel, hf⟩ := h
  obtain ⟨a', xs, cap', hcs, h2⟩ := ints_of_trod_wf hf
  simp only [Value.cells, List.cons.injEq, and_true] at hcs
  exact ⟨a', xs, cap', by simpa using hcs, h2⟩
theorem ints_of_val {r : Reach} {b0 : Nat} {v : Value} {d : DataW H} {p : List MemPlace} (hv : Value.okWide Try.prog W r b0 26 v) (h : DataW.Trod enc Try.prog W 0 (fun _ => true) true 26 v d p) :
    ∃ (a : Option Addr) (xs : List Int) (cap : Nat), v = .slice a xs.length cap ∧ Ints W W.heap.size a xs ∧ xs.length ≤ cap ∧ cap ≤ maxLen ∧ (a = none → cap = 0) := by
  obtain ⟨a, xs, cap, h1, h2, h3, h4, h5, _⟩ := ints_of_val_wf hv h
  exact ⟨a, xs, cap, h1, h2, h3, h4, h5⟩
end
end Go.Proofs.Ytmiiolgbjicocaa
