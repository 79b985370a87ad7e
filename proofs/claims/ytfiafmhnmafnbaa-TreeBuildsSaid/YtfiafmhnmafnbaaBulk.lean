/- What the bound of the second form gives: names that are not long. -/
import Derived.Test.YtfiafmhnmafnbaaOpen
import Derived.Test.YtfiafmhnmafnbaaRows
set_option maxRecDepth 100000
namespace Go.Proofs.Ytfiafmhnmafnbaa
open Go.RowKit Go.ChangeShapes Go.WideShapes Go.Deep Go.Joins
section
variable {H : Type} {enc : TypeId × Value → H} {W : World}
theorem bulk_part {d : DataW H} {l : List (DataW H)} (h : d ∈ l) : Rows.uptoBulk d ≤ Rows.uptoBulkAll l := by
  induction l with
  | nil => cases h
  | cons x r ih =>
    simp only [Rows.uptoBulkAll]
    cases List.mem_cons.1 h with
    | inl e => subst e; omega
    | inr e => have := ih e; omega
theorem bulk_str (l : List UInt8) : Rows.uptoBulk (DataW.lit (H := H) (.string l)) = l.length + 1 := by simp [Rows.uptoBulk]
theorem strs_of_trod_b {n : Nat} {cs : List Value} {y : DataW H × List MemPlace} (h : DataW.trod enc Try.prog W 0 (fun _ => true) true n 22 cs = some y) :
    ∃ (a : Option Addr) (xs : List ByteArray) (cap : Nat), cs = [.slice a xs.length cap] ∧ StrsAt W W.heap.size a xs ∧ xs.length ≤ cap ∧ cap ≤ maxLen ∧ ∀ s ∈ xs, s.size ≤ Rows.uptoBulk y.1 := by
  rcases open_strings Try.underlying22 Try.underlying9 (by kernel_rfl) h with ⟨hcs, _⟩ | ⟨x, l, c, zs, hcs, _, hl, hm, hz, hy, hcell, hsz⟩
  · exact ⟨none, [], 0, hcs, fun i hi => by simp at hi, by simp, by simp, fun s hs => by cases hs⟩
  · simp only [if_true] at hz
    have hlen : (zs.take l).length = l := by simp; omega
    refine ⟨some x, zs.take l, c, by rw [hlen]; exact hcs, fun i hi => ?_, by omega, hm, fun s hs => ?_⟩
    · rw [hlen] at hi
      have hc := hcell i (by omega)
      obtain ⟨b, off, spot⟩ := x
      have h0 := hcell 0 (by omega)
      have hspot : spot = none := by simpa [Addr.add] using World.cell?_spot h0
      subst hspot
      rw [addr_add] at hc
      have e : zs.getD i ByteArray.empty = (zs.take l)[i] := by
        rw [List.getElem_take, List.getD_eq_getElem?_getD, List.getElem?_eq_getElem (by omega)]; rfl
      refine ⟨b, off, rfl, block_of_cell hc, by rw [← e]; exact hc, ?_⟩
      have := hsz _ (List.getElem_mem (l := zs.take l) (by omega) |> List.mem_of_mem_take)
      simpa [maxLen] using this
    · subst hy
      have h1 : DataW.lit (H := H) (.string s.data.toList) ∈ strs (H := H) (zs.take l) := List.mem_map_of_mem (f := fun s : ByteArray => (DataW.lit (.string s.data.toList) : DataW H)) hs
      have h2 := bulk_part h1
      rw [bulk_str] at h2
      have h3 : s.data.toList.length = s.size := rfl
      simp only [Rows.uptoBulk]
      omega
theorem gram_of_trod_b {r : Reach} {b0 : Nat} {v : Value} {d : DataW H} {p : List MemPlace} (hv : Value.okWide Try.prog W r b0 25 v) (h : DataW.Trod enc Try.prog W 0 (fun _ => true) true 25 v d p) (hd : Rows.uptoBulk d ≤ 1048576) :
    ∃ g : GramD, v = GV g ∧ GramAt W W.heap.size g ∧ Brief g ∧ ∀ i (h : i < g.rules.length), ∀ x ∈ g.rules[i].right, (Lit.int .i64 x).wf = true := by
  obtain ⟨v0, v1, v2, y0, y1, y2, n, rfl, hd2, hp2, h0, h1, h2⟩ := open_agg3 Try.underlying25 (by kernel_rfl) (by kernel_rfl) hv h
  obtain ⟨ta, ts, tc, e0, hs0, hl0, hm0, hb0⟩ := strs_of_trod_b h0
  obtain ⟨va, vs, vc, e1, hs1, hl1, hm1, hb1⟩ := strs_of_trod_b h1
  obtain ⟨ra, rs, rc, e2, hs2, hl2, hm2, hn⟩ := rules_of_trod h2
  simp only [List.cons.injEq, and_true] at e0 e1 e2
  subst e0 e1 e2
  simp only [maxLen] at hm0 hm1 hm2
  subst hd2
  simp only [Rows.uptoBulk, Rows.uptoBulkAll] at hd
  refine ⟨⟨ta, ts, tc, va, vs, vc, ra, rs, rc⟩, rfl, ⟨hs0, hs1, hs2, by simp only; omega, by simp only; omega, by simp only; omega, fun i h => (hn i h).1⟩, ⟨fun i h => ?_, fun i h => ?_⟩, fun i h => (hn i h).2⟩
  · have := hb0 _ (List.getElem_mem h)
    simp only at this ⊢
    omega
  · have := hb1 _ (List.getElem_mem h)
    simp only at this ⊢
    omega
end
theorem nt_val {x : Int} (h : -9223372036854775808 ≤ x ∧ x ≤ 9223372036854775807) : nt x = -x - 1 := by
  have e : nt x = IntKind.i64.wrap ((BitVec.ofInt 64 (-1) ^^^ BitVec.ofInt 64 x).toNat : Int) := rfl
  rw [e, show (BitVec.ofInt 64 (-1)) = BitVec.allOnes 64 by decide, BitVec.allOnes_xor, BitVec.toNat_not, IntKind.wrap_i64]
  simp only [BitVec.toNat_ofInt]
  omega
/-- A valid tree of a right grammar has names everywhere. -/
theorem valid_named {g : GramD} (hok : GramOk g) (hwf : ∀ i (h : i < g.rules.length), ∀ x ∈ g.rules[i].right, (Lit.int .i64 x).wf = true) (t : PT) (hv : t.valid g = true) (hs : SymOk g t.sym) : t.named g := by
  induction t using PT.ind with | h s r kids ih => ?_
  refine ⟨hs, namedL_iff.2 fun k hk => ?_⟩
  by_cases h0 : 0 ≤ s
  · obtain ⟨rn, rfl, hrn, _, hsy, hkv⟩ := valid_var hv h0
    refine ih k hk (hkv k hk) ?_
    have hm : k.sym ∈ g.rules[rn].right := by rw [← hsy]; exact List.mem_map_of_mem hk
    obtain ⟨j, hj, he⟩ := List.getElem_of_mem hm
    have h1 := (hok rn hrn).2.1 j hj
    rw [he] at h1
    have h2 := hwf rn hrn _ hm
    have h3 : -9223372036854775808 ≤ k.sym ∧ k.sym ≤ 9223372036854775807 := by simpa [Lit.wf, IntKind.min, IntKind.max, IntKind.signed, IntKind.bits] using h2
    refine ⟨h1.1, fun hn => ⟨?_, h1.2 hn⟩⟩
    rw [nt_val h3]
    omega
  · obtain ⟨_, _, rfl⟩ := valid_leaf hv (by omega)
    cases hk
theorem same_of {g : GramD} {t u : PT} (ht : t.valid g = true) (hu : u.valid g = true) (hs : t.sym = u.sym) : eqb t u = decide (t.rules = u.rules) ∧ eqb u t = decide (t.rules = u.rules) := by
  by_cases h : t.rules = u.rules
  · have e := (tree_unique t u [] [] ht hu hs (by rw [h])).1
    subst e
    rw [decide_eq_true rfl, eqb_true rfl]
    exact ⟨rfl, rfl⟩
  · rw [decide_eq_false h, eqb_false (fun e => h (by rw [e])), eqb_false (fun e => h (by rw [e]))]
    exact ⟨rfl, rfl⟩
end Go.Proofs.Ytfiafmhnmafnbaa
