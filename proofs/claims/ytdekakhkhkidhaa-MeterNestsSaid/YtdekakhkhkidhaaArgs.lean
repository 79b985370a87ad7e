/- How a list that came in is read; the reference's answer as four results. -/
import Derived.Test.YtdekakhkhkidhaaRef
namespace Go.Proofs.Ytdekakhkhkidhaa
open Go.RowKit
theorem addr_add (b off i : Nat) : (⟨b, off, none⟩ : Addr).add i = ⟨b, off + i, none⟩ := by unfold Addr.add; split <;> simp_all
theorem block_of_cell {w : World} {b off : Nat} {s : Option Nat} {v : Value} (h : w.cell? ⟨b, off, s⟩ = some v) : b < w.heap.size := by
  unfold World.cell? at h
  rcases Nat.lt_or_ge b w.heap.size with h' | h'
  · exact h'
  · simp only [Array.getElem?_eq_none h'] at h
    simp at h
/-- A slice of numbers that came in: nil, or a row of cap cells. -/
def IsRow (k : IntKind) (w : World) (a : Option Addr) (len cap : Nat) (zs : List Int) : Prop :=
  (a = none ∧ len = 0 ∧ cap = 0 ∧ zs = []) ∨
  ∃ x, a = some x ∧ len ≤ cap ∧ cap ≤ maxLen ∧ zs.length = cap ∧ (∀ i, i < zs.length → w.cell? (x.add i) = some (.int k (zs.getD i 0))) ∧ ∀ n ∈ zs, (Lit.int k n).wf = true
theorem isRow_le {k : IntKind} {w : World} {a : Option Addr} {len cap : Nat} {zs : List Int} (h : IsRow k w a len cap zs) : len ≤ 9223372036854775807 := by
  rcases h with ⟨_, rfl, _, _⟩ | ⟨_, _, h, h2, _⟩
  · omega
  · unfold maxLen at h2; omega
theorem isRow_ints {w : World} {a : Option Addr} {len cap : Nat} {zs : List Int} (h : IsRow .i64 w a len cap zs) :
    (zs.take len).length = len ∧ Ints w w.heap.size a (zs.take len) := by
  rcases h with ⟨rfl, rfl, rfl, rfl⟩ | ⟨x, rfl, hl, hm, hz, hcell, _⟩
  · exact ⟨rfl, fun i hi => by simp at hi⟩
  · have hlen : (zs.take len).length = len := by simp; omega
    refine ⟨hlen, fun i hi => ?_⟩
    rw [hlen] at hi
    have hc := hcell i (by omega)
    obtain ⟨b, off, spot⟩ := x
    have h0 := hcell 0 (by omega)
    have hspot : spot = none := by simpa [Addr.add] using World.cell?_spot h0
    subst hspot
    rw [addr_add] at hc
    refine ⟨b, off, rfl, block_of_cell hc, ?_⟩
    have : zs.getD i 0 = (zs.take len)[i] := by
      rw [List.getElem_take, List.getD_eq_getElem?_getD, List.getElem?_eq_getElem (by omega)]; rfl
    rw [← this]
    exact hc

def finL (l : Int) (xs : List Int) : Int := if did l xs = xs.length then l - sumN xs else 0
def finS (l : Int) (xs : List Int) : Int := if did l xs = xs.length then sumN xs else l
theorem refRun_eq (l : Int) (xs : List Int) : refRun l xs = .tuple #[.int .i64 (finL l xs), .int .i64 (finS l xs), .int .i64 (did l xs : Nat), .bool (decide (did l xs = xs.length))] := by
  unfold refRun finL finS
  split
  · rename_i h; rw [h]; simp
  · rename_i h; simp [h]

theorem c15' {B : Nat} {l : Int} {a : Option Addr} {cap : Nat} {xs : List Int} {w : World} (hl0 : 0 ≤ l) (hl : l ≤ 1000000) (hx : Ints w B a xs) (hlen : xs.length ≤ 100) :
    Calls Try.prog 15 #[.int .i64 l, .slice a xs.length cap] w fun e w' => e = .returned (.tuple #[.int .i64 (finL l xs), .int .i64 (finS l xs), .int .i64 (did l xs : Nat), .bool (decide (did l xs = xs.length))]) ∧ w' = w :=
  (c15 hl0 hl hx hlen).mono (fun _ _ h => ⟨by rw [← refRun_eq]; exact h.1, h.2.symm⟩)

end Go.Proofs.Ytdekakhkhkidhaa
