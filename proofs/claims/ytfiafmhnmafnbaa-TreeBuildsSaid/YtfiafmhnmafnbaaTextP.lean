/- A tree's text: plain. -/
import Derived.Test.YtfiafmhnmafnbaaJoin
namespace Go.Proofs.Ytfiafmhnmafnbaa
open Go.RowKit Go.Shelf
mutual
def _root_.Go.PT.text (g : GramD) : PT → List UInt8
  | .node s _ kids => if 0 ≤ s then 40 :: ((nameS g s).data.toList ++ (PT.textL g kids ++ [41])) else (nameS g s).data.toList
def _root_.Go.PT.textL (g : GramD) : List PT → List UInt8
  | [] => []
  | k :: ks => 32 :: (k.text g ++ PT.textL g ks)
end
mutual
def _root_.Go.PT.named (g : GramD) : PT → Prop
  | .node s _ kids => SymOk g s ∧ PT.namedL g kids
def _root_.Go.PT.namedL (g : GramD) : List PT → Prop
  | [] => True
  | k :: ks => k.named g ∧ PT.namedL g ks
end
theorem namedL_iff {g : GramD} {ks : List PT} : PT.namedL g ks ↔ ∀ k ∈ ks, k.named g := by
  induction ks with
  | nil => simp [PT.namedL]
  | cons k ks ih => simp [PT.namedL, ih]
def strOf (l : List UInt8) : ByteArray := ⟨l.toArray⟩
theorem app_list (a b : ByteArray) : ByteArray.append a b = strOf (a.data.toList ++ b.data.toList) := by
  have h : (ByteArray.append a b).data = a.data ++ b.data := ByteArray.data_append
  have h2 : ByteArray.append a b = ⟨a.data ++ b.data⟩ := by rw [← h]
  rw [h2]
  unfold strOf
  congr 1
  apply Array.ext'
  simp
theorem name_len {g : GramD} (hb : Brief g) {s : Int} : (nameS g s).data.toList.length ≤ 1048578 := by
  unfold nameS
  split
  · by_cases h : s.toNat < g.vars.length
    · rw [List.getElem?_eq_getElem h]
      have := hb.2 _ h
      simpa using Nat.le_trans this (by omega)
    · rw [List.getElem?_eq_none (by omega)]; simp
  · by_cases h : (nt s).toNat < g.terms.length
    · rw [List.getElem?_eq_getElem h]
      have h1 := hb.1 _ h
      have h2 : (g.terms[(nt s).toNat]).size = (g.terms[(nt s).toNat]).data.toList.length := rfl
      unfold quoteS
      rw [app_list, app_list]
      simp only [Option.getD_some, strOf, List.length_append, List.length_cons, List.length_nil]
      omega
    · rw [List.getElem?_eq_none (by omega)]
      unfold quoteS
      rw [app_list, app_list]
      simp only [Option.getD_none, strOf, List.length_append, List.length_cons, List.length_nil]
      omega
theorem text_len {g : GramD} (hb : Brief g) (t : PT) : (t.text g).length + 1 ≤ t.size * 1048582 := by
  induction t using PT.ind with | h s r kids ih => ?_
  have h1 := name_len hb (s := s)
  have h2 : (PT.textL g kids).length ≤ PT.sizeL kids * 1048582 := by
    clear h1
    induction kids with
    | nil => simp [PT.textL, PT.sizeL]
    | cons k ks ih2 =>
      have h3 := ih k (by simp)
      have h4 := ih2 (fun x hx => ih x (by simp [hx]))
      simp only [PT.textL, PT.sizeL, List.length_cons, List.length_append, Nat.add_mul]
      omega
  rw [PT.text, PT.size, Nat.add_mul]
  split
  · simp only [List.length_cons, List.length_append, List.length_nil]
    omega
  · omega
theorem joinTail_text {g : GramD} (ks : List PT) : Lib.joinTail [32] (ks.map (PT.text g)) = PT.textL g ks := by
  induction ks with
  | nil => rfl
  | cons k ks ih =>
    have : Lib.joinTail [32] ((k :: ks).map (PT.text g)) = [32] ++ k.text g ++ Lib.joinTail [32] (ks.map (PT.text g)) := by simp [Lib.joinTail]
    rw [this, ih, PT.textL]
    simp
end Go.Proofs.Ytfiafmhnmafnbaa
