/- The weight of a text: the reference's Read. -/
import Derived.Test.YticdihfjnmjkmaaRefP
namespace Go.Proofs.Yticdihfjnmjkmaa
open Go.RowKit
theorem trim_yes {s : ByteArray} (h : 0 < s.size) (hb : (s[0]?.map fun c => (c.toNat : Int)) = some 45) : Lib.hasPrefix s.data.toList [45] = true ∧ bOf (Lib.trimPrefix s.data.toList [45]) = s.extract 1 s.size := by
  have h1 : Lib.hasPrefix s.data.toList [45] = true := by
    have hf := first_at s
    rw [getElem?_pos s 0 h] at hb hf
    have hc : s[0] = 45 := by
      rw [← UInt8.toNat_inj]
      simp at hb
      have : ((45 : UInt8).toNat) = 45 := by decide
      omega
    rw [hc] at hf
    cases hl : s.data.toList with
    | nil => rw [hl] at hf; cases hf
    | cons a r =>
      rw [hl] at hf
      injection hf with hf
      subst hf
      rfl
  refine ⟨h1, ?_⟩
  unfold Lib.trimPrefix
  rw [if_pos h1, ext_drop]
  rfl
theorem trim_no {s : ByteArray} (hb : 0 < s.size → ((s[0]?.map fun c => (c.toNat : Int)) ≠ some 45)) : Lib.hasPrefix s.data.toList [45] = false ∧ bOf (Lib.trimPrefix s.data.toList [45]) = s := by
  have h1 : Lib.hasPrefix s.data.toList [45] = false := by
    cases hl : s.data.toList with
    | nil => rfl
    | cons a r =>
      have hsz : 0 < s.size := by rw [← size_len, hl]; simp
      have hf := first_at s
      rw [hl] at hf
      have h2 := hb hsz
      rw [← hf] at h2
      have h3 : a ≠ 45 := by
        rintro rfl
        exact h2 (by rfl)
      unfold Lib.hasPrefix
      show ([45].isPrefixOf (a :: r)) = false
      simp [List.isPrefixOf, h3.symm]
  refine ⟨h1, ?_⟩
  unfold Lib.trimPrefix
  rw [if_neg (by rw [h1]; decide)]
  exact bOf_self s
theorem parts_all (s : ByteArray) (hs : s.size ≤ 9223372036854775807) (w : World) : Calls Try.prog 61 #[.string s] w fun e w' => e = .returned (pVal (Lib.hasPrefix s.data.toList [45]) (if okP (cutL (Lib.trimPrefix s.data.toList [45])).1 (cutL (Lib.trimPrefix s.data.toList [45])).2.1 (cutL (Lib.trimPrefix s.data.toList [45])).2.2 = true then some ((cutL (Lib.trimPrefix s.data.toList [45])).1, (cutL (Lib.trimPrefix s.data.toList [45])).2.1) else none)) ∧ Below w.heap.size w w' := by
  rw [← refP_okP]
  by_cases h : 0 < s.size ∧ (s[0]?.map fun c => (c.toNat : Int)) = some 45
  · obtain ⟨h1, h2⟩ := trim_yes h.1 h.2
    rw [h1]
    have := parts_any s (bOf (Lib.trimPrefix s.data.toList [45])) hs true (fun _ => ⟨h.1, h.2, h2⟩) (fun h => by cases h) w
    rw [bOf_list] at this
    exact this
  · have hb : 0 < s.size → ((s[0]?.map fun c => (c.toNat : Int)) ≠ some 45) := fun h1 h2 => h ⟨h1, h2⟩
    obtain ⟨h1, h2⟩ := trim_no hb
    rw [h1]
    have := parts_any s (bOf (Lib.trimPrefix s.data.toList [45])) hs false (fun h => by cases h) (fun _ => ⟨hb, h2⟩) w
    rw [bOf_list] at this
    exact this
end Go.Proofs.Yticdihfjnmjkmaa
