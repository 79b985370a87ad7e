/- Symbols behind a form, in plain lists. -/
import Derived.Test.YtekdciigiogjkaaParts0
namespace Go.Proofs.Ytekdciigiogjkaa
open Go.RowKit
theorem firstV_append {a : List Int} (b : List Int) (h : firstV a < a.length) : firstV (a ++ b) = firstV a := by
  unfold firstV at h ⊢
  rw [List.findIdx_append, if_pos h]
theorem stepS_behind (g : GramD) (fm b : List Int) (r : Int) (h : (stepS g fm r).2 = 0) : stepS g (fm ++ b) r = ((stepS g fm r).1 ++ b, 0) := by
  unfold stepS at h ⊢
  split
  · rename_i h1; rw [if_pos h1] at h; simp at h
  · rename_i h1
    rw [if_neg h1] at h
    by_cases h2 : firstV fm < fm.length ∧ r.toNat < g.rules.length
    · rw [dif_pos h2] at h ⊢
      have hf := firstV_append b h2.1
      have h3 : firstV (fm ++ b) < (fm ++ b).length ∧ r.toNat < g.rules.length := ⟨by rw [hf, List.length_append]; omega, h2.2⟩
      rw [dif_pos h3]
      have he : (fm ++ b)[firstV (fm ++ b)]'h3.1 = fm[firstV fm]'h2.1 := by
        simp only [hf]
        rw [List.getElem_append_left h2.1]
      rw [he]
      by_cases h4 : fm[firstV fm]'h2.1 = (g.rules[r.toNat]'h2.2).left
      · rw [if_pos h4, if_pos h4, hf, List.take_append_of_le_length (by omega), List.drop_append_of_le_length (by omega)]
        simp
      · rw [if_neg h4] at h; simp at h
    · rw [dif_neg h2] at h; simp at h
theorem repS_behind (g : GramD) (b : List Int) : ∀ (rs fm : List Int) (k : Nat), (repS g fm k rs).2.2 = 0 → repS g (fm ++ b) k rs = ((repS g fm k rs).1 ++ b, 0, 0)
  | [], fm, k => fun _ => rfl
  | r :: rs, fm, k => by
    have e1 : repS g fm k (r :: rs) = if (stepS g fm r).2 = 0 then repS g (stepS g fm r).1 (k + 1) rs else ([], k, (stepS g fm r).2) := rfl
    have e2 : repS g (fm ++ b) k (r :: rs) = if (stepS g (fm ++ b) r).2 = 0 then repS g (stepS g (fm ++ b) r).1 (k + 1) rs else ([], k, (stepS g (fm ++ b) r).2) := rfl
    rw [e1, e2]
    by_cases h : (stepS g fm r).2 = 0
    · rw [if_pos h, stepS_behind g fm b r h, if_pos rfl]
      exact repS_behind g b rs _ _
    · rw [if_neg h]; intro h2; exact (h h2).elim
/-- Numbers that an int holds. -/
def InR (xs : List Int) : Prop := ∀ x ∈ xs, -9223372036854775808 ≤ x ∧ x ≤ 9223372036854775807
def GramR (g : GramD) : Prop := ∀ i (h : i < g.rules.length), InR g.rules[i].right
theorem inR_of {xs : List Int} (h : ∀ x ∈ xs, (Lit.int .i64 x).wf = true) : InR xs := fun x hx => by
  have := h x hx
  have e1 : IntKind.i64.min = -9223372036854775808 := rfl
  have e2 : IntKind.i64.max = 9223372036854775807 := rfl
  simp [Lit.wf, e1, e2] at this
  exact this
theorem stepS_inr {g : GramD} (hg : GramR g) {fm : List Int} (h : InR fm) (r : Int) : InR (stepS g fm r).1 := by
  unfold stepS
  split
  · exact fun x hx => by simp at hx
  · split
    · rename_i h2
      split
      · intro x hx
        simp only [List.mem_append] at hx
        rcases hx with (hx | hx) | hx
        · exact h x (List.mem_of_mem_take hx)
        · exact hg _ h2.2 x hx
        · exact h x (List.mem_of_mem_drop hx)
      · exact fun x hx => by simp at hx
    · exact fun x hx => by simp at hx
theorem repS_inr {g : GramD} (hg : GramR g) : ∀ (rs fm : List Int) (k : Nat), InR fm → InR (repS g fm k rs).1
  | [], fm, k, h => h
  | r :: rs, fm, k, h => by
    have e1 : repS g fm k (r :: rs) = if (stepS g fm r).2 = 0 then repS g (stepS g fm r).1 (k + 1) rs else ([], k, (stepS g fm r).2) := rfl
    rw [e1]
    split
    · exact repS_inr hg rs _ _ (stepS_inr hg h r)
    · exact fun x hx => by simp at hx
theorem nt_val {x : Int} (h : -9223372036854775808 ≤ x ∧ x ≤ 9223372036854775807) : nt x = -x - 1 := by
  have e : nt x = IntKind.i64.wrap ((BitVec.ofInt 64 (-1) ^^^ BitVec.ofInt 64 x).toNat : Int) := rfl
  rw [e, show (BitVec.ofInt 64 (-1)) = BitVec.allOnes 64 by decide, BitVec.allOnes_xor, BitVec.toNat_not, IntKind.wrap_i64]
  simp only [BitVec.toNat_ofInt]
  omega
theorem nt_nt {x : Int} (h : -9223372036854775808 ≤ x ∧ x ≤ 9223372036854775807) : nt (nt x) = x := by
  rw [nt_val h, nt_val (by omega)]
  omega
/-- What a word that is there tells. -/
theorem yieldS_ok {g : GramD} {form rules : List Int} (h : (yieldS g form rules).2 = 0) : ∃ fm, repS g form 0 rules = (fm, 0, 0) ∧ yieldS g form rules = (fm.map nt, 0) := by
  unfold yieldS at h ⊢
  split
  · rename_i h1; rw [if_pos h1] at h; exact (h1 h).elim
  · rename_i h1
    rw [if_neg h1] at h
    split
    · rename_i h2; rw [if_pos h2] at h; simp at h
    · rename_i h2
      have h3 : (repS g form 0 rules).2.2 = 0 := by simpa using h1
      refine ⟨(repS g form 0 rules).1, ?_, ?_⟩
      · have := repS_ok g rules form 0 h3
        generalize repS g form 0 rules = r at *
        obtain ⟨a, b, c⟩ := r
        simp only at this h3 ⊢
        rw [this, h3]
      · unfold leadL
        rw [List.take_of_length_le (by omega)]
theorem yieldS_err {g : GramD} {form rules : List Int} (h : (yieldS g form rules).2 ≠ 0) : (yieldS g form rules).1 = [] := by
  unfold yieldS at h ⊢
  split
  · rfl
  · rename_i h1
    rw [if_neg h1] at h
    split
    · rfl
    · rename_i h2; rw [if_neg h2] at h; exact (h rfl).elim
end Go.Proofs.Ytekdciigiogjkaa
