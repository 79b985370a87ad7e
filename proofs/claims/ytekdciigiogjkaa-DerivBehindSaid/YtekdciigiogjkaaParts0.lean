/- Derivations in two parts, in plain lists; a list cut in two, in memory. -/
import Derived.Test.YtekdciigiogjkaaFrame
namespace Go.Proofs.Ytekdciigiogjkaa
open Go.RowKit
theorem repS_shift (g : GramD) : ∀ (rs fm : List Int) (c k : Nat), repS g fm (c + k) rs = ((repS g fm k rs).1, if (repS g fm k rs).2.2 = 0 then 0 else c + (repS g fm k rs).2.1, (repS g fm k rs).2.2)
  | [], fm, c, k => by simp [repS]
  | r :: rs, fm, c, k => by
    unfold repS
    by_cases h : (stepS g fm r).2 = 0
    · rw [if_pos h, if_pos h]
      exact repS_shift g rs _ c (k + 1)
    · rw [if_neg h, if_neg h]
      simp [h]
theorem repS_ok (g : GramD) : ∀ (rs fm : List Int) (k : Nat), (repS g fm k rs).2.2 = 0 → (repS g fm k rs).2.1 = 0
  | [], fm, k => by simp [repS]
  | r :: rs, fm, k => by
    unfold repS
    by_cases h : (stepS g fm r).2 = 0
    · rw [if_pos h]; exact repS_ok g rs _ _
    · rw [if_neg h]; intro h2; exact (h h2).elim
theorem repS_at (g : GramD) : ∀ (rs fm : List Int) (k : Nat), (repS g fm k rs).2.1 ≤ k + rs.length
  | [], fm, k => by simp [repS]
  | r :: rs, fm, k => by
    unfold repS
    by_cases h : (stepS g fm r).2 = 0
    · rw [if_pos h]
      have := repS_at g rs (stepS g fm r).1 (k + 1)
      simp only [List.length_cons]
      omega
    · rw [if_neg h]; simp only [List.length_cons]; omega
theorem cut_range (cut : Int) (n : Nat) (hn : n ≤ 60) : ∃ c : Nat, (bits BinOp.and IntKind.i64 cut 255).tmod ((n : Int) + 1) = (c : Int) ∧ c ≤ n := by
  have h0 : 0 ≤ bits .and .i64 cut 255 ∧ bits .and .i64 cut 255 ≤ 255 := by
    have h : bits .and .i64 cut 255 = IntKind.i64.wrap ((BitVec.ofInt 64 cut &&& BitVec.ofInt 64 255).toNat : Int) := rfl
    rw [h, BitVec.toNat_and]
    have hx : (BitVec.ofInt 64 cut).toNat &&& (BitVec.ofInt 64 255).toNat ≤ 255 := Nat.and_le_right
    rw [IntKind.wrap_i64]
    omega
  refine ⟨((bits BinOp.and IntKind.i64 cut 255).tmod ((n : Int) + 1)).toNat, ?_, ?_⟩
  · have := Int.tmod_nonneg ((n : Int) + 1) h0.1
    omega
  · have := Int.tmod_lt_of_pos (bits BinOp.and IntKind.i64 cut 255) (show (0 : Int) < (n : Int) + 1 by omega)
    omega
theorem repS_none (g : GramD) : ∀ (rs fm : List Int) (k : Nat), (repS g fm k rs).2.2 ≠ 0 → (repS g fm k rs).1 = []
  | [], fm, k => by simp [repS]
  | r :: rs, fm, k => by
    unfold repS
    by_cases h : (stepS g fm r).2 = 0
    · rw [if_pos h]; exact repS_none g rs _ _
    · rw [if_neg h]; intro _; rfl
theorem repS_append (g : GramD) : ∀ (xs ys fm : List Int) (k : Nat), repS g fm k (xs ++ ys) = if (repS g fm k xs).2.2 = 0 then repS g (repS g fm k xs).1 (k + xs.length) ys else repS g fm k xs
  | [], ys, fm, k => by simp [repS]
  | r :: xs, ys, fm, k => by
    rw [List.cons_append]
    have e1 : repS g fm k (r :: (xs ++ ys)) = if (stepS g fm r).2 = 0 then repS g (stepS g fm r).1 (k + 1) (xs ++ ys) else ([], k, (stepS g fm r).2) := rfl
    have e2 : repS g fm k (r :: xs) = if (stepS g fm r).2 = 0 then repS g (stepS g fm r).1 (k + 1) xs else ([], k, (stepS g fm r).2) := rfl
    rw [e1, e2]
    by_cases h : (stepS g fm r).2 = 0
    · rw [if_pos h, if_pos h, repS_append g xs ys _ (k + 1), List.length_cons, show k + 1 + xs.length = k + (xs.length + 1) by omega]
    · rw [if_neg h, if_neg h, if_neg h]
theorem repS_cut (g : GramD) (fm rules : List Int) (c : Nat) (hc : c ≤ rules.length) :
    repS g fm 0 rules = if (repS g fm 0 (rules.take c)).2.2 = 0 then
      ((repS g (repS g fm 0 (rules.take c)).1 0 (rules.drop c)).1, (if (repS g (repS g fm 0 (rules.take c)).1 0 (rules.drop c)).2.2 = 0 then 0 else c + (repS g (repS g fm 0 (rules.take c)).1 0 (rules.drop c)).2.1), (repS g (repS g fm 0 (rules.take c)).1 0 (rules.drop c)).2.2)
    else repS g fm 0 (rules.take c) := by
  have h := repS_append g (rules.take c) (rules.drop c) fm 0
  rw [List.take_append_drop] at h
  rw [h]
  have hl : (rules.take c).length = c := by simp; omega
  rw [hl, Nat.zero_add, ← repS_shift]
  rfl
/-- The beginning's terminals stay. -/
theorem stepS_lead (g : GramD) (fm : List Int) (r : Int) (h : (stepS g fm r).2 = 0) : firstV fm ≤ firstV (stepS g fm r).1 ∧ (stepS g fm r).1.take (firstV fm) = fm.take (firstV fm) := by
  unfold stepS at h ⊢
  split
  · rename_i h1; rw [if_pos h1] at h; simp at h
  · rename_i h1
    rw [if_neg h1] at h
    split
    · rename_i h2
      rw [dif_pos h2] at h
      split
      · rename_i h3
        have hl : (fm.take (firstV fm)).length = firstV fm := by simp; omega
        simp only [List.append_assoc]
        rw [firstV_behind _ _ (head_terms fm), hl]
        refine ⟨by omega, ?_⟩
        rw [List.take_append_of_le_length (by omega), List.take_take, Nat.min_self]
      · rename_i h3; rw [if_neg h3] at h; simp at h
    · rename_i h2; rw [dif_neg h2] at h; simp at h
theorem repS_lead (g : GramD) : ∀ (rs fm : List Int) (k : Nat), (repS g fm k rs).2.2 = 0 → firstV fm ≤ firstV (repS g fm k rs).1 ∧ (repS g fm k rs).1.take (firstV fm) = fm.take (firstV fm)
  | [], fm, k => by simp [repS]
  | r :: rs, fm, k => by
    unfold repS
    by_cases h : (stepS g fm r).2 = 0
    · rw [if_pos h]
      intro h2
      obtain ⟨h3, h4⟩ := stepS_lead g fm r h
      obtain ⟨h5, h6⟩ := repS_lead g rs _ _ h2
      refine ⟨Nat.le_trans h3 h5, ?_⟩
      have := congrArg (List.take (firstV fm)) h6
      rw [List.take_take, List.take_take, Nat.min_eq_left h3, h4] at this
      exact this
    · rw [if_neg h]; intro h2; exact (h h2).elim
theorem leadL_len (fm : List Int) : (leadL fm).length = firstV fm := by
  unfold leadL
  have := List.findIdx_le_length (p := isv) (xs := fm)
  simp only [List.length_map, List.length_take]
  exact Nat.min_eq_left this
theorem leadL_part {g : GramD} {rs fm : List Int} {k : Nat} (h : (repS g fm k rs).2.2 = 0) : (leadL fm).length ≤ (leadL (repS g fm k rs).1).length ∧ leadL fm = (leadL (repS g fm k rs).1).take (leadL fm).length := by
  obtain ⟨h1, h2⟩ := repS_lead g rs fm k h
  refine ⟨by rw [leadL_len, leadL_len]; exact h1, ?_⟩
  rw [leadL_len]
  unfold leadL
  rw [← List.map_take, List.take_take, Nat.min_eq_left h1, h2]
theorem stepS_long (g : GramD) (fm : List Int) (rule : Int) (h : (stepS g fm rule).2 = 0) : ∃ r : Nat, ∃ h : r < g.rules.length, rule = (r : Int) ∧ (stepS g fm rule).1.length + 1 = fm.length + (g.rules[r]'h).right.length := by
  unfold stepS at h ⊢
  split
  · rename_i h1; rw [if_pos h1] at h; simp at h
  · rename_i h1
    rw [if_neg h1] at h
    split
    · rename_i h2
      rw [dif_pos h2] at h
      split
      · rename_i h3
        refine ⟨rule.toNat, h2.2, by omega, ?_⟩
        simp only [List.length_append, List.length_take, List.length_drop]
        omega
      · rename_i h3; rw [if_neg h3] at h; simp at h
    · rename_i h2; rw [dif_neg h2] at h; simp at h
theorem slice_l (W : World) (a : Option Addr) (len cap c : Nat) (h : c ≤ len) :
    (Instr.slice 26 (.slice a len cap) (some (.int .i64 (c : Int))) none none).run Try.prog W = .ok (.slice (if cap = c then a else a.map (fun x => x.add c)) (len - c) (cap - c)) W := by
  have hz : (Go.sizeOf 3).run Try.prog W = .ok 1 W := rfl
  have he : Try.prog.elem 26 = 3 := by simp [Program.elem, Try.underlying26]
  rw [run_slice_l W 26 _ _ _ (by simp [Program.elem, Try.underlying26]) .i64 _ (by omega) (by omega), he, hz]
  simp [Result.andThen, sliced]
theorem slice_h (W : World) (a : Option Addr) (len cap c : Nat) (h : c ≤ cap) :
    (Instr.slice 26 (.slice a len cap) none (some (.int .i64 (c : Int))) none).run Try.prog W = .ok (.slice a c cap) W := by
  have hz : (Go.sizeOf 3).run Try.prog W = .ok 1 W := rfl
  have he : Try.prog.elem 26 = 3 := by simp [Program.elem, Try.underlying26]
  rw [run_slice_h W 26 _ _ _ (by simp [Program.elem, Try.underlying26]) .i64 _ (by omega) (by omega), he, hz]
  simp [Result.andThen, sliced, Addr.add]
theorem Lst.take {w : World} {a : Option Addr} {xs : List Int} (h : Lst w a xs) (c : Nat) : Lst w a (xs.take c) := fun i hi => by
  have h1 : i < xs.length := by simp at hi; omega
  obtain ⟨b, off, ha, hb, hc⟩ := h i h1
  exact ⟨b, off, ha, hb, by rw [List.getElem_take]; exact hc⟩
theorem Lst.drop {w : World} {a : Option Addr} {xs : List Int} (h : Lst w a xs) {cap : Nat} (hl : xs.length ≤ cap) (c : Nat) : Lst w (if cap = c then a else a.map (fun x => x.add c)) (xs.drop c) := fun i hi => by
  have h1 : c + i < xs.length := by simp at hi; omega
  obtain ⟨b, off, ha, hb, hc⟩ := h (c + i) h1
  rw [if_neg (by omega)]
  subst ha
  exact ⟨b, off + c, by rw [Option.map_some, addr_add], hb, by rw [List.getElem_drop, Nat.add_assoc]; exact hc⟩
end Go.Proofs.Ytekdciigiogjkaa
