/- Plain laws on spending, one by one: no program in sight. -/
namespace Go.Proofs.Ytdekakhkhkidhaa
def nn (n : Int) : Int := if n < 0 then 0 else n
theorem nn_nonneg (n : Int) : 0 ≤ nn n := by unfold nn; split <;> omega
theorem nn_of (n : Int) (h : 0 ≤ n) : nn n = n := by unfold nn; split <;> omega
def sumN (ys : List Int) : Int := (ys.map nn).sum
theorem sumN_nil : sumN [] = 0 := rfl
theorem sumN_cons (y : Int) (ys : List Int) : sumN (y :: ys) = nn y + sumN ys := by simp [sumN]
theorem sumN_nonneg : ∀ ys : List Int, 0 ≤ sumN ys
  | [] => by simp [sumN]
  | y :: ys => by have := sumN_nonneg ys; have := nn_nonneg y; rw [sumN_cons]; omega
theorem sumN_append (a b : List Int) : sumN (a ++ b) = sumN a + sumN b := by simp [sumN, List.sum_append]
theorem sumN_take_succ (ys : List Int) (k : Nat) (h : k < ys.length) : sumN (ys.take (k + 1)) = sumN (ys.take k) + nn ys[k] := by
  rw [List.take_succ_eq_append_getElem h, sumN_append, sumN_cons, sumN_nil]; omega
/-- How many are done. -/
def did : Int → List Int → Nat
  | _, [] => 0
  | l, y :: ys => if nn y ≤ l then did (l - nn y) ys + 1 else 0
theorem did_le : ∀ (l : Int) (ys : List Int), did l ys ≤ ys.length
  | _, [] => by simp [did]
  | l, y :: ys => by
    unfold did
    split
    · have := did_le (l - nn y) ys; simp; omega
    · simp
theorem did_pre : ∀ (ys : List Int) (l : Int) (k : Nat), 0 ≤ l → k ≤ did l ys → sumN (ys.take k) ≤ l
  | [], l, k, h, _ => by simpa [sumN] using h
  | y :: ys, l, 0, h, _ => by simpa [sumN] using h
  | y :: ys, l, k + 1, h, hk => by
    unfold did at hk
    split at hk
    · rename_i hy
      have := did_pre ys (l - nn y) k (by omega) (by omega)
      rw [List.take_succ_cons, sumN_cons]; omega
    · omega
theorem did_yes : ∀ (ys : List Int) (l : Int) (k : Nat) (hk : k < ys.length), k < did l ys → nn ys[k] ≤ l - sumN (ys.take k)
  | y :: ys, l, 0, _, h => by
    unfold did at h
    split at h
    · simpa [sumN] using by assumption
    · omega
  | y :: ys, l, k + 1, hk, h => by
    unfold did at h
    split at h
    · have := did_yes ys (l - nn y) k (by simpa using hk) (by omega)
      rw [List.take_succ_cons, sumN_cons]; simp only [List.getElem_cons_succ]; omega
    · omega
theorem did_no : ∀ (ys : List Int) (l : Int) (k : Nat) (hk : k < ys.length), k = did l ys → l - sumN (ys.take k) < nn ys[k]
  | y :: ys, l, 0, _, h => by
    unfold did at h
    split at h
    · omega
    · simp [sumN]; omega
  | y :: ys, l, k + 1, hk, h => by
    unfold did at h
    split at h
    · have := did_no ys (l - nn y) k (by simpa using hk) (by omega)
      rw [List.take_succ_cons, sumN_cons]; simp only [List.getElem_cons_succ]; omega
    · omega
end Go.Proofs.Ytdekakhkhkidhaa
