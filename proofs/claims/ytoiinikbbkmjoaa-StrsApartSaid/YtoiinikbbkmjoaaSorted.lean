/- Words in order, in plain lists: putting one in at its place is what the document says. It speaks of no program. -/
import Derived.Test.YtoiinikbbkmjoaaAdd
namespace Go.Proofs.Ytoiinikbbkmjoaa
open Go.RowKit
theorem lessL_trans : ∀ {a b c : List Int}, lessL a b = true → lessL b c = true → lessL a c = true
  | [], [], _, h, _ => by simp [lessL] at h
  | _ :: _, [], _, h, _ => by simp [lessL] at h
  | [], _ :: _, [], _, h2 => by simp [lessL] at h2
  | [], _ :: _, _ :: _, _, _ => by simp [lessL]
  | _ :: _, _ :: _, [], _, h2 => by simp [lessL] at h2
  | x :: a, y :: b, z :: c, h, h2 => by
    unfold lessL at h h2 ⊢
    by_cases e1 : x = y
    · rw [if_pos e1] at h
      by_cases e2 : y = z
      · rw [if_pos e2] at h2
        rw [if_pos (e1.trans e2)]
        exact lessL_trans h h2
      · rw [if_neg e2] at h2
        rw [if_neg (by omega)]
        rw [e1]; exact h2
    · rw [if_neg e1] at h
      by_cases e2 : y = z
      · rw [if_pos e2] at h2
        rw [if_neg (by omega)]
        rw [← e2]; exact h
      · rw [if_neg e2] at h2
        simp only [decide_eq_true_eq] at h h2
        rw [if_neg (by omega)]
        simp only [decide_eq_true_eq]
        omega
theorem lessL_irr (a : List Int) : lessL a a = false := by
  have := lessL_same a a
  simpa using this
theorem lessL_tri (a b : List Int) : lessL a b = true ∨ a = b ∨ lessL b a = true := by
  have := lessL_same a b
  cases h1 : lessL a b
  · cases h2 : lessL b a
    · rw [h1, h2] at this; simp at this; exact .inr (.inl this)
    · exact .inr (.inr rfl)
  · exact .inl rfl
theorem cmpL_pos {a b : List Int} : 0 < cmpL a b ↔ lessL b a = true := by
  unfold cmpL
  rcases lessL_tri a b with h | h | h
  · rw [if_pos h]
    constructor
    · intro h2; omega
    · intro h2; have := lessL_trans h h2; rw [lessL_irr] at this; simp at this
  · subst h; rw [lessL_irr]; simp
  · have h1 : lessL a b = false := by
      cases h3 : lessL a b
      · rfl
      · have := lessL_trans h h3; rw [lessL_irr] at this; simp at this
    have h2 : a ≠ b := fun e => by subst e; rw [h] at h1; simp at h1
    rw [if_neg (by rw [h1]; simp), if_neg h2]
    simp [h]
def Sorted (L : List (List Int)) : Prop := ∀ (i j : Nat) (a b : List Int), i < j → L[i]? = some a → L[j]? = some b → lessL a b = true
/-- Where a word comes, by the document: ahead of the first that it stands ahead of. -/
def spot (L : List (List Int)) (a : List Int) : Nat := L.findIdx (fun b => lessL a b)
def rAdd (L : List (List Int)) (a : List Int) : List (List Int) := if a ∈ L then L else L.take (spot L a) ++ [a] ++ L.drop (spot L a)
theorem place_spot {L : List (List Int)} {a : List Int} {p : Nat} (hs : Sorted L) (hp : PlaceOK L a p) : addL L a p = rAdd L a := by
  obtain ⟨hle, h1, h2⟩ := hp
  have hlow : ∀ j b, j < p → L[j]? = some b → lessL b a = true := fun j b hj hb => by
    obtain ⟨q, rfl⟩ : ∃ q, p = q + 1 := ⟨p - 1, by omega⟩
    obtain ⟨y, hy, hc⟩ := h1 q rfl
    rw [cmpL_pos] at hc
    by_cases e : j = q
    · subst e; rw [hy] at hb; injection hb with hb; rw [← hb]; exact hc
    · exact lessL_trans (hs j q b y (by omega) hb hy) hc
  have hhigh : ∀ j b, p ≤ j → L[j]? = some b → lessL b a = false := fun j b hj hb => by
    have hlt : p < L.length := by have := (List.getElem?_eq_some_iff.1 hb).1; omega
    have hy := h2 _ (List.getElem?_eq_getElem hlt)
    have hy2 : lessL L[p] a = false := by
      cases h : lessL L[p] a
      · rfl
      · have := cmpL_pos.2 h; omega
    by_cases e : j = p
    · subst e; rw [List.getElem?_eq_getElem hlt] at hb; injection hb with hb; rw [← hb]; exact hy2
    · have h3 := hs p j _ b (by omega) (List.getElem?_eq_getElem hlt) hb
      cases h : lessL b a
      · rfl
      · have := lessL_trans h3 h; rw [hy2] at this; simp at this
  unfold addL rAdd
  by_cases hm : a ∈ L
  · rw [if_pos hm]
    obtain ⟨j, hj, hja⟩ := List.getElem_of_mem hm
    have hjs : L[j]? = some a := by rw [List.getElem?_eq_getElem hj, hja]
    have hjp : j = p := by
      rcases Nat.lt_trichotomy j p with h | h | h
      · have := hlow j a h hjs; rw [lessL_irr] at this; simp at this
      · exact h
      · have hlt : p < L.length := by omega
        have h3 := hs p j _ a h (List.getElem?_eq_getElem hlt) hjs
        have := hhigh p _ (Nat.le_refl _) (List.getElem?_eq_getElem hlt)
        rw [h3] at this; simp at this
    rw [if_pos (by rw [← hjp]; exact hjs)]
  · rw [if_neg hm]
    have hn : L[p]? ≠ some a := fun h => hm (by obtain ⟨h1, h2⟩ := List.getElem?_eq_some_iff.1 h; rw [← h2]; exact List.getElem_mem h1)
    rw [if_neg hn]
    have hsp : spot L a = p := by
      unfold spot
      refine Nat.le_antisymm ?_ ?_
      · by_cases hlt : p < L.length
        · refine Nat.le_of_not_lt (fun h => ?_)
          have := List.not_of_lt_findIdx h
          have h3 := hhigh p _ (Nat.le_refl _) (List.getElem?_eq_getElem hlt)
          rcases lessL_tri a L[p] with h4 | h4 | h4
          · rw [h4] at this; simp at this
          · exact hn (by rw [List.getElem?_eq_getElem hlt, ← h4])
          · rw [h4] at h3; simp at h3
        · exact Nat.le_trans List.findIdx_le_length (by omega)
      · refine Nat.le_of_not_lt (fun h => ?_)
        have hlt : L.findIdx (fun b => lessL a b) < L.length := by omega
        have h3 := List.findIdx_getElem (w := hlt) (p := fun b => lessL a b) (xs := L)
        have h4 := hlow _ _ h (List.getElem?_eq_getElem hlt)
        have := lessL_trans h4 h3
        rw [lessL_irr] at this; simp at this
    rw [hsp]
theorem ins_get {α : Type} {L : List α} {p : Nat} (x : α) (hp : p ≤ L.length) (i : Nat) : (L.take p ++ [x] ++ L.drop p)[i]? = if i < p then L[i]? else if i = p then some x else L[i - 1]? := by
  have hlp : (L.take p).length = p := by simp; omega
  rw [List.append_assoc]
  by_cases h1 : i < p
  · rw [if_pos h1, List.getElem?_append_left (by omega), List.getElem?_take, if_pos h1]
  · rw [if_neg h1, List.getElem?_append_right (by omega), hlp]
    by_cases h2 : i = p
    · rw [if_pos h2, h2, Nat.sub_self]; rfl
    · rw [if_neg h2]
      obtain ⟨k, hk⟩ : ∃ k, i - p = k + 1 := ⟨i - p - 1, by omega⟩
      rw [hk, List.singleton_append, List.getElem?_cons_succ, List.getElem?_drop]
      congr 1
      omega
theorem rAdd_sorted {L : List (List Int)} (hs : Sorted L) (a : List Int) : Sorted (rAdd L a) := by
  unfold rAdd
  by_cases hm : a ∈ L
  · rw [if_pos hm]; exact hs
  · rw [if_neg hm]
    have hp : spot L a ≤ L.length := List.findIdx_le_length
    have hlow : ∀ j b, j < spot L a → L[j]? = some b → lessL b a = true := fun j b hj hb => by
      have h1 := List.not_of_lt_findIdx hj
      obtain ⟨hjl, hb2⟩ := List.getElem?_eq_some_iff.1 hb
      rcases lessL_tri a b with h | h | h
      · rw [hb2] at h1; rw [h] at h1; simp at h1
      · exact (hm (by rw [h, ← hb2]; exact List.getElem_mem hjl)).elim
      · exact h
    have hhigh : ∀ j b, spot L a ≤ j → L[j]? = some b → lessL a b = true := fun j b hj hb => by
      have hlt : spot L a < L.length := by have := (List.getElem?_eq_some_iff.1 hb).1; omega
      have h3 : lessL a L[spot L a] = true := List.findIdx_getElem (w := hlt) (p := fun b => lessL a b) (xs := L)
      by_cases e : j = spot L a
      · rw [e, List.getElem?_eq_getElem hlt] at hb; injection hb with hb; rw [← hb]; exact h3
      · exact lessL_trans h3 (hs _ j _ b (by omega) (List.getElem?_eq_getElem hlt) hb)
    generalize spot L a = p at *
    intro i j x y hij hx hy
    rw [ins_get a hp] at hx hy
    by_cases c1 : i < p
    · rw [if_pos c1] at hx
      by_cases c2 : j < p
      · rw [if_pos c2] at hy; exact hs i j x y hij hx hy
      · rw [if_neg c2] at hy
        by_cases c3 : j = p
        · rw [if_pos c3] at hy; injection hy with hy; rw [← hy]; exact hlow i x c1 hx
        · rw [if_neg c3] at hy; exact hs i (j - 1) x y (by omega) hx hy
    · rw [if_neg c1] at hx
      rw [if_neg (by omega), if_neg (by omega)] at hy
      by_cases c3 : i = p
      · rw [if_pos c3] at hx; injection hx with hx; rw [← hx]; exact hhigh (j - 1) y (by omega) hy
      · rw [if_neg c3] at hx; exact hs (i - 1) (j - 1) x y (by omega) hx hy
theorem mem_rAdd {L : List (List Int)} {a b : List Int} : b ∈ rAdd L a ↔ b ∈ L ∨ b = a := by
  unfold rAdd
  by_cases hm : a ∈ L
  · rw [if_pos hm]; exact ⟨.inl, fun h => h.elim id (fun e => e ▸ hm)⟩
  · rw [if_neg hm]
    have := List.take_append_drop (spot L a) L
    constructor
    · intro h
      simp only [List.mem_append, List.mem_singleton] at h
      rcases h with (h | h) | h
      · exact .inl (List.mem_of_mem_take h)
      · exact .inr h
      · exact .inl (List.mem_of_mem_drop h)
    · intro h
      simp only [List.mem_append, List.mem_singleton]
      rcases h with h | h
      · rw [← this] at h
        rcases List.mem_append.1 h with h | h
        · exact .inl (.inl h)
        · exact .inr h
      · exact .inl (.inr h)
theorem rAdd_len (L : List (List Int)) (a : List Int) : (rAdd L a).length ≤ L.length + 1 := by
  unfold rAdd
  split
  · omega
  · simp; omega
def ofL (Ls : List (List Int)) : List (List Int) := Ls.foldl rAdd []
theorem ofL_on {Ls : List (List Int)} {k : Nat} (hk : k < Ls.length) : ofL (Ls.take (k + 1)) = rAdd (ofL (Ls.take k)) Ls[k] := by
  unfold ofL
  rw [List.take_succ_eq_append_getElem hk, List.foldl_append]
  rfl
theorem foldl_sorted : ∀ (Ls L : List (List Int)), Sorted L → Sorted (Ls.foldl rAdd L)
  | [], _, h => h
  | a :: t, L, h => foldl_sorted t (rAdd L a) (rAdd_sorted h a)
theorem ofL_sorted (Ls : List (List Int)) : Sorted (ofL Ls) := foldl_sorted Ls [] (fun i j a b _ h _ => by simp at h)
theorem foldl_mem : ∀ (Ls L : List (List Int)) (b : List Int), b ∈ Ls.foldl rAdd L ↔ b ∈ L ∨ b ∈ Ls
  | [], L, b => by simp
  | a :: t, L, b => by
    rw [List.foldl_cons, foldl_mem t, mem_rAdd, List.mem_cons, or_assoc]
theorem mem_ofL {Ls : List (List Int)} {b : List Int} : b ∈ ofL Ls ↔ b ∈ Ls := by unfold ofL; rw [foldl_mem]; simp
theorem foldl_len : ∀ (Ls L : List (List Int)), (Ls.foldl rAdd L).length ≤ L.length + Ls.length
  | [], L => by simp
  | a :: t, L => by
    rw [List.foldl_cons, List.length_cons]
    have := foldl_len t (rAdd L a)
    have := rAdd_len L a
    omega
theorem ofL_len (Ls : List (List Int)) : (ofL Ls).length ≤ Ls.length := by have := foldl_len Ls []; unfold ofL; simpa using this
end Go.Proofs.Ytoiinikbbkmjoaa
