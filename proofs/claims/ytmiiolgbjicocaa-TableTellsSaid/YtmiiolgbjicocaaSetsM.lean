/- The sets of first and of follow in memory. -/
import Derived.Test.YtmiiolgbjicocaaFirstP
import Derived.Test.YtmiiolgbjicocaaMeter
namespace Go.Proofs.Ytmiiolgbjicocaa
open Go.RowKit
theorem nat_few : ∀ (n : Nat) (L : List Nat), L.Nodup → (∀ x ∈ L, x < n) → L.length ≤ n
  | 0, [], _, _ => Nat.le_refl _
  | 0, x :: L, _, h => by have := h x (by simp); omega
  | n + 1, L, hn, h => by
    by_cases hm : n ∈ L
    · have h1 := nat_few n (L.erase n) (hn.erase n) (fun x hx => by
        have h2 := (hn.mem_erase_iff).1 hx
        have := h x h2.2
        have := h2.1
        omega)
      rw [List.length_erase_of_mem hm] at h1
      omega
    · have := nat_few n L hn (fun x hx => by
        have := h x hx
        have : x ≠ n := fun e => hm (e ▸ hx)
        omega)
      omega
/-- Words of up to two of six terminals. -/
def OkW (L : Wds) : Prop := ∀ w ∈ L, w.length ≤ 2 ∧ ∀ x ∈ w, 0 ≤ x ∧ x < 6
def codeW : List Int → Nat
  | [] => 0
  | [a] => 1 + a.toNat
  | a :: b :: _ => 7 + 6 * a.toNat + b.toNat
theorem okW_few {L : Wds} (hs : Sorted L) (h : OkW L) : L.length ≤ 43 := by
  have hinj : ∀ a ∈ L, ∀ b ∈ L, codeW a = codeW b → a = b := fun a ha b hb e => by
    obtain ⟨h1, h2⟩ := h a ha
    obtain ⟨h3, h4⟩ := h b hb
    match a, b, h1, h2, h3, h4, e with
    | [], [], _, _, _, _, _ => rfl
    | [], [b], _, _, _, _, e => simp only [codeW] at e; omega
    | [], b :: c :: _, _, _, _, _, e => simp only [codeW] at e; omega
    | [a], [], _, _, _, _, e => simp only [codeW] at e; omega
    | [a], [b], _, h2, _, h4, e =>
      have := h2 a (by simp); have := h4 b (by simp)
      simp only [codeW] at e
      have : a = b := by omega
      rw [this]
    | [a], b :: c :: _, _, h2, _, h4, e => have := h2 a (by simp); simp only [codeW] at e; omega
    | a :: b :: _, [], _, _, _, _, e => simp only [codeW] at e; omega
    | a :: b :: _, [c], _, _, _, h4, e => have := h4 c (by simp); simp only [codeW] at e; omega
    | [a, b], [c, d], _, h2, _, h4, e =>
      have := h2 a (by simp); have := h2 b (by simp); have := h4 c (by simp); have := h4 d (by simp)
      simp only [codeW] at e
      have e1 : a = c := by omega
      have e2 : b = d := by omega
      rw [e1, e2]
    | _ :: _ :: _ :: _, _, h1, _, _, _, _ => simp at h1
    | [_, _], _ :: _ :: _ :: _, _, _, h3, _, _ => simp at h3
  have hnd : (L.map codeW).Nodup := by
    rw [List.Nodup, List.pairwise_map, List.pairwise_iff_getElem]
    intro i j hi hj hij e
    have := hinj _ (List.getElem_mem hi) _ (List.getElem_mem hj) e
    have h5 := hs i j _ _ hij (List.getElem?_eq_getElem hi) (List.getElem?_eq_getElem hj)
    rw [this, lessL_irr] at h5
    cases h5
  have := nat_few 43 (L.map codeW) hnd (fun x hx => by
    obtain ⟨w, hw, rfl⟩ := List.mem_map.1 hx
    obtain ⟨h1, h2⟩ := h w hw
    match w, h1, h2 with
    | [], _, _ => simp [codeW]
    | [a], _, h2 => have := h2 a (by simp); simp only [codeW]; omega
    | [a, b], _, h2 => have := h2 a (by simp); have := h2 b (by simp); simp only [codeW]; omega
    | _ :: _ :: _ :: _, h1, _ => simp at h1)
  simpa using this
theorem okW_times {A B : Wds} (hA : OkW A) (hB : OkW B) {k : Int} (hk : k ≤ 2) : OkW (timesL A B k) := fun w hw => by
  obtain ⟨a, ha, b, hb, rfl⟩ := mem_timesL.1 hw
  unfold joinL
  refine ⟨by rw [List.length_take]; omega, fun x hx => ?_⟩
  rcases List.mem_append.1 (List.mem_of_mem_take hx) with h | h
  · exact (hA a ha).2 x h
  · exact (hB b hb).2 x h
/-- A form's symbols are such as there are. -/
def FormOK (nv : Nat) (f : List Int) : Prop := ∀ s ∈ f, s < nv ∧ -6 ≤ s
theorem okW_x {F : List Wds} (hF : ∀ v, OkW (F.getD v [])) {s : Int} (hs : -6 ≤ s) : OkW (xOf F s) := by
  unfold xOf
  split
  · exact hF _
  · intro w hw
    obtain rfl : w = [-s - 1] := by simpa using hw
    exact ⟨by simp, fun x hx => by obtain rfl := List.mem_singleton.1 hx; omega⟩
theorem okW_nil : OkW [[]] := fun w hw => by
  obtain rfl : w = [] := by simpa using hw
  exact ⟨by simp, fun x hx => by cases hx⟩
theorem okW_ahead {F : List Wds} (hF : ∀ v, OkW (F.getD v [])) {k : Int} (hk : k ≤ 2) {nv : Nat} : ∀ {f : List Int} (_ : FormOK nv f) {T : Wds} (_ : OkW T), OkW (aheadL k F f T)
  | [], _, T, hT => okW_times hT okW_nil hk
  | s :: f, hf, T, hT => okW_times (okW_x hF (hf s (by simp)).2) (okW_ahead hF hk (fun x hx => hf x (by simp [hx])) hT) hk
theorem sorted_ahead (k : Int) (F : List Wds) (f : List Int) (T : Wds) : Sorted (aheadL k F f T) := by
  cases f <;> exact timesL_sorted _ _ _
theorem okW_short {L : Wds} (h : OkW L) : ∀ y ∈ L, y.length ≤ 5000 := fun y hy => by have := (h y hy).1; omega
/-- Sets that lie apart. -/
structure AllS (lo : Nat) (bs : List Nat) (lvs : List Value) (Ls : List Wds) (w : World) : Prop where
  len : lvs.length = bs.length
  len2 : Ls.length = bs.length
  at_ : ∀ (i : Nat) b lv L, bs[i]? = some b → lvs[i]? = some lv → Ls[i]? = some L → ∃ vs, SetAt b lv vs L w
  lob : ∀ (i : Nat) b, bs[i]? = some b → lo ≤ b
  lol : ∀ (i : Nat) lv, lvs[i]? = some lv → ∀ k, lv.ownBlock = some k → lo ≤ k
  two : ∀ (i j : Nat) b, bs[i]? = some b → bs[j]? = some b → i = j
  apart : ∀ (i j : Nat) a b, lvs[i]? = some a → lvs[j]? = some b → i ≠ j → ∀ k, a.ownBlock = some k → b.ownBlock ≠ some k
theorem AllS.go {lo : Nat} {bs : List Nat} {lvs : List Value} {Ls : List Wds} {w w' : World} (h : AllS lo bs lvs Ls w) (hb : Grow w w') : AllS lo bs lvs Ls w' :=
  ⟨h.len, h.len2, fun i b lv L h1 h2 h3 => by obtain ⟨vs, hv⟩ := h.at_ i b lv L h1 h2 h3; exact ⟨vs, hv.grow hb⟩, h.lob, h.lol, h.two, h.apart⟩
theorem AllS.get {lo : Nat} {bs : List Nat} {lvs : List Value} {Ls : List Wds} {w : World} (h : AllS lo bs lvs Ls w) {i b : Nat} (hi : bs[i]? = some b) : ∃ lv vs L, lvs[i]? = some lv ∧ Ls[i]? = some L ∧ SetAt b lv vs L w := by
  have hl : i < bs.length := (List.getElem?_eq_some_iff.1 hi).1
  have h1 : lvs[i]? = some (lvs[i]'(by rw [h.len]; exact hl)) := List.getElem?_eq_getElem _
  have h2 : Ls[i]? = some (Ls[i]'(by rw [h.len2]; exact hl)) := List.getElem?_eq_getElem _
  obtain ⟨vs, hv⟩ := h.at_ i b _ _ hi h1 h2
  exact ⟨_, vs, _, h1, h2, hv⟩
/-- One of them, turned. -/
theorem AllS.set {lo : Nat} {bs : List Nat} {lvs : List Value} {Ls : List Wds} {w w' : World} (h : AllS lo bs lvs Ls w) (hlo : lo ≤ w.heap.size) {i b : Nat} (hi : bs[i]? = some b) {lv : Value} {vs : List Value} {L : Wds} (hlv : lvs[i]? = some lv) (hs : SetAt b lv vs L w)
    {lv' : Value} {vs' : List Value} {L' : Wds} (hs' : SetAt b lv' vs' L' w') (hk : Kept (fun k => k = b ∨ lv.ownBlock = some k) w w') (hf : ∀ k, lv'.ownBlock = some k → lv.ownBlock = some k ∨ w.heap.size ≤ k) :
    AllS lo bs (lvs.set i lv') (Ls.set i L') w' := by
  have hil : i < lvs.length := (List.getElem?_eq_some_iff.1 hlv).1
  have hiL : i < Ls.length := by rw [h.len2, ← h.len]; exact hil
  have hold : ∀ (j : Nat) a k, lvs[j]? = some a → a.ownBlock = some k → k < w.heap.size := fun j a k hj hk => by
    have hjl : j < lvs.length := (List.getElem?_eq_some_iff.1 hj).1
    obtain ⟨vs, hv⟩ := h.at_ j _ a _ (List.getElem?_eq_getElem (by rw [← h.len]; exact hjl)) hj (List.getElem?_eq_getElem (by rw [h.len2, ← h.len]; exact hjl))
    exact (row_ge hv.row hk).1
  refine ⟨by rw [List.length_set, h.len], by rw [List.length_set, h.len2], fun j c cv M h1 h2 h3 => ?_, h.lob, fun j cv h1 k hk => ?_, h.two, fun j l x y h1 h2 hne k hx hy => ?_⟩
  · by_cases hj : i = j
    · subst hj
      rw [List.getElem?_set_self hil] at h2
      rw [List.getElem?_set_self hiL] at h3
      cases h2; cases h3
      rw [hi] at h1; cases h1
      exact ⟨vs', hs'⟩
    · rw [List.getElem?_set_ne hj] at h2 h3
      obtain ⟨us, hu⟩ := h.at_ j c cv M h1 h2 h3
      exact ⟨us, set_kept hs hu hk (fun e => hj (h.two i j b hi (e ▸ h1))) (fun k hk hk2 => h.apart i j lv cv hlv h2 hj k hk hk2)⟩
  · by_cases hj : i = j
    · subst hj
      rw [List.getElem?_set_self hil] at h1
      cases h1
      rcases hf k hk with h4 | h4
      · exact h.lol i lv hlv k h4
      · omega
    · rw [List.getElem?_set_ne hj] at h1
      exact h.lol j cv h1 k hk
  · by_cases hj : i = j
    · subst hj
      rw [List.getElem?_set_self hil] at h1
      rw [List.getElem?_set_ne hne] at h2
      cases h1
      rcases hf k hx with h4 | h4
      · exact h.apart i l lv y hlv h2 hne k h4 hy
      · have := hold l y k h2 hy; omega
    · rw [List.getElem?_set_ne hj] at h1
      by_cases hl : i = l
      · subst hl
        rw [List.getElem?_set_self hil] at h2
        cases h2
        rcases hf k hy with h4 | h4
        · exact h.apart j i x lv h1 hlv hne k hx h4
        · have := hold j x k h1 hx; omega
      · rw [List.getElem?_set_ne hl] at h2
        exact h.apart j l x y h1 h2 hne k hx hy
end Go.Proofs.Ytmiiolgbjicocaa
