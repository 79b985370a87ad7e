/- The reference's way to a number's parts and the program's are one. Plain. -/
import Derived.Test.YticdihfjnmjkmaaRefR
namespace Go.Proofs.Yticdihfjnmjkmaa
open Go.RowKit
theorem cutL_form : ∀ l : List UInt8, (∀ c ∈ (cutL l).1, c ≠ 46) ∧ (((cutL l).2.2 = true ∧ l = (cutL l).1 ++ 46 :: (cutL l).2.1) ∨ ((cutL l).2.2 = false ∧ l = (cutL l).1 ∧ (cutL l).2.1 = []))
  | [] => ⟨by simp [cutL], .inr ⟨rfl, rfl, rfl⟩⟩
  | c :: r => by
    obtain ⟨h1, h2⟩ := cutL_form r
    by_cases hc : c = 46
    · subst hc
      exact ⟨by simp [cutL], .inl ⟨by simp [cutL], by simp [cutL]⟩⟩
    · have e : cutL (c :: r) = (c :: (cutL r).1, (cutL r).2.1, (cutL r).2.2) := by simp [cutL, hc]
      rw [e]
      refine ⟨fun x hx => ?_, ?_⟩
      · rcases List.mem_cons.1 hx with rfl | hx
        · exact hc
        · exact h1 x hx
      · rcases h2 with ⟨a, b⟩ | ⟨a, b, d⟩
        · exact .inl ⟨a, by show c :: r = c :: ((cutL r).1 ++ 46 :: (cutL r).2.1); rw [← b]⟩
        · exact .inr ⟨a, by show c :: r = c :: (cutL r).1; rw [← b], d⟩
theorem run_all : ∀ (h t : List UInt8), h.all digC = true → (∀ c r, t = c :: r → digC c = false) → runL digitB (h ++ t) = h.length
  | [], [], _, _ => rfl
  | [], c :: r, _, ht => by
    show runL digitB (c :: r) = 0
    have := ht c r rfl
    rw [runL, if_neg (by show ¬ digC c = true; rw [this]; decide)]
  | c :: r, t, ha, ht => by
    rw [List.all_cons, Bool.and_eq_true] at ha
    show runL digitB (c :: (r ++ t)) = _
    rw [runL, if_pos (show digitB (c.toNat : Int) = true from ha.1), run_all r t ha.2 ht]
    rfl
theorem run_not : ∀ (h t : List UInt8), h.all digC = false → runL digitB (h ++ t) < h.length ∧ (h ++ t)[runL digitB (h ++ t)]? = h[runL digitB (h ++ t)]?
  | [], _, ha => by cases ha
  | c :: r, t, ha => by
    by_cases hc : digC c = true
    · rw [List.all_cons, hc, Bool.true_and] at ha
      obtain ⟨h1, h2⟩ := run_not r t ha
      show runL digitB (c :: (r ++ t)) < _ ∧ _
      have e : runL digitB (c :: (r ++ t)) = runL digitB (r ++ t) + 1 := by rw [runL, if_pos (show digitB (c.toNat : Int) = true from hc)]
      show runL digitB (c :: (r ++ t)) < _ ∧ (c :: (r ++ t))[runL digitB (c :: (r ++ t))]? = (c :: r)[runL digitB (c :: (r ++ t))]?
      rw [e]
      exact ⟨Nat.succ_lt_succ h1, by simpa using h2⟩
    · show runL digitB (c :: (r ++ t)) < _ ∧ (c :: (r ++ t))[runL digitB (c :: (r ++ t))]? = (c :: r)[runL digitB (c :: (r ++ t))]?
      have e : runL digitB (c :: (r ++ t)) = 0 := by rw [runL, if_neg (show ¬ digitB (c.toNat : Int) = true from hc)]
      rw [e]
      exact ⟨by simp, rfl⟩
theorem okP_true {h t : List UInt8} {pt : Bool} (hd : h.all digC = true) (h1 : 1 ≤ h.length) (h2 : h.length ≤ 9) (h3 : ¬ (1 < h.length ∧ h.head? = some 48)) : okP h t pt = (!pt || digsB t 1 6) := by
  unfold okP
  rw [show digsB h 1 9 = true from (digsB_iff (lo := 1) (hi := 9)).2 ⟨hd, h1, h2⟩]
  rw [show (decide (1 < h.length) && h.head? == some 48) = false by
    rw [Bool.eq_false_iff]
    intro h
    rw [Bool.and_eq_true, decide_eq_true_eq, beq_iff_eq] at h
    exact h3 h]
  simp
theorem okP_bad {h t : List UInt8} {pt : Bool} (hb : ¬ (h.all digC = true ∧ 1 ≤ h.length ∧ h.length ≤ 9)) : okP h t pt = false := by
  unfold okP
  rw [show digsB h 1 9 = false by rw [Bool.eq_false_iff]; exact fun h => hb ((digsB_iff (lo := 1) (hi := 9)).1 h)]
  simp
theorem okP_nought {h t : List UInt8} {pt : Bool} (hb : 1 < h.length ∧ h.head? = some 48) : okP h t pt = false := by
  unfold okP
  simp [hb.1, hb.2]
theorem refP_okP (l : List UInt8) : refP l = if okP (cutL l).1 (cutL l).2.1 (cutL l).2.2 = true then some ((cutL l).1, (cutL l).2.1) else none := by
  obtain ⟨hne, hform⟩ := cutL_form l
  generalize (cutL l).1 = h at *
  generalize (cutL l).2.1 = t at *
  generalize (cutL l).2.2 = pt at *
  have hl : ∃ r, l = h ++ r ∧ ((pt = true ∧ r = 46 :: t) ∨ (pt = false ∧ r = [] ∧ t = [])) := by
    rcases hform with ⟨a, b⟩ | ⟨a, b, c⟩
    · exact ⟨_, b, .inl ⟨a, rfl⟩⟩
    · exact ⟨[], by rw [List.append_nil]; exact b, .inr ⟨a, rfl, c⟩⟩
  clear hform
  obtain ⟨r, rfl, hr⟩ := hl
  by_cases hd : h.all digC = true
  · have hrun : runL digitB (h ++ r) = h.length := run_all h r hd (by
      intro c q hq
      rcases hr with ⟨_, hr⟩ | ⟨_, hr, _⟩
      · rw [hr] at hq
        injection hq with hq _
        subst hq
        decide
      · rw [hr] at hq; cases hq)
    unfold refP
    rw [hrun]
    by_cases c1 : h.length < 1
    · rw [if_pos c1, okP_bad (by omega), if_neg (by decide)]
    rw [if_neg c1]
    by_cases c2 : 9 < h.length
    · rw [if_pos c2, okP_bad (by omega), if_neg (by decide)]
    rw [if_neg c2]
    have hh : (h ++ r).head? = h.head? := by
      cases h with
      | nil => simp at c1
      | cons => rfl
    rw [hh]
    by_cases c3 : 1 < h.length ∧ h.head? = some 48
    · rw [if_pos c3, okP_nought c3, if_neg (by decide)]
    rw [if_neg c3, okP_true hd (by omega) (by omega) c3]
    rcases hr with ⟨rfl, rfl⟩ | ⟨rfl, rfl, rfl⟩
    · rw [if_neg (by simp)]
      rw [if_neg (by simp)]
      have hle : (h ++ 46 :: t).length - h.length = t.length + 1 := by simp
      rw [hle]
      have hdr : (h ++ 46 :: t).drop (h.length + 1) = t := by rw [← List.drop_drop]; simp
      have htk : (h ++ 46 :: t).take h.length = h := by simp
      rw [hdr, htk]
      by_cases c5 : t.length + 1 < 2
      · rw [if_pos c5, if_neg]
        intro hx
        have := (digsB_iff (lo := 1) (hi := 6)).1 (by simpa using hx)
        omega
      rw [if_neg c5]
      by_cases c6 : 7 < t.length + 1
      · rw [if_pos c6, if_neg]
        intro hx
        have := (digsB_iff (lo := 1) (hi := 6)).1 (by simpa using hx)
        omega
      rw [if_neg c6]
      by_cases c7 : t.all digC = true
      · rw [if_pos c7, if_pos]
        have := (digsB_iff (lo := 1) (hi := 6)).2 ⟨c7, by omega, by omega⟩
        simpa using this
      · rw [if_neg c7, if_neg]
        intro hx
        exact c7 ((digsB_iff (lo := 1) (hi := 6)).1 (by simpa using hx)).1
    · rw [if_pos (by simp), if_pos (by rfl), List.append_nil]
  · rw [okP_bad (fun hx => hd hx.1), if_neg (by decide)]
    obtain ⟨h1, h2⟩ := run_not h r (by simpa using hd)
    unfold refP
    generalize runL digitB (h ++ r) = n at *
    split
    · rfl
    · split
      · rfl
      · split
        · rfl
        · rw [if_neg (by rw [List.length_append]; omega), if_pos]
          rw [h2, List.getElem?_eq_getElem h1]
          intro hx
          injection hx with hx
          exact hne _ (List.getElem_mem h1) hx
end Go.Proofs.Yticdihfjnmjkmaa
