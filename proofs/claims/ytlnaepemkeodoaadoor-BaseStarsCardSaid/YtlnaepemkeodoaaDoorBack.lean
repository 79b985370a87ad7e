/- What is read of a text; its text, read again. No program in sight. -/
import Derived.Test.YtlnaepemkeodoaaDoorPlain
namespace Go.Proofs.YtlnaepemkeodoaaDoor
/-- What was read so far: marks, heads, what was passed over. -/
structure St where
  marks : List (List UInt8)
  heads : List (List UInt8)
  bad : List (Int × Nat)
def putL (L : List (List UInt8)) (x : List UInt8) : List (List UInt8) := putAt L x (posL L x)
def headOf (l : List UInt8) : List UInt8 := l.take (l.length - 2)
/-- Is it there? -/
def there (m h : List (List UInt8)) (l : List UInt8) : Bool := if Lib.hasSuffix l starL = true then decide (headOf l ∈ h) else decide (l ∈ m)
def addM (m : List (List UInt8)) (l : List UInt8) : List (List UInt8) := if Lib.hasSuffix l starL = true then m else putL m l
def addH (h : List (List UInt8)) (l : List UInt8) : List (List UInt8) := if Lib.hasSuffix l starL = true then putL h (headOf l) else h
def skipB (l : List UInt8) : Bool := l.isEmpty || decide (l.head? = some 35)
/-- A line's error, in the end. -/
def errOf (st : St) (l : List UInt8) : Int :=
  if lineE l ≠ 0 then lineE l else if st.marks.length + st.heads.length = 512 then 7 else if there st.marks st.heads l = true then 8 else 0
def stepS (st : St) (i : Nat) (l : List UInt8) : St :=
  if skipB l = true then st
  else if errOf st l = 0 then ⟨addM st.marks l, addH st.heads l, st.bad⟩
  else ⟨st.marks, st.heads, st.bad ++ [(errOf st l, i + 1)]⟩
def foldS : St → Nat → List (List UInt8) → St
  | st, _, [] => st
  | st, i, l :: r => foldS (stepS st i l) (i + 1) r
def readS (s : List UInt8) : St := foldS ⟨[], [], []⟩ 0 (splitL s)
def textS (m h : List (List UInt8)) : List UInt8 := m.flatMap (· ++ [10]) ++ h.flatMap (· ++ [32, 42, 10])
def hasS (m h : List (List UInt8)) (x : List UInt8) : Bool := decide (x ∈ m) || (List.range ((wordsL x).length + 1)).any fun n => decide (Lib.join ((wordsL x).take n) [32] ∈ h)
/-- A mark that a base may hold. -/
structure Mark (m : List UInt8) : Prop where
  ok : lineE m = 0
  sk : skipB m = false
  st : Lib.hasSuffix m starL = false
structure Head (h : List UInt8) : Prop where
  ok : lineE (h ++ starL) = 0
  sk : skipB (h ++ starL) = false
structure Base (m h : List (List UInt8)) : Prop where
  ms : Sorted m
  hs : Sorted h
  mm : ∀ x ∈ m, Mark x
  hh : ∀ x ∈ h, Head x
  few : m.length + h.length ≤ 512
theorem suffix_iff (l : List UInt8) : Lib.hasSuffix l starL = true ↔ ∃ h, l = h ++ starL := by
  unfold Lib.hasSuffix
  rw [List.isSuffixOf_iff_suffix]
  constructor
  · rintro ⟨h, rfl⟩; exact ⟨h, rfl⟩
  · rintro ⟨h, rfl⟩; exact ⟨h, rfl⟩
theorem headOf_star (h : List UInt8) : headOf (h ++ starL) = h := by unfold headOf starL; simp
theorem line_no10 {l : List UInt8} (h : lineE l = 0) : ∀ c ∈ l, c ≠ 10 := by
  intro c hc e
  subst e
  unfold lineE at h
  split at h
  · omega
  · split at h
    · omega
    · rename_i h2
      exact h2 (List.any_eq_true.2 ⟨10, hc, by decide⟩)
theorem step_base {st : St} {i : Nat} {l : List UInt8} (hb : Base st.marks st.heads) : Base (stepS st i l).marks (stepS st i l).heads := by
  unfold stepS
  split
  · exact hb
  · rename_i hsk
    split
    · rename_i he
      unfold errOf at he
      split at he
      · rename_i h1; exact absurd he h1
      · rename_i h1
        split at he
        · omega
        · rename_i h2
          split at he
          · omega
          · rename_i h3
            have hl0 : lineE l = 0 := by simpa using h1
            have hsk : skipB l = false := by simpa using hsk
            have hfew := hb.few
            unfold there at h3
            unfold addM addH
            by_cases hst : Lib.hasSuffix l starL = true
            · rw [if_pos hst] at h3
              have hnot : headOf l ∉ st.heads := by simpa using h3
              obtain ⟨h, rfl⟩ := (suffix_iff l).1 hst
              rw [headOf_star] at hnot
              simp only [hst, if_true, headOf_star]
              refine ⟨hb.ms, ins_sorted hb.hs (posL_ok hb.hs h) hnot, hb.mm, fun x hx => ?_, ?_⟩
              · rcases (ins_mem x).1 hx with rfl | hx
                · exact ⟨hl0, hsk⟩
                · exact hb.hh x hx
              · show st.marks.length + (putL st.heads h).length ≤ 512
                rw [putL, ins_len]; omega
            · rw [if_neg hst] at h3
              have hnot : l ∉ st.marks := by simpa using h3
              have hst : Lib.hasSuffix l starL = false := by simpa using hst
              simp only [hst, Bool.false_eq_true, if_false]
              refine ⟨ins_sorted hb.ms (posL_ok hb.ms l) hnot, hb.hs, fun x hx => ?_, hb.hh, ?_⟩
              · rcases (ins_mem x).1 hx with rfl | hx
                · exact ⟨hl0, hsk, hst⟩
                · exact hb.mm x hx
              · show (putL st.marks l).length + st.heads.length ≤ 512
                rw [putL, ins_len]; omega
    · exact hb
theorem fold_base : ∀ (r : List (List UInt8)) (st : St) (i : Nat), Base st.marks st.heads → Base (foldS st i r).marks (foldS st i r).heads
  | [], _, _, h => h
  | _ :: r, _, _, h => fold_base r _ _ (step_base h)
theorem base_nil : Base [] [] := ⟨List.Pairwise.nil, List.Pairwise.nil, fun _ h => by simp at h, fun _ h => by simp at h, by simp⟩
theorem read_base (s : List UInt8) : Base (readS s).marks (readS s).heads := fold_base _ _ _ base_nil
/-- How long a base's text is. -/
def wide (m h : List (List UInt8)) : Nat := (m.map fun x => x.length + 1).sum + (h.map fun x => x.length + 3).sum
theorem text_len (m h : List (List UInt8)) : (textS m h).length = wide m h := by
  unfold textS wide
  rw [List.length_append, List.length_flatMap, List.length_flatMap]
  simp
theorem wide_ins (L : List (List UInt8)) (x : List UInt8) (p k : Nat) : ((putAt L x p).map fun x => x.length + k).sum = (L.map fun x => x.length + k).sum + (x.length + k) := by
  unfold putAt
  have h : ((L.take p ++ L.drop p).map fun x => x.length + k).sum = (L.map fun x => x.length + k).sum := by rw [List.take_append_drop]
  simp only [List.map_append, List.sum_append, List.map_cons, List.map_nil, List.sum_cons, List.sum_nil] at h ⊢
  omega
theorem step_wide (st : St) (i : Nat) (l : List UInt8) : wide (stepS st i l).marks (stepS st i l).heads ≤ wide st.marks st.heads + (l.length + 1) := by
  unfold stepS
  split
  · omega
  · split
    · unfold addM addH wide putL
      by_cases hst : Lib.hasSuffix l starL = true
      · simp only [hst, if_true]
        obtain ⟨h, rfl⟩ := (suffix_iff l).1 hst
        rw [headOf_star, wide_ins, List.length_append]
        simp only [starL, List.length_cons, List.length_nil]
        omega
      · have hst : Lib.hasSuffix l starL = false := by simpa using hst
        simp only [hst, Bool.false_eq_true, if_false]
        rw [wide_ins]
        omega
    · simp only; omega
theorem fold_wide : ∀ (r : List (List UInt8)) (st : St) (i : Nat), wide (foldS st i r).marks (foldS st i r).heads ≤ wide st.marks st.heads + (r.map fun x => x.length + 1).sum
  | [], _, _ => by simp [foldS]
  | l :: r, st, i => by
    have h1 := fold_wide r (stepS st i l) (i + 1)
    have h2 := step_wide st i l
    simp only [foldS, List.map_cons, List.sum_cons]
    omega
theorem read_wide (s : List UInt8) : (textS (readS s).marks (readS s).heads).length ≤ s.length + 1 := by
  rw [text_len]
  have h := fold_wide (splitL s) ⟨[], [], []⟩ 0
  rw [splitL_len] at h
  unfold readS
  simpa [wide] using h
theorem lines_marks : ∀ (m : List (List UInt8)) (r : List UInt8), (∀ x ∈ m, ∀ c ∈ x, c ≠ 10) → splitL (m.flatMap (· ++ [10]) ++ r) = m ++ splitL r
  | [], _, _ => rfl
  | x :: m, r, h => by
    rw [List.flatMap_cons, List.append_assoc, List.append_assoc, List.singleton_append, splitL_line (h x (by simp)), lines_marks m r (fun y hy => h y (by simp [hy]))]
    rfl
theorem text_lines {m h : List (List UInt8)} (hb : Base m h) : splitL (textS m h) = m ++ (h.map (· ++ starL) ++ [[]]) := by
  unfold textS
  rw [lines_marks m _ (fun x hx => line_no10 (hb.mm x hx).ok)]
  have e : h.flatMap (· ++ [32, 42, 10]) = (h.map (· ++ starL)).flatMap (· ++ [10]) := by
    rw [List.flatMap_map]
    congr 1
    funext x
    simp [starL]
  rw [e]
  have := lines_marks (h.map (· ++ starL)) [] (fun x hx => by
    obtain ⟨y, hy, rfl⟩ := List.mem_map.1 hx
    exact line_no10 (hb.hh y hy).ok)
  rw [List.append_nil] at this
  rw [this]; rfl
theorem fold_append : ∀ (a b : List (List UInt8)) (st : St) (i : Nat), foldS st i (a ++ b) = foldS (foldS st i a) (i + a.length) b
  | [], _, _, _ => rfl
  | l :: a, b, st, i => by
    rw [List.cons_append, foldS, fold_append a b, foldS, List.length_cons, show i + 1 + a.length = i + (a.length + 1) by omega]
theorem sorted_pre {L : List (List UInt8)} {x : List UInt8} {r : List (List UInt8)} (h : Sorted (L ++ x :: r)) : Sorted (L ++ [x]) := by
  have : L ++ x :: r = (L ++ [x]) ++ r := by simp
  rw [this] at h
  exact (List.pairwise_append.1 h).1
theorem sorted_left {L r : List (List UInt8)} (h : Sorted (L ++ r)) : Sorted L := (List.pairwise_append.1 h).1
theorem again_marks : ∀ (r m : List (List UInt8)) (i : Nat), Sorted (m ++ r) → (∀ x ∈ r, Mark x) → m.length + r.length ≤ 512 → foldS ⟨m, [], []⟩ i r = ⟨m ++ r, [], []⟩
  | [], m, _, _, _, _ => by simp [foldS]
  | x :: r, m, i, hs, hm, hf => by
    obtain ⟨h1, h2, h3⟩ := hm x (by simp)
    obtain ⟨e1, e2⟩ := ins_end (sorted_pre hs) (posL_ok (sorted_left hs) x)
    have hstep : stepS ⟨m, [], []⟩ i x = ⟨m ++ [x], [], []⟩ := by
      simp only [List.length_cons] at hf
      have he : errOf ⟨m, [], []⟩ x = 0 := by
        unfold errOf there
        rw [if_neg (by simpa using h1), if_neg (by simp only [List.length_nil]; omega)]
        simp [h3, e2]
      unfold stepS addM addH putL
      simp only [he, h2, h3, Bool.false_eq_true, if_false, if_true, e1]
    rw [foldS, hstep, again_marks r (m ++ [x]) (i + 1) (by simpa using hs) (fun y hy => hm y (by simp [hy])) (by simp only [List.length_append, List.length_cons, List.length_nil] at *; omega)]
    simp
theorem again_heads (m : List (List UInt8)) : ∀ (r h : List (List UInt8)) (i : Nat), Sorted (h ++ r) → (∀ x ∈ r, Head x) → m.length + h.length + r.length ≤ 512 → foldS ⟨m, h, []⟩ i (r.map (· ++ starL)) = ⟨m, h ++ r, []⟩
  | [], h, _, _, _, _ => by simp [foldS]
  | x :: r, h, i, hs, hm, hf => by
    obtain ⟨h1, h2⟩ := hm x (by simp)
    have h3 : Lib.hasSuffix (x ++ starL) starL = true := (suffix_iff _).2 ⟨x, rfl⟩
    obtain ⟨e1, e2⟩ := ins_end (sorted_pre hs) (posL_ok (sorted_left hs) x)
    have hstep : stepS ⟨m, h, []⟩ i (x ++ starL) = ⟨m, h ++ [x], []⟩ := by
      simp only [List.length_cons] at hf
      have he : errOf ⟨m, h, []⟩ (x ++ starL) = 0 := by
        unfold errOf there
        rw [if_neg (by simpa using h1), if_neg (by simp only; omega)]
        simp [h3, e2, headOf_star]
      unfold stepS addM addH putL
      simp only [he, h2, h3, Bool.false_eq_true, if_false, if_true, headOf_star, e1]
    rw [List.map_cons, foldS, hstep, again_heads m r (h ++ [x]) (i + 1) (by simpa using hs) (fun y hy => hm y (by simp [hy])) (by simp only [List.length_append, List.length_cons, List.length_nil] at *; omega)]
    simp
/-- A base's text is read as the same base. -/
theorem back {m h : List (List UInt8)} (hb : Base m h) : readS (textS m h) = ⟨m, h, []⟩ := by
  unfold readS
  rw [text_lines hb, fold_append, again_marks m [] 0 (by simpa using hb.ms) hb.mm (by have := hb.few; simp; omega), List.nil_append, fold_append, again_heads m h [] _ (by simpa using hb.hs) hb.hh (by have := hb.few; simp; omega)]
  simp [foldS, stepS, skipB]
end Go.Proofs.YtlnaepemkeodoaaDoor
