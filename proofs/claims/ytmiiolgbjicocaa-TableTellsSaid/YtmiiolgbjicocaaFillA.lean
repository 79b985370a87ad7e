/- What filling the sets leaves -/
import Derived.Test.YtmiiolgbjicocaaGrowW
namespace Go.Proofs.Ytmiiolgbjicocaa
open Go.RowKit
def GoodR (nv : Nat) (R : Rls) : Prop := ∀ r ∈ R, r.1 < nv ∧ FormOK nv r.2 ∧ r.2.length ≤ 8
def okw (w : List Int) : Prop := w.length ≤ 2 ∧ ∀ x ∈ w, 0 ≤ x ∧ x < 6
theorem okw_join {a b : List Int} (ha : okw a) (hb : okw b) {K : Int} (hK : K ≤ 2) : okw (joinL a b K) := by
  unfold joinL
  refine ⟨by rw [List.length_take]; omega, fun x hx => ?_⟩
  rcases List.mem_append.1 (List.mem_of_mem_take hx) with h | h
  · exact ha.2 x h
  · exact hb.2 x h
theorem okw_nil : okw [] := ⟨by simp, fun x hx => by cases hx⟩
theorem aheadP_ok {K : Int} (hK : K ≤ 2) {nv : Nat} : ∀ {f : List Int} (_ : FormOK nv f) {T : List Int → Prop} (_ : ∀ w, T w → okw w) {w : List Int}, aheadP K (fun _ w => okw w) f T w → okw w
  | [], _, T, hT, w, h => by
    obtain ⟨t, ht, rfl⟩ := h
    exact okw_join (hT t ht) okw_nil hK
  | s :: f, hf, T, hT, w, h => by
    obtain ⟨a, ha, b, hb, rfl⟩ := h
    refine okw_join ?_ (aheadP_ok hK (fun x hx => hf x (by simp [hx])) hT hb) hK
    unfold xP at ha
    split at ha
    · exact ha
    · subst ha
      have := (hf s (by simp)).2
      exact ⟨by simp, fun x hx => by obtain rfl := List.mem_singleton.1 hx; omega⟩
theorem tailP_ok {K : Int} (hK : K ≤ 2) {nv : Nat} : ∀ {f : List Int} (_ : FormOK nv f) {T : List Int → Prop} (_ : ∀ w, T w → okw w) {w : List Int}, tailP K (fun _ w => okw w) T f w → okw w
  | [], _, _, hT, w, h => hT w h
  | s :: f, hf, _, hT, _, h => aheadP_ok hK (f := [s]) (fun x hx => by obtain rfl := List.mem_singleton.1 hx; exact hf x (by simp)) (fun _ h => tailP_ok hK (fun x hx => hf x (by simp [hx])) hT h) h
theorem sysF_ok {K : Int} (hK : K ≤ 2) {nv : Nat} {R : Rls} (hR : GoodR nv R) {F : List Wds} (h : SysF K R nv F) : ∀ v, OkW (F.getD v []) := fun v w hw =>
  h.least (fun _ w => okw w) (fun r hr w hw => aheadP_ok hK (hR r hr).2.1 (fun w e => by rw [e]; exact okw_nil) hw) v w hw
theorem sysD_ok {K : Int} (hK : K ≤ 2) {nv : Nat} {R : Rls} (hR : GoodR nv R) {F : List Wds} (h : SysD K R nv F) : ∀ v, OkW (F.getD v []) := fun v w hw =>
  h.least (fun _ w => okw w) (fun _ w => okw w) (fun r hr w hw => aheadP_ok hK (hR r hr).2.1 (fun w e => by rw [e]; exact okw_nil) hw)
    ⟨okw_nil, fun r hr i x _ _ w hw => tailP_ok hK (fun y hy => (hR r hr).2.1 y (List.mem_of_mem_drop hy)) (fun _ h => h) hw⟩ v w hw
theorem AllS.add {lo : Nat} {bs : List Nat} {lvs : List Value} {Ls : List Wds} {w w' : World} (h : AllS lo bs lvs Ls w) (hg : Grow w w') (hlo : lo ≤ w.heap.size) {ob : Nat} {L : Wds} (ho : SetB w.heap.size ob L w') : ∃ lv, AllS lo (bs ++ [ob]) (lvs ++ [lv]) (Ls ++ [L]) w' := by
  obtain ⟨lv, vs, h1, _, h3, h4⟩ := ho
  have hb : ∀ (i : Nat) b, bs[i]? = some b → b < w.heap.size := fun i b hi => by
    obtain ⟨_, _, _, _, _, h5⟩ := h.get hi
    exact lt_of_block h5.blk
  have hl : ∀ (i : Nat) a k, lvs[i]? = some a → a.ownBlock = some k → k < w.heap.size := fun i a k hi hk => by
    have hil : i < bs.length := by rw [← h.len]; exact (List.getElem?_eq_some_iff.1 hi).1
    obtain ⟨a', vs', L', h5, _, h6⟩ := h.get (List.getElem?_eq_getElem hil)
    rw [hi] at h5
    cases h5
    exact (row_ge h6.row hk).1
  have key : ∀ {α : Type} (xs : List α) (x : α) (i : Nat) (y : α), (xs ++ [x])[i]? = some y → xs[i]? = some y ∨ (i = xs.length ∧ y = x) := fun xs x i y h => by
    rcases Nat.lt_or_ge i xs.length with hlt | hge
    · rw [List.getElem?_append_left hlt] at h; exact .inl h
    · rw [List.getElem?_append_right hge] at h
      have : i - xs.length = 0 := by
        rcases Nat.eq_zero_or_pos (i - xs.length) with h0 | h0
        · exact h0
        · rw [List.getElem?_eq_none (by simp; omega)] at h; cases h
      rw [this] at h
      simp at h
      exact .inr ⟨by omega, h.symm⟩
  have lt_of : ∀ {α : Type} {xs : List α} {i : Nat} {y : α}, xs[i]? = some y → i < xs.length := fun h => (List.getElem?_eq_some_iff.1 h).1
  have e1 := h.len
  have e2 := h.len2
  refine ⟨lv, by simp [e1], by simp [e2], fun i b a M h5 h6 h7 => ?_, fun i b h5 => ?_, fun i a h5 k hk => ?_, fun i j b h5 h6 => ?_, fun i j a b h5 h6 hne k ha hb' => ?_⟩
  · rcases key _ _ _ _ h5 with q5 | ⟨q5, q5'⟩
    · rcases key _ _ _ _ h6 with q6 | ⟨e, _⟩
      · rcases key _ _ _ _ h7 with q7 | ⟨e, _⟩
        · obtain ⟨us, hu⟩ := h.at_ i b a M q5 q6 q7
          exact ⟨us, hu.grow hg⟩
        · have := lt_of q5; omega
      · have := lt_of q5; omega
    · rcases key _ _ _ _ h6 with q6 | ⟨_, q6⟩
      · have := lt_of q6; omega
      · rcases key _ _ _ _ h7 with q7 | ⟨_, q7⟩
        · have := lt_of q7; omega
        · rw [q5', q6, q7]; exact ⟨vs, h1⟩
  · rcases key _ _ _ _ h5 with q5 | ⟨_, q5⟩
    · exact h.lob i b q5
    · omega
  · rcases key _ _ _ _ h5 with q5 | ⟨_, q5⟩
    · exact h.lol i a q5 k hk
    · rw [q5] at hk
      have := h4 k hk; omega
  · rcases key _ _ _ _ h5 with q5 | ⟨q5, q5'⟩
    · rcases key _ _ _ _ h6 with q6 | ⟨_, q6⟩
      · exact h.two i j b q5 q6
      · have := hb i _ q5; omega
    · rcases key _ _ _ _ h6 with q6 | ⟨q6, _⟩
      · have := hb j _ q6; omega
      · omega
  · rcases key _ _ _ _ h5 with q5 | ⟨q5, q5'⟩
    · rcases key _ _ _ _ h6 with q6 | ⟨_, q6⟩
      · exact h.apart i j a b q5 q6 hne k ha hb'
      · rw [q6] at hb'
        have := hl i a k q5 ha; have := h4 k hb'; omega
    · rw [q5'] at ha
      rcases key _ _ _ _ h6 with q6 | ⟨q6, _⟩
      · have := hl j b k q6 hb'; have := h4 k ha; omega
      · exact hne (q5.trans q6.symm)
theorem AllS.cut {lo : Nat} {bs bx : List Nat} {lvs : List Value} {Ls lx : List Wds} {w : World} (h : AllS lo (bs ++ bx) lvs (Ls ++ lx) w) (hl : Ls.length = bs.length) : AllS lo bs (lvs.take bs.length) Ls w := by
  have e1 := h.len
  rw [List.length_append] at e1
  have lt_of : ∀ {α : Type} {xs : List α} {i : Nat} {y : α}, xs[i]? = some y → i < xs.length := fun h => (List.getElem?_eq_some_iff.1 h).1
  have hb : ∀ {i : Nat} {b : Nat}, bs[i]? = some b → (bs ++ bx)[i]? = some b := fun h => by rw [List.getElem?_append_left (lt_of h)]; exact h
  have hL : ∀ {i : Nat} {b : Wds}, Ls[i]? = some b → (Ls ++ lx)[i]? = some b := fun h => by rw [List.getElem?_append_left (lt_of h)]; exact h
  have hv : ∀ {i : Nat} {b : Value}, (lvs.take bs.length)[i]? = some b → lvs[i]? = some b := fun {i b} h => by
    have := lt_of h
    rw [List.length_take] at this
    rw [List.getElem?_take, if_pos (by omega)] at h
    exact h
  exact ⟨by rw [List.length_take]; omega, hl, fun i b lv L h1 h2 h3 => h.at_ i b lv L (hb h1) (hv h2) (hL h3), fun i b h1 => h.lob i b (hb h1), fun i lv h1 => h.lol i lv (hv h1), fun i j b h1 h2 => h.two i j b (hb h1) (hb h2), fun i j a b h1 h2 => h.apart i j a b (hv h1) (hv h2)⟩
/-- The sets as they are being filled; some sets besides. -/
structure FillX (w : World) (lo mb sb : Nat) (K : Int) (pb pc qb qc : Nat) (g : GramD) (R : Rls) (bs : List Nat) (nv : Nat) (n0 : Int) (bx : List Nat) (lx : List Wds) (F Fo : List Wds) (wr : World) : Prop where
  sets : SetsB sb K pb pc qb qc g bs nv wr
  all : ∃ lvs, AllS lo (bs ++ bx) lvs (F ++ Fo ++ lx) wr
  sysF : SysF K R nv F
  sysD : SysD K R nv Fo
  met : ∃ l s : Int, MeterAt wr mb l s ∧ 0 ≤ l ∧ 0 ≤ s ∧ l + s = n0 ∧ s = (wordsN F + wordsN Fo : Nat)
  tch : Tch lo mb w wr
def leftOf (mb : Nat) (w : World) : Nat := match w.cell? ⟨mb, 0, none⟩ with | some (.int _ l) => l.toNat | _ => 0
theorem leftOf_met {mb : Nat} {w : World} {l s : Int} (h : MeterAt w mb l s) : leftOf mb w = l.toNat := by
  have := cell_of_block (off := 0) h
  unfold leftOf
  rw [this]
  rfl
def Over (K : Int) (R : Rls) (nv : Nat) (n0 : Int) : Prop := ∃ F Fo, SysF K R nv F ∧ SysD K R nv Fo ∧ n0 < (wordsN F + wordsN Fo : Nat)
/-- Behind work that was too much. -/
def OverPost (w : World) (lo mb : Nat) (K : Int) (R : Rls) (nv : Nat) (n0 : Int) (e : Ending) (w' : World) : Prop :=
  e = .panicked [{ v := overV mb, recovered := false }] ∧ Over K R nv n0 ∧ Tch lo mb w w' ∧ ∃ l s, MeterAt w' mb l s
section
variable {w : World} {lo mb sb : Nat} {K : Int} {pb pc qb qc : Nat} {g : GramD} {R : Rls} {bs : List Nat} {nv : Nat} {n0 : Int} {bx : List Nat} {lx : List Wds} {F Fo : List Wds} {wr : World}
theorem FillX.lens (h : FillX w lo mb sb K pb pc qb qc g R bs nv n0 bx lx F Fo wr) : F.length = nv ∧ Fo.length = nv ∧ bs.length = 2 * nv := ⟨h.sysF.len, h.sysD.len, h.sets.len⟩
theorem FillX.go (h : FillX w lo mb sb K pb pc qb qc g R bs nv n0 bx lx F Fo wr) {w' : World} (hg : Grow wr w') : FillX w lo mb sb K pb pc qb qc g R bs nv n0 bx lx F Fo w' := by
  obtain ⟨lvs, ha⟩ := h.all
  obtain ⟨l, s, h1, h2⟩ := h.met
  exact ⟨h.sets.go hg, ⟨lvs, ha.go hg⟩, h.sysF, h.sysD, ⟨l, s, (hg.block _ (lt_of_block h1)).trans h1, h2⟩, h.tch.trans (Tch.grow hg)⟩
theorem leftOf_go (h : FillX w lo mb sb K pb pc qb qc g R bs nv n0 bx lx F Fo wr) {w' : World} (hg : Grow wr w') : leftOf mb w' = leftOf mb wr := by
  obtain ⟨l, s, h1, h2⟩ := h.met
  have h3 : MeterAt w' mb l s := (hg.block _ (lt_of_block h1)).trans h1
  rw [leftOf_met h1, leftOf_met h3]
theorem FillX.cut (h : FillX w lo mb sb K pb pc qb qc g R bs nv n0 bx lx F Fo wr) : FillX w lo mb sb K pb pc qb qc g R bs nv n0 [] [] F Fo wr := by
  obtain ⟨lvs, ha⟩ := h.all
  obtain ⟨e1, e2, e3⟩ := h.lens
  exact ⟨h.sets, ⟨_, by rw [List.append_nil, List.append_nil]; exact ha.cut (by rw [List.length_append]; omega)⟩, h.sysF, h.sysD, h.met, h.tch⟩
theorem FillX.add (h : FillX w lo mb sb K pb pc qb qc g R bs nv n0 bx lx F Fo wr) (hlo : lo ≤ w.heap.size) {w' : World} (hg : Grow wr w') {ob : Nat} {L : Wds} (ho : SetB wr.heap.size ob L w') : FillX w lo mb sb K pb pc qb qc g R bs nv n0 [ob] [L] F Fo w' := by
  have h0 := h.cut
  obtain ⟨lvs, ha⟩ := h0.all
  rw [List.append_nil, List.append_nil] at ha
  obtain ⟨lv, hb⟩ := ha.add hg (Nat.le_trans hlo h.tch.size) ho
  have h1 := h0.go hg
  exact ⟨h1.sets, ⟨_, hb⟩, h1.sysF, h1.sysD, h1.met, h1.tch⟩
/-- A set, turned: what it gives. -/
theorem FillX.turn (h : FillX w lo mb sb K pb pc qb qc g R bs nv n0 bx lx F Fo wr) (hK : K ≤ 2) (hR : GoodR nv R) (hlo : lo ≤ w.heap.size) (hml : lo ≤ mb) (hn0 : n0 ≤ 1000000) {p b : Nat} (hp : bs[p]? = some b) {ob : Nat} {T : Wds} (hT : SetE ob T wr) (hO : OkW T)
    {F2 Fo2 : List Wds} (he : (F ++ Fo).set p (takeL ((F ++ Fo).getD p []) T) = F2 ++ Fo2) (hF : SysF K R nv F2) (hD : SysD K R nv Fo2) (hw : ∀ n, n + ((F ++ Fo).getD p []).length = (takeL ((F ++ Fo).getD p []) T).length → wordsN F2 + wordsN Fo2 = wordsN F + wordsN Fo + n) :
    (∃ n : Nat, n + ((F ++ Fo).getD p []).length = (takeL ((F ++ Fo).getD p []) T).length ∧ Calls Try.prog 64 #[.pointer (some ⟨mb, 0, none⟩), .pointer (some ⟨b, 0, none⟩), .pointer (some ⟨ob, 0, none⟩)] wr fun e w' => e = .returned (.bool (decide (0 < n))) ∧ FillX w lo mb sb K pb pc qb qc g R bs nv n0 bx lx F2 Fo2 w' ∧ leftOf mb w' + n = leftOf mb wr)
    ∨ Calls Try.prog 64 #[.pointer (some ⟨mb, 0, none⟩), .pointer (some ⟨b, 0, none⟩), .pointer (some ⟨ob, 0, none⟩)] wr (OverPost w lo mb K R nv n0) := by
  obtain ⟨lvs, ha⟩ := h.all
  obtain ⟨l, s, hm, hl0, hs0, hls, hs⟩ := h.met
  obtain ⟨e1, e2, e3⟩ := h.lens
  have hpb := (List.getElem?_eq_some_iff.1 hp).1
  have hpl : p < (F ++ Fo).length := by
    rw [List.length_append]; omega
  have hg1 : (F ++ Fo ++ lx).getD p [] = (F ++ Fo).getD p [] := by
    rw [List.getD_eq_getElem?_getD, List.getElem?_append_left hpl, ← List.getD_eq_getElem?_getD]
  have hset : (F ++ Fo ++ lx).set p (takeL ((F ++ Fo).getD p []) T) = F2 ++ Fo2 ++ lx := by rw [List.set_append_left _ _ hpl, he]
  have hso : Sorted ((F ++ Fo).getD p []) ∧ OkW ((F ++ Fo).getD p []) := by
    rcases Nat.lt_or_ge p F.length with hlt | hge
    · rw [getD_app1 hlt]
      exact ⟨h.sysF.sorted p, sysF_ok hK hR h.sysF p⟩
    · obtain ⟨q, rfl⟩ : ∃ q, p = F.length + q := ⟨p - F.length, by omega⟩
      rw [getD_app2]
      exact ⟨h.sysD.sorted q, sysD_ok hK hR h.sysD q⟩
  have hG := grow_any ha (Nat.le_trans hlo h.tch.size) hml (i := p) (b := b) (by rw [List.getElem?_append_left (by omega)]; exact hp) (by rw [hg1]; exact hso.1) hm hT (by rw [hg1]; exact hso.2) hO hl0 hs0 (by omega)
  unfold GrowPost at hG
  rw [hg1, hset] at hG
  have hle := takeL_len ((F ++ Fo).getD p []) T
  obtain ⟨n, hn⟩ : ∃ n : Nat, n + ((F ++ Fo).getD p []).length = (takeL ((F ++ Fo).getD p []) T).length := ⟨(takeL ((F ++ Fo).getD p []) T).length - ((F ++ Fo).getD p []).length, by omega⟩
  have hwn := hw n hn
  by_cases hfit : (n : Int) ≤ l
  · refine .inl ⟨n, hn, hG.mono ?_⟩
    rintro e w' ⟨lvs', h1, h2, n', h3, h4⟩
    obtain rfl : n' = n := by omega
    rw [if_pos hfit] at h4
    refine ⟨h4.1, ⟨h.sets.kept (fun k cs t hk ht => h2.typ k cs t hk (by rcases ht with rfl | rfl <;> decide) (by rcases ht with rfl | rfl <;> decide) ?_), ⟨lvs', h1⟩, hF, hD, ⟨_, _, h4.2, by omega, by omega, by omega, by rw [hwn]; omega⟩, h.tch.trans h2⟩, ?_⟩
    · rintro rfl
      unfold MeterAt at hm
      rw [hm] at hk
      injection hk with hk
      injection hk with _ h5
      rcases ht with rfl | rfl <;> exact absurd h5 (by decide)
    · rw [leftOf_met hm, leftOf_met h4.2]; omega
  · refine .inr (hG.mono ?_)
    rintro e w' ⟨lvs', h1, h2, n', h3, h4⟩
    obtain rfl : n' = n := by omega
    rw [if_neg hfit] at h4
    exact ⟨h4.1, ⟨F2, Fo2, hF, hD, by rw [hwn]; omega⟩, h.tch.trans h2, _, _, h4.2⟩
end
end Go.Proofs.Ytmiiolgbjicocaa
namespace Go.Proofs.Ytmiiolgbjicocaa
open Go.RowKit
def rulesOf (g : GramD) : Rls := g.rules.map fun r => (r.left.toNat, r.right)
section
variable {w : World} {lo mb sb : Nat} {K : Int} {pb pc qb qc : Nat} {g : GramD} {R : Rls} {bs : List Nat} {nv : Nat} {n0 : Int} {bx : List Nat} {lx : List Wds} {F Fo : List Wds} {wr : World}
theorem FillX.rebase (h : FillX w lo mb sb K pb pc qb qc g R bs nv n0 bx lx F Fo wr) : FillX wr lo mb sb K pb pc qb qc g R bs nv n0 bx lx F Fo wr := ⟨h.sets, h.all, h.sysF, h.sysD, h.met, Tch.refl _ _ _⟩
theorem FillX.onto (h : FillX w lo mb sb K pb pc qb qc g R bs nv n0 bx lx F Fo wr) {w0 : World} (ht : Tch lo mb w0 w) : FillX w0 lo mb sb K pb pc qb qc g R bs nv n0 bx lx F Fo wr := ⟨h.sets, h.all, h.sysF, h.sysD, h.met, ht.trans h.tch⟩
theorem OverPost.onto {e : Ending} {w' : World} (h : OverPost w lo mb K R nv n0 e w') {w0 : World} (ht : Tch lo mb w0 w) : OverPost w0 lo mb K R nv n0 e w' := ⟨h.1, h.2.1, ht.trans h.2.2.1, h.2.2.2⟩
theorem FillX.first (h : FillX w lo mb sb K pb pc qb qc g R bs nv n0 bx lx F Fo wr) (hK : K ≤ 2) (hR : GoodR nv R) (hlo : lo ≤ w.heap.size) (hml : lo ≤ mb) (hn0 : n0 ≤ 1000000) {r : Nat × List Int} (hr : r ∈ R) {b : Nat} (hp : bs[r.1]? = some b) {ob : Nat} (hT : SetE ob (aheadL K F r.2 [[]]) wr) :
    (∃ n : Nat, n + (F.getD r.1 []).length = (takeL (F.getD r.1 []) (aheadL K F r.2 [[]])).length ∧ Calls Try.prog 64 #[.pointer (some ⟨mb, 0, none⟩), .pointer (some ⟨b, 0, none⟩), .pointer (some ⟨ob, 0, none⟩)] wr fun e w' => e = .returned (.bool (decide (0 < n))) ∧ FillX w lo mb sb K pb pc qb qc g R bs nv n0 bx lx (F.set r.1 (takeL (F.getD r.1 []) (aheadL K F r.2 [[]]))) Fo w' ∧ leftOf mb w' + n = leftOf mb wr)
    ∨ Calls Try.prog 64 #[.pointer (some ⟨mb, 0, none⟩), .pointer (some ⟨b, 0, none⟩), .pointer (some ⟨ob, 0, none⟩)] wr (OverPost w lo mb K R nv n0) := by
  obtain ⟨e1, e2, e3⟩ := h.lens
  obtain ⟨h1, h2, h3⟩ := hR r hr
  have hl : r.1 < F.length := by omega
  have := h.turn hK hR hlo hml hn0 hp hT (okW_ahead (sysF_ok hK hR h.sysF) hK h2 okW_nil) (F2 := F.set r.1 (takeL (F.getD r.1 []) (aheadL K F r.2 [[]]))) (Fo2 := Fo)
    (by rw [getD_app1 hl, List.set_append_left _ _ hl]) (h.sysF.step hr h1) h.sysD (fun n hn => by
      rw [getD_app1 hl] at hn
      have := wordsN_set (L := takeL (F.getD r.1 []) (aheadL K F r.2 [[]])) hl
      omega)
  rwa [getD_app1 hl] at this
theorem FillX.follow (h : FillX w lo mb sb K pb pc qb qc g R bs nv n0 bx lx F Fo wr) (hK : K ≤ 2) (hR : GoodR nv R) (hlo : lo ≤ w.heap.size) (hml : lo ≤ mb) (hn0 : n0 ≤ 1000000) {x b : Nat} (hx : x < nv) (hp : bs[nv + x]? = some b) {ob : Nat} {T : Wds} (hT : SetE ob T wr) (hO : OkW T) (hD : SysD K R nv (Fo.set x (takeL (Fo.getD x []) T))) :
    (∃ n : Nat, n + (Fo.getD x []).length = (takeL (Fo.getD x []) T).length ∧ Calls Try.prog 64 #[.pointer (some ⟨mb, 0, none⟩), .pointer (some ⟨b, 0, none⟩), .pointer (some ⟨ob, 0, none⟩)] wr fun e w' => e = .returned (.bool (decide (0 < n))) ∧ FillX w lo mb sb K pb pc qb qc g R bs nv n0 bx lx F (Fo.set x (takeL (Fo.getD x []) T)) w' ∧ leftOf mb w' + n = leftOf mb wr)
    ∨ Calls Try.prog 64 #[.pointer (some ⟨mb, 0, none⟩), .pointer (some ⟨b, 0, none⟩), .pointer (some ⟨ob, 0, none⟩)] wr (OverPost w lo mb K R nv n0) := by
  obtain ⟨e1, e2, e3⟩ := h.lens
  have hl : x < Fo.length := by omega
  have hp' : bs[F.length + x]? = some b := by rw [e1]; exact hp
  have := h.turn hK hR hlo hml hn0 hp' hT hO (F2 := F) (Fo2 := Fo.set x (takeL (Fo.getD x []) T))
    (by rw [getD_app2, List.set_append_right _ _ (by omega), show F.length + x - F.length = x by omega]) h.sysF hD (fun n hn => by
      rw [getD_app2] at hn
      have := wordsN_set (L := takeL (Fo.getD x []) T) hl
      omega)
  rwa [getD_app2] at this
/-- The sets, as Ahead reads them. -/
theorem FillX.reads (h : FillX w lo mb sb K pb pc qb qc g R bs nv n0 bx lx F Fo wr) : SetsR sb K g nv F Fo wr := by
  obtain ⟨lvs, ha⟩ := h.cut.all
  rw [List.append_nil, List.append_nil] at ha
  exact ⟨⟨_, _, _, _, _, _, _, h.sets, ha⟩, h.sysF.len, h.sysD.len, h.sysF.sorted, h.sysD.sorted⟩
/-- A set of the family, whichever. -/
theorem FillX.setE (h : FillX w lo mb sb K pb pc qb qc g R bs nv n0 bx lx F Fo wr) {i b : Nat} {L : Wds} (hb : (bs ++ bx)[i]? = some b) (hL : (F ++ Fo ++ lx)[i]? = some L) (hs : Sorted L) : SetE b L wr := by
  obtain ⟨lvs, ha⟩ := h.all
  have := ha.setE hb (by rw [getD_of hL]; exact hs)
  rwa [getD_of hL] at this
end
end Go.Proofs.Ytmiiolgbjicocaa
namespace Go.Proofs.Ytmiiolgbjicocaa
open Go.RowKit
def DoneR (K : Int) (F Fo : List Wds) (r : Nat × List Int) (m : Nat) : Prop := ∀ (i : Nat) (x : Int), m ≤ i → r.2[i]? = some x → 0 ≤ x → ∀ u ∈ tailL K F (Fo.getD r.1 []) (r.2.drop (i + 1)), u ∈ Fo.getD x.toNat []
def DoneD (K : Int) (R : Rls) (F Fo : List Wds) (k : Nat) : Prop := ∀ j, j < k → ∀ r, R[j]? = some r → DoneR K F Fo r 0
def LoopD (w : World) (lo mb sb : Nat) (K : Int) (pb pc qb qc : Nat) (g : GramD) (R : Rls) (bs : List Nat) (nv : Nat) (n0 : Int) (F Fo : List Wds) (left k : Nat) (c : Bool) (wq : World) : Prop :=
  ∃ Fo', FillX w lo mb sb K pb pc qb qc g R bs nv n0 [] [] F Fo' wq ∧ [] ∈ Fo'.getD 0 [] ∧ (c = false → Fo' = Fo ∧ leftOf mb wq = left ∧ DoneD K R F Fo k) ∧ (c = true → leftOf mb wq < left)
structure LoopT (w : World) (lo mb sb : Nat) (K : Int) (pb pc qb qc : Nat) (g : GramD) (R : Rls) (bs : List Nat) (nv : Nat) (n0 : Int) (F Fo : List Wds) (left k : Nat) (r : Nat × List Int) (j ob : Nat) (c : Bool) (wq : World) : Prop where
  ex : ∃ (bx : List Nat) (lx : List Wds) (Fo' : List Wds) (Tt : Wds) (idx : Nat), FillX w lo mb sb K pb pc qb qc g R bs nv n0 bx lx F Fo' wq ∧ (bs ++ bx)[idx]? = some ob ∧ (F ++ Fo' ++ lx)[idx]? = some Tt ∧ Sorted Tt ∧ OkW Tt ∧ (∀ u ∈ Tt, tailP K (memF F) (memF Fo' r.1) (r.2.drop j) u) ∧ [] ∈ Fo'.getD 0 [] ∧
    (c = false → Fo' = Fo ∧ leftOf mb wq = left ∧ DoneD K R F Fo k ∧ DoneR K F Fo r j ∧ ∀ u ∈ tailL K F (Fo.getD r.1 []) (r.2.drop j), u ∈ Tt) ∧ (c = true → leftOf mb wq < left)
theorem getD_get {F : List Wds} {i : Nat} (h : i < F.length) : F[i]? = some (F.getD i []) := by
  rw [List.getD_eq_getElem?_getD, List.getElem?_eq_getElem h]; rfl
section
variable {w : World} {lo mb sb : Nat} {K : Int} {pb pc qb qc : Nat} {g : GramD} {R : Rls} {bs : List Nat} {nv : Nat} {n0 : Int} {F Fo Fo' : List Wds} {left k : Nat} {r : Nat × List Int} {wq : World} {c : Bool}
theorem closedF_of (h : ∀ j, j < R.length → ∀ r, R[j]? = some r → ∀ u ∈ aheadL K F r.2 [[]], u ∈ F.getD r.1 []) : ClosedF K R (memF F) := fun r hr u hu => by
  obtain ⟨j, hj, rfl⟩ := List.mem_iff_getElem.1 hr
  exact h j hj _ (List.getElem?_eq_getElem hj) u (mem_ahead.2 (aheadP_mono (fun _ _ h => h) (fun w e => by rw [e]; simp) hu))
theorem closedD_of (h0 : [] ∈ Fo.getD 0 []) (h : DoneD K R F Fo R.length) : ClosedD K R (memF F) (memF Fo) := by
  refine ⟨h0, fun r hr i x hx h2 u hu => ?_⟩
  obtain ⟨j, hj, rfl⟩ := List.mem_iff_getElem.1 hr
  exact h j hj _ (List.getElem?_eq_getElem hj) i x (Nat.zero_le _) hx h2 u (mem_tail.2 hu)
/-- A rule is begun: its end is followed by what follows its variable. -/
theorem tail_start (hx : FillX w lo mb sb K pb pc qb qc g R bs nv n0 [] [] F Fo' wq) (hK : K ≤ 2) (hR : GoodR nv R) (h0 : [] ∈ Fo'.getD 0 []) (hc0 : c = false → Fo' = Fo ∧ leftOf mb wq = left ∧ DoneD K R F Fo k) (hc1 : c = true → leftOf mb wq < left) (hv : r.1 < nv) {ob : Nat} (hb : bs[nv + r.1]? = some ob)
    {w2 : World} (hg : Grow wq w2) : LoopT w lo mb sb K pb pc qb qc g R bs nv n0 F Fo left k r r.2.length ob c w2 := by
  obtain ⟨e1, e2, e3⟩ := hx.lens
  have hl := leftOf_go hx hg
  have hi : (F ++ Fo' ++ [])[nv + r.1]? = some (Fo'.getD r.1 []) := by
    rw [List.append_nil, List.getElem?_append_right (by omega), show nv + r.1 - F.length = r.1 by omega]
    exact getD_get (by omega)
  refine ⟨[], [], Fo', _, nv + r.1, hx.go hg, by rw [List.append_nil]; exact hb, hi, hx.sysD.sorted _, sysD_ok hK hR hx.sysD _, fun u hu => ?_, h0, fun h => ?_, fun h => by rw [hl]; exact hc1 h⟩
  · rw [List.drop_length]; exact hu
  · obtain ⟨rfl, h2, h3⟩ := hc0 h
    refine ⟨rfl, by rw [hl]; exact h2, h3, fun i x hi hx2 => ?_, fun u hu => ?_⟩
    · rw [List.getElem?_eq_none hi] at hx2; cases hx2
    · rw [List.drop_length] at hu; exact hu
theorem tail_set {idx x : Nat} {bx : List Nat} {lx : List Wds} {Tt : Wds} (hx : FillX w lo mb sb K pb pc qb qc g R bs nv n0 bx lx F Fo' wq) (hv : x < nv) (hi : (F ++ Fo' ++ lx)[idx]? = some Tt) : (F ++ Fo'.set x (takeL (Fo'.getD x []) Tt) ++ lx)[idx]? = some Tt := by
  obtain ⟨e1, e2, e3⟩ := hx.lens
  have he : F ++ Fo'.set x (takeL (Fo'.getD x []) Tt) ++ lx = (F ++ Fo' ++ lx).set (nv + x) (takeL (Fo'.getD x []) Tt) := by
    rw [List.set_append_left _ _ (by rw [List.length_append]; omega), List.set_append_right _ _ (by omega), show nv + x - F.length = x by omega]
  rw [he, List.getElem?_set]
  by_cases h : nv + x = idx
  · subst h
    rw [if_pos rfl]
    have h2 : Fo'.getD x [] = Tt := by
      rw [List.getElem?_append_left (by rw [List.length_append]; omega), List.getElem?_append_right (by omega), show nv + x - F.length = x by omega, getD_get (by omega)] at hi
      exact Option.some.inj hi
    rw [h2, takeL_id (fun _ h => h), if_pos (by rw [List.length_append, List.length_append]; omega)]
  · rw [if_neg h]; exact hi
/-- A symbol further ahead. -/
theorem tail_step {W w3 w4 : World} {bx : List Nat} {lx : List Wds} {Fo2 : List Wds} {Tt : Wds} {m n : Nat} {x : Int} (ht : Tch lo mb w W) (hlo : lo ≤ W.heap.size) (hK : K ≤ 2) (hR : GoodR nv R) (hr : r ∈ R) (hx : FillX W lo mb sb K pb pc qb qc g R bs nv n0 bx lx F Fo2 w3) (hO : OkW Tt)
    (hxm : r.2[m]? = some x) (hT : ∀ u ∈ Tt, tailP K (memF F) (memF Fo' r.1) (r.2.drop (m + 1)) u) (h0 : [] ∈ Fo'.getD 0 [])
    (hc0 : c = false → Fo' = Fo ∧ leftOf mb wq = left ∧ DoneD K R F Fo k ∧ DoneR K F Fo r (m + 1) ∧ ∀ u ∈ tailL K F (Fo.getD r.1 []) (r.2.drop (m + 1)), u ∈ Tt) (hc1 : c = true → leftOf mb wq < left)
    (hgr : ∀ v u, memF Fo' v u → memF Fo2 v u) (hl : leftOf mb w3 + n = leftOf mb wq) (hsame : n = 0 → Fo2 = Fo' ∧ (0 ≤ x → ∀ u ∈ Tt, u ∈ Fo'.getD x.toNat []))
    {bb c' : Bool} (hb : bb = true ↔ 0 < n) (hc' : c' = (bb || c)) {ob2 : Nat} (hg : Grow w3 w4) (ho : SetB w3.heap.size ob2 (aheadL K F [x] Tt) w4) :
    LoopT w lo mb sb K pb pc qb qc g R bs nv n0 F Fo left k r m ob2 c' w4 := by
  have hx4 := hx.add hlo hg ho
  have hl4 := leftOf_go hx hg
  obtain ⟨e1, e2, e3⟩ := hx.lens
  have hdrop : r.2.drop m = x :: r.2.drop (m + 1) := by
    obtain ⟨h1, h2⟩ := List.getElem?_eq_some_iff.1 hxm
    rw [← h2, List.drop_eq_getElem_cons h1]
  have hfo : FormOK nv [x] := fun y hy => by obtain rfl := List.mem_singleton.1 hy; exact (hR r hr).2.1 y (List.mem_of_getElem? hxm)
  refine ⟨[ob2], [_], Fo2, _, 2 * nv, hx4.onto ht, ?_, ?_, sorted_ahead _ _ _ _, okW_ahead (sysF_ok hK hR hx.sysF) hK hfo hO, fun u hu => ?_, hgr 0 [] h0, fun h => ?_, fun h => ?_⟩
  · rw [List.getElem?_append_right (by omega), show 2 * nv - bs.length = 0 by omega]; rfl
  · rw [List.getElem?_append_right (by rw [List.length_append]; omega), show 2 * nv - (F ++ Fo2).length = 0 by rw [List.length_append]; omega]; rfl
  · rw [hdrop]
    exact aheadP_mono (fun _ _ h => h) (fun u hu => tailP_mono (fun _ _ h => h) (hgr r.1) (hT u hu)) (mem_ahead.1 hu)
  · subst hc'
    have h1 : bb = false ∧ c = false := by simpa using h
    obtain ⟨rfl, h2, h3, h4, h5⟩ := hc0 h1.2
    have hn0 : n = 0 := by
      rcases Nat.eq_zero_or_pos n with h6 | h6
      · exact h6
      · have := hb.2 h6; rw [h1.1] at this; cases this
    obtain ⟨rfl, h6⟩ := hsame hn0
    refine ⟨rfl, by omega, h3, fun i y hi hy hy0 u hu => ?_, fun u hu => ?_⟩
    · rcases Nat.lt_or_ge m i with h7 | h7
      · exact h4 i y h7 hy hy0 u hu
      · obtain rfl : i = m := by omega
        rw [hxm] at hy; cases hy
        exact h6 hy0 u (h5 u hu)
    · rw [hdrop] at hu
      exact mem_ahead.2 (aheadP_mono (fun _ _ h => h) (fun u hu => h5 u hu) (mem_ahead.1 hu))
  · subst hc'
    cases c with
    | true => have := hc1 rfl; omega
    | false =>
      have h2 := (hc0 rfl).2.1
      have : bb = true := by simpa using h
      have := hb.1 this
      omega
theorem tail_end {ob : Nat} (h : LoopT w lo mb sb K pb pc qb qc g R bs nv n0 F Fo left k r 0 ob c wq) (hr : R[k]? = some r) : LoopD w lo mb sb K pb pc qb qc g R bs nv n0 F Fo left (k + 1) c wq := by
  obtain ⟨bx, lx, Fo', Tt, idx, hx, _, _, _, _, _, h0, hc0, hc1⟩ := h
  refine ⟨Fo', hx.cut, h0, fun hc => ?_, hc1⟩
  obtain ⟨rfl, h2, h3, h4, _⟩ := hc0 hc
  refine ⟨rfl, h2, fun j hj q hq => ?_⟩
  rcases Nat.lt_or_ge j k with h5 | h5
  · exact h3 j h5 q hq
  · obtain rfl : j = k := by omega
    rw [hr] at hq; cases hq
    exact h4
end
end Go.Proofs.Ytmiiolgbjicocaa
