/- The reference's sets: plain; its sets in memory. -/
import Derived.Test.YtmiiolgbjicocaaRefA
import Derived.Test.YtmiiolgbjicocaaMeansL
import Derived.Test.YtmiiolgbjicocaaFirstW
namespace Go.Proofs.Ytmiiolgbjicocaa
open Dv
def raccL (k : Int) (F : List Wds) : Wds → List Int → Wds
  | acc, [] => acc
  | acc, s :: f => raccL k F (timesL acc (xOf F s) k) f
/-- The reference's Ahead. -/
def raheadL (k : Int) (F : List Wds) (f : List Int) (T : Wds) : Wds := timesL (raccL k F [[]] f) T k
theorem cut_l (u v : List Int) (K : Int) : cutL (cutL u K ++ v) K = cutL (u ++ v) K := by
  unfold cutL
  generalize K.toNat = n
  have e : n - (u.take n).length = n - u.length := by rw [List.length_take]; omega
  rw [List.take_append, e, List.take_take, Nat.min_self, List.take_append]
theorem cut_r (u v : List Int) (K : Int) : cutL (u ++ cutL v K) K = cutL (u ++ v) K := by
  unfold cutL
  generalize K.toNat = n
  rw [List.take_append, List.take_append, List.take_take, Nat.min_eq_left (by omega)]
theorem join_cut (u v : List Int) (K : Int) : joinL u v K = cutL (u ++ v) K := rfl
inductive ProdC (C : Nat → List Int → Prop) : List Int → List Int → Prop
  | nil : ProdC C [] []
  | cons {s : Int} {f a p : List Int} : xP C s a → ProdC C f p → ProdC C (s :: f) (a ++ p)
section
variable {K : Int} {C : Nat → List Int → Prop}
theorem aheadP_prod : ∀ {f : List Int} {T : List Int → Prop} {w : List Int}, aheadP K C f T w ↔ ∃ p t, ProdC C f p ∧ T t ∧ w = cutL (p ++ t) K
  | [], T, w => by
    rw [aheadP]
    constructor
    · rintro ⟨t, ht, rfl⟩
      exact ⟨[], t, .nil, ht, by rw [join_cut, List.append_nil]; rfl⟩
    · rintro ⟨p, t, hp, ht, rfl⟩
      cases hp
      exact ⟨t, ht, by rw [join_cut, List.append_nil]; rfl⟩
  | s :: f, T, w => by
    rw [aheadP]
    constructor
    · rintro ⟨a, ha, b, hb, rfl⟩
      obtain ⟨p, t, hp, ht, rfl⟩ := aheadP_prod.1 hb
      exact ⟨a ++ p, t, .cons ha hp, ht, by rw [join_cut, cut_r, List.append_assoc]⟩
    · rintro ⟨p, t, hp, ht, rfl⟩
      cases hp with
      | cons ha hp => exact ⟨_, ha, _, aheadP_prod.2 ⟨_, t, hp, ht, rfl⟩, by rw [join_cut, cut_r, List.append_assoc]⟩
theorem tailP_prod {T : List Int → Prop} (hT : ∀ t, T t → cutL t K = t) : ∀ {f : List Int} {w : List Int}, tailP K C T f w ↔ ∃ p t, ProdC C f p ∧ T t ∧ w = cutL (p ++ t) K
  | [], w => by
    rw [tailP]
    constructor
    · intro h
      exact ⟨[], w, .nil, h, (hT w h).symm⟩
    · rintro ⟨p, t, hp, ht, rfl⟩
      cases hp
      rw [List.nil_append, hT t ht]
      exact ht
  | s :: f, w => by
    rw [tailP, aheadP_prod]
    constructor
    · rintro ⟨p, t', hp, ht', rfl⟩
      obtain ⟨p2, t, hp2, ht, rfl⟩ := (tailP_prod hT).1 ht'
      cases hp with
      | cons ha hp =>
        cases hp
        exact ⟨_ ++ p2, t, .cons ha hp2, ht, by rw [List.append_nil, cut_r, List.append_assoc]⟩
    · rintro ⟨p, t, hp, ht, rfl⟩
      cases hp with
      | cons ha hp => exact ⟨_ ++ [], _, .cons ha .nil, (tailP_prod hT).2 ⟨_, t, hp, ht, rfl⟩, by rw [List.append_nil, cut_r, List.append_assoc]⟩
theorem tail_ahead {T : List Int → Prop} (hT : ∀ t, T t → cutL t K = t) {f w : List Int} : tailP K C T f w ↔ aheadP K C f T w := by rw [tailP_prod hT, aheadP_prod]
end
theorem mem_racc {K : Int} {F : List Wds} {T : Wds} : ∀ {f : List Int} {acc : Wds} {w : List Int}, w ∈ timesL (raccL K F acc f) T K ↔ ∃ a ∈ acc, ∃ p t, ProdC (memF F) f p ∧ t ∈ T ∧ w = cutL (a ++ (p ++ t)) K
  | [], acc, w => by
    rw [raccL, mem_timesL]
    constructor
    · rintro ⟨a, ha, b, hb, rfl⟩
      exact ⟨a, ha, [], b, .nil, hb, rfl⟩
    · rintro ⟨a, ha, p, t, hp, ht, rfl⟩
      cases hp
      exact ⟨a, ha, t, ht, rfl⟩
  | s :: f, acc, w => by
    rw [raccL, mem_racc]
    constructor
    · rintro ⟨a, ha, p, t, hp, ht, rfl⟩
      rw [mem_timesL] at ha
      obtain ⟨a1, ha1, x, hx, rfl⟩ := ha
      exact ⟨a1, ha1, x ++ p, t, .cons (mem_xOf.1 hx) hp, ht, by rw [join_cut, cut_l]; simp⟩
    · rintro ⟨a, ha, p, t, hp, ht, rfl⟩
      cases hp with
      | cons hx hp => exact ⟨_, mem_timesL.2 ⟨a, ha, _, mem_xOf.2 hx, rfl⟩, _, t, hp, ht, by rw [join_cut, cut_l]; simp⟩
theorem mem_rahead {K : Int} {F : List Wds} {f : List Int} {T : Wds} {w : List Int} : w ∈ raheadL K F f T ↔ aheadP K (memF F) f (· ∈ T) w := by
  unfold raheadL
  rw [mem_racc, aheadP_prod]
  constructor
  · rintro ⟨a, ha, p, t, h1, h2, rfl⟩
    obtain rfl : a = [] := by simpa using ha
    exact ⟨p, t, h1, h2, rfl⟩
  · rintro ⟨p, t, h1, h2, rfl⟩
    exact ⟨[], by simp, p, t, h1, h2, rfl⟩
theorem rahead_eq (K : Int) (F : List Wds) (f : List Int) (T : Wds) : raheadL K F f T = aheadL K F f T :=
  sorted_unique (timesL_sorted _ _ _) (sorted_ahead _ _ _ _) (fun w => by rw [mem_rahead, mem_ahead])
/-- Two systems that are least and closed are one. -/
theorem sys_unique {K : Int} {R : Rls} {nv : Nat} {F Fo F' Fo' : List Wds} (h1 : SysF K R nv F) (h2 : SysD K R nv Fo) (h3 : ClosedF K R (memF F)) (h4 : ClosedD K R (memF F) (memF Fo)) (k1 : SysF K R nv F') (k2 : SysD K R nv Fo') (k3 : ClosedF K R (memF F')) (k4 : ClosedD K R (memF F') (memF Fo')) : F = F' ∧ Fo = Fo' := by
  have key : ∀ {A B : List Wds}, A.length = nv → B.length = nv → (∀ v, Sorted (A.getD v [])) → (∀ v, Sorted (B.getD v [])) → (∀ v w, memF A v w ↔ memF B v w) → A = B := fun {A B} a b c d e => by
    refine List.ext_getElem (by omega) (fun i hi hj => ?_)
    have e1 : A.getD i [] = A[i] := by rw [List.getD_eq_getElem?_getD, List.getElem?_eq_getElem hi]; rfl
    have e2 : B.getD i [] = B[i] := by rw [List.getD_eq_getElem?_getD, List.getElem?_eq_getElem hj]; rfl
    rw [← e1, ← e2]
    exact sorted_unique (c i) (d i) (fun w => e i w)
  exact ⟨key h1.len k1.len h1.sorted k1.sorted (fun v w => ⟨h1.least _ k3 v w, k1.least _ h3 v w⟩), key h2.len k2.len h2.sorted k2.sorted (fun v w => ⟨h2.least _ _ k3 k4 v w, k2.least _ _ h3 h4 v w⟩)⟩
theorem sub_len : ∀ {A B : Wds}, A.Nodup → (∀ w ∈ A, w ∈ B) → A.length ≤ B.length
  | [], _, _, _ => Nat.zero_le _
  | a :: A, B, hn, h => by
    obtain ⟨h1, h2⟩ := List.nodup_cons.1 hn
    have hm := h a (by simp)
    have := sub_len (A := A) (B := B.erase a) h2 (fun w hw => (List.mem_erase_of_ne (fun e => h1 (by rw [← e]; exact hw))).2 (h w (by simp [hw])))
    rw [List.length_erase_of_mem hm] at this
    have := List.length_pos_of_mem hm
    simp only [List.length_cons]
    omega
theorem words_sub : ∀ {A B : List Wds}, A.length = B.length → (∀ v, Sorted (A.getD v [])) → (∀ v w, memF A v w → memF B v w) → wordsN A ≤ wordsN B
  | [], [], _, _, _ => Nat.le_refl _
  | a :: A, b :: B, hl, hs, h => by
    have h1 := sub_len (hs 0).nodup (fun w hw => h 0 w hw)
    have h2 := words_sub (A := A) (B := B) (by simpa using hl) (fun v => hs (v + 1)) (fun v w hw => h (v + 1) w hw)
    simp only [wordsN, List.map_cons, List.sum_cons] at h2 ⊢
    have h3 : a.length ≤ b.length := h1
    omega
/-- What is closed holds no fewer words than what is least. -/
theorem over_not {K : Int} {R : Rls} {nv : Nat} {F Fo : List Wds} {n : Int} (h1 : F.length = nv) (h2 : Fo.length = nv) (h3 : ClosedF K R (memF F)) (h4 : ClosedD K R (memF F) (memF Fo)) (hn : ((wordsN F + wordsN Fo : Nat) : Int) ≤ n) : ¬ Over K R nv n := by
  rintro ⟨F', Fo', k1, k2, k3⟩
  have e1 := words_sub (by rw [k1.len, h1]) k1.sorted (fun v w hw => k1.least _ h3 v w hw)
  have e2 := words_sub (by rw [k2.len, h2]) k2.sorted (fun v w hw => k2.least _ _ h3 h4 v w hw)
  omega
/-- Words no longer than may be. -/
def ShortK (K : Int) (Fo : List Wds) : Prop := ∀ v w, memF Fo v w → cutL w K = w
/-- A rule has nothing new to tell. -/
def DoneA (K : Int) (F Fo : List Wds) (r : Nat × List Int) : Prop := (∀ w ∈ raheadL K F r.2 [[]], memF F r.1 w) ∧ ∀ (j : Nat) (x : Int), r.2[j]? = some x → 0 ≤ x → ∀ w ∈ raheadL K F (r.2.drop (j + 1)) (Fo.getD r.1 []), memF Fo x.toNat w
theorem closed_of_done {K : Int} {R : Rls} {F Fo : List Wds} (h0 : memF Fo 0 []) (hs : ShortK K Fo) (h : ∀ r ∈ R, DoneA K F Fo r) : ClosedF K R (memF F) ∧ ClosedD K R (memF F) (memF Fo) := by
  refine ⟨fun r hr w hw => ?_, h0, fun r hr i x hx h1 w hw => ?_⟩
  · refine (h r hr).1 w (mem_rahead.2 ?_)
    exact aheadP_mono (fun _ _ h => h) (fun w e => by rw [e]; simp) hw
  · refine (h r hr).2 i x hx h1 w (mem_rahead.2 ?_)
    exact (tail_ahead (fun t ht => hs r.1 t ht)).1 hw
end Go.Proofs.Ytmiiolgbjicocaa
namespace Go.Proofs.Ytmiiolgbjicocaa
open Go.RowKit
theorem Made.typ {b : Nat} {v : Value} {L : Wds} {w w' : World} (h : Made b v L w) (k : ∀ (i : Nat) cs t, w.heap[i]? = some (.cells cs t (0, 0)) → (t = 26 ∨ t = 3) → w'.heap[i]? = w.heap[i]?) : Made b v L w' := by
  obtain ⟨vs, h1, h2⟩ := h
  refine ⟨vs, h1.keep (fun i hk => ?_), h2.keep (fun i cs hk => k i cs 3 hk (.inr rfl))⟩
  obtain ⟨_, _, cs, h3⟩ := row_ge h1 hk
  exact k i cs 26 h3 (.inl rfl)
/-- An array of lists of words. -/
structure ArrM (xb nv : Nat) (F : List Wds) (w : World) : Prop where
  len : F.length = nv
  ex : ∃ cs, w.heap[xb]? = some (.cells cs 39 (0, 0)) ∧ ∀ i, i < nv → ∃ v, cs[i]? = some v ∧ Made 0 v (F.getD i []) w
theorem ArrM.go {xb nv : Nat} {F : List Wds} {w w' : World} (h : ArrM xb nv F w) (k : Grow w w') : ArrM xb nv F w' := by
  obtain ⟨h1, cs, h2, h3⟩ := h
  exact ⟨h1, cs, (k.block _ (lt_of_block h2)).trans h2, fun i hi => by obtain ⟨v, h4, h5⟩ := h3 i hi; exact ⟨v, h4, h5.go k⟩⟩
theorem ArrM.at {xb nv : Nat} {F : List Wds} {w : World} (h : ArrM xb nv F w) {i : Nat} (hi : i < nv) : ∃ a c, w.cell? ⟨xb, i, none⟩ = some (.slice a (F.getD i []).length c) ∧ Lsts w a (F.getD i []) ∧ Made 0 (.slice a (F.getD i []).length c) (F.getD i []) w := by
  obtain ⟨h1, cs, h2, h3⟩ := h
  obtain ⟨v, h4, h5⟩ := h3 i hi
  obtain ⟨a, c, e, h6, _⟩ := h5.lsts
  subst e
  exact ⟨a, c, (cell_of_block (off := i) h2).trans h4, h6, h5⟩
theorem ArrM.lt {xb nv : Nat} {F : List Wds} {w : World} (h : ArrM xb nv F w) : xb < w.heap.size := by
  obtain ⟨h1, cs, h2, h3⟩ := h
  exact lt_of_block h2
/-- The sets' value. -/
def SV (K : Int) (nv xb cx yb cy : Nat) : Value := .agg #[.int .i64 K, .slice (some ⟨xb, 0, none⟩) nv cx, .slice (some ⟨yb, 0, none⟩) nv cy]
def sobj (K : Int) (nv xb cx yb cy : Nat) : Obj := .cells #[.int .i64 K, .slice (some ⟨xb, 0, none⟩) nv cx, .slice (some ⟨yb, 0, none⟩) nv cy] 31
theorem takeL_max (A B : Wds) : (takeL A B).length ≤ A.length + B.length := by
  unfold takeL
  induction B generalizing A with
  | nil => simp
  | cons b B ih =>
    rw [List.foldl_cons]
    have h1 := ih (rAdd A b)
    have h2 : (rAdd A b).length ≤ A.length + 1 := by
      unfold rAdd
      split
      · omega
      · simp only [List.length_append, List.length_take, List.length_drop, List.length_singleton]; omega
    simp only [List.length_cons]
    omega
theorem takeL_on {A B : Wds} {i : Nat} (hi : i < B.length) : takeL A (B.take (i + 1)) = rAdd (takeL A (B.take i)) B[i] := by
  unfold takeL
  rw [List.take_succ_eq_append_getElem hi, List.foldl_append]
  rfl
theorem okW_takeL {A B : Wds} (hA : OkW A) (hB : OkW B) : OkW (takeL A B) := fun w hw => by
  rcases mem_takeL.1 hw with h | h
  · exact hA w h
  · exact hB w h
theorem okW_s {L : Wds} (h : OkW L) : Short L := fun y hy => by have := (h y hy).1; omega
theorem okW_sub {L M : Wds} (h : OkW L) (hs : ∀ w ∈ M, w ∈ L) : OkW M := fun w hw => h w (hs w hw)
set_option maxHeartbeats 2000000 in
theorem rboth_any {base : Nat} {a b : Option Addr} {n ca cb : Nat} {A B : Wds} {w : World} (h : Made base (.slice a n ca) A w) (hB : base ≤ w.heap.size) (hb : Lsts w b B) (hA : OkW A) (hBo : OkW B) (hn : A.length ≤ 1000) (hn2 : B.length ≤ 1000) :
    Calls Try.prog 29 #[.slice a n ca, .slice b B.length cb] w (RPost base (takeL A B) w) := by
  obtain rfl : n = A.length := by
    obtain ⟨_, _, e⟩ := h.lit
    injection e with _ e _
  have HM := Lib.hid h
  have HB := Lib.hid hb
  have HO := Lib.hid (fun i => okW_s (okW_takeL hA (okW_sub (M := B.take i) hBo (fun w hw => List.mem_of_mem_take hw))))
  have HX := Lib.hid (fun i => takeL_max A (B.take i))
  have HOB := Lib.hid (okW_s hBo)
  clear h hb hA hBo
  go_enter Try.func29, Try.ntmps29
  go_wp2_with fail
  go_loopw [0, 5] (fun out i wr => ∃ p : Nat, p ≤ B.length ∧ i = .int .i64 p ∧ Hid (Made base out (takeL A (B.take p)) wr ∧ Grow w wr)) (fun _ i _ => B.length - (intOf i).toNat)
  case atStart => exact ⟨0, by omega, rfl, Lib.hid ⟨HM.out, Below.refl _ _⟩⟩
  case round =>
    obtain ⟨p, hp, rfl, hf⟩ := hrel
    by_cases hlt : p < B.length
    · have hki : (p : Int) < B.length := by omega
      have hp0 : (0 : Int) ≤ p := by omega
      obtain ⟨b2, o2, bi, ei, rfl, hb2, hd0, hi2, hd2, hld2⟩ := HB.out p hlt
      have hc2 := (below_cell hf.out.2 hb2).trans hd0
      have HI := Lib.hid (Lst.go hi2 hf.out.2)
      have hll := HOB.out _ (List.getElem_mem hlt)
      have HON := Lib.hid (takeL_on (A := A) hlt)
      have HS := Lib.hid (HO.out p)
      have hln := HX.out p
      rw [List.length_take] at hln
      obtain ⟨oa, oc, rfl⟩ := hf.out.1.lit
      have hbs := hf.out.2.size
      clear hi2 hd0
      generalize B[p] = y at *
      generalize takeL A (B.take p) = acc at *
      go_wp2_with (first | (go_at_call 38; refine (radd_any hf.out.1 (by omega) HI.out hd2 HS.out hll (by omega)).mono ?_; rintro e w3 ⟨v3, rfl, hm3, hg3⟩
                            have H3 := Lib.hid (And.intro hm3 (hf.out.2.trans hg3))
                            clear hm3 hg3))
      go_roundw
      case rel => exact ⟨p + 1, by omega, by go_num, by rw [HON.out]; exact H3⟩
      case measure => simp [intOf]; omega
    · have hki : ¬ (p : Int) < B.length := by omega
      have e : B.take p = B := List.take_of_length_le (by omega)
      rw [e] at hf
      go_wp2_with fail
      go_ret
      exact ⟨_, rfl, hf.out.1, hf.out.2⟩
theorem wordsN_take {F : List Wds} {i : Nat} (hi : i < F.length) : wordsN (F.take (i + 1)) = wordsN (F.take i) + (F.getD i []).length := by
  unfold wordsN
  rw [List.take_succ_eq_append_getElem hi, List.map_append, List.sum_append, List.getD_eq_getElem?_getD, List.getElem?_eq_getElem hi]
  simp
theorem wordsN_le {F : List Wds} (h : ∀ v, (F.getD v []).length ≤ 43) : ∀ i ≤ F.length, wordsN (F.take i) ≤ 43 * i
  | 0, _ => by simp [wordsN]
  | i + 1, hi => by
    rw [wordsN_take (by omega)]
    have := wordsN_le h i (by omega)
    have := h i
    omega
set_option maxHeartbeats 2000000 in
theorem words_any {K : Int} {nv xb cx yb cy : Nat} {F Fo : List Wds} {w : World} (h : ArrM xb nv F w) (h' : ArrM yb nv Fo w) (hv : nv ≤ 8) (hF : ∀ v, (F.getD v []).length ≤ 43) (hD : ∀ v, (Fo.getD v []).length ≤ 43) :
    Calls Try.prog 28 #[SV K nv xb cx yb cy] w fun e w' => e = .returned (.int .i64 ((wordsN F + wordsN Fo : Nat) : Int)) ∧ Grow w w' := by
  have HF := Lib.hid h
  have HD := Lib.hid h'
  have HLF := Lib.hid (wordsN_le hF)
  have HLD := Lib.hid (wordsN_le hD)
  have HFF := Lib.hid hF
  have HDD := Lib.hid hD
  have hl1 := h.len
  have hl2 := h'.len
  have hx := h.lt
  have hy := h'.lt
  clear h h' hF hD
  unfold SV
  go_enter Try.func28, Try.ntmps28
  go_wp2_with fail
  have HC := Lib.hid (heap_alloc_this w (.cells #[.int .i64 K, .slice (some ⟨xb, 0, none⟩) nv cx, .slice (some ⟨yb, 0, none⟩) nv cy] 31))
  have HG := Lib.hid (grow_one w (.cells #[.int .i64 K, .slice (some ⟨xb, 0, none⟩) nv cx, .slice (some ⟨yb, 0, none⟩) nv cy] 31))
  generalize w.alloc (.cells #[.int .i64 K, .slice (some ⟨xb, 0, none⟩) nv cx, .slice (some ⟨yb, 0, none⟩) nv cy] 31) = W at *
  go_loopw [3, 4] (fun s i wr => ∃ p : Nat, p ≤ nv ∧ s = .int .i64 ((wordsN (F.take p) + wordsN (Fo.take p) : Nat) : Int) ∧ i = .int .i64 p ∧ Grow W wr) (fun _ i _ => nv - (intOf i).toNat)
  case atStart => exact ⟨0, by omega, by simp [wordsN], rfl, Below.refl _ _⟩
  case round =>
    obtain ⟨p, hp, rfl, rfl, hg⟩ := hrel
    have c1 : wr.cell? ⟨w.heap.size, 1, none⟩ = some (.slice (some ⟨xb, 0, none⟩) nv cx) := (below_cell hg (lt_of_block HC.out)).trans (cell_of_block (off := 1) HC.out)
    have c2 : wr.cell? ⟨w.heap.size, 2, none⟩ = some (.slice (some ⟨yb, 0, none⟩) nv cy) := (below_cell hg (lt_of_block HC.out)).trans (cell_of_block (off := 2) HC.out)
    by_cases hlt : p < nv
    · have hki : (p : Int) < nv := by omega
      have hp0 : (0 : Int) ≤ p := by omega
      obtain ⟨a1, k1, e1, _, _⟩ := (HF.out.go (HG.out.trans hg)).at hlt
      obtain ⟨a2, k2, e2, _, _⟩ := (HD.out.go (HG.out.trans hg)).at hlt
      have t1 := HLF.out p (by omega)
      have t2 := HLD.out p (by omega)
      have t3 := wordsN_take (F := F) (i := p) (by omega)
      have t4 := wordsN_take (F := Fo) (i := p) (by omega)
      have t5 := HFF.out p
      have t6 := HDD.out p
      have hnum : (((wordsN (F.take (p + 1)) + wordsN (Fo.take (p + 1)) : Nat)) : Int) = ((wordsN (F.take p) + wordsN (Fo.take p) : Nat) : Int) + ((F.getD p []).length : Int) + ((Fo.getD p []).length : Int) := by omega
      generalize (F.getD p []).length = m1 at *
      generalize (Fo.getD p []).length = m2 at *
      generalize wordsN (F.take p) + wordsN (Fo.take p) = N at *
      go_wp2_with fail
      go_quiet (fail)
      go_wp2_with fail
      go_roundw
      case rel => exact ⟨p + 1, by omega, by rw [hnum], by go_num, hg.trans (grow_drewN _ _)⟩
      case measure => simp [intOf]; omega
    · have hki : ¬ (p : Int) < nv := by omega
      have e1 : F.take p = F := List.take_of_length_le (by omega)
      have e2 : Fo.take p = Fo := List.take_of_length_le (by omega)
      rw [e1, e2]
      go_wp2_with fail
      go_ret
      exact ⟨rfl, HG.out.trans hg⟩
end Go.Proofs.Ytmiiolgbjicocaa
