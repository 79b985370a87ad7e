/- What was read, written as text and read again: plain. -/
import Derived.Test.YticdihfjnmjkmaaNumb
import Derived.Test.YticdihfjnmjkmaaPl2
import Derived.Test.YticdihfjnmjkmaaNamesP
import Derived.Test.YticdihfjnmjkmaaBlanksP
import Derived.Test.YticdihfjnmjkmaaRd7
namespace Go.Proofs.Yticdihfjnmjkmaa
def wgtT : List Value → List UInt8
  | [_, .float _ f] => if sameF f 0 = true then [] else [32, 37] ++ numS f
  | _ => []
def bodyT (inner : List UInt8) : List Value → List UInt8
  | [_, .int _ kd, .string tx] => if kd = 0 then [32] ++ tx.data.toList else if kd = 1 then [32, 39] ++ tx.data.toList ++ [39] else [32, 40] ++ inner ++ [32, 41]
  | _ => []
def opT : List Value → List UInt8
  | [.int _ op] => if op = 0 then [] else [op.toNat.toUInt8]
  | _ => []
mutual
def PN.wr : Bool → Nat → PN → List UInt8
  | true, k, .node pre _ kids => (if k = 0 then [] else [32, 124]) ++ wgtT pre ++ PN.wrL false 0 kids
  | false, _, .node pre post kids => bodyT (PN.wrL true 0 kids) pre ++ opT post
def PN.wrL : Bool → Nat → List PN → List UInt8
  | _, _, [] => []
  | b, k, x :: r => PN.wr b k x ++ PN.wrL b (k + 1) r
end
theorem wrL_append (b : Bool) (xs ys : List PN) : ∀ i, PN.wrL b i (xs ++ ys) = PN.wrL b i xs ++ PN.wrL b (i + xs.length) ys := by
  induction xs with
  | nil => intro i; simp [PN.wrL]
  | cons x r ih =>
    intro i
    rw [List.cons_append, PN.wrL, PN.wrL, ih (i + 1), List.append_assoc, List.length_cons, show i + 1 + r.length = i + (r.length + 1) by omega]
theorem wrL_next (b : Bool) {xs : List PN} {k : Nat} (hk : k < xs.length) : PN.wrL b 0 (xs.take (k + 1)) = PN.wrL b 0 (xs.take k) ++ PN.wr b k xs[k] := by
  rw [List.take_succ_eq_append_getElem hk, wrL_append, PN.wrL, PN.wrL, List.append_nil]
  simp [Nat.min_eq_left (Nat.le_of_lt hk)]
theorem wrL_le (b : Bool) (xs : List PN) (k : Nat) : (PN.wrL b 0 (xs.take k)).length ≤ (PN.wrL b 0 xs).length := by
  conv => rhs; rw [← List.take_append_drop k xs]
  rw [wrL_append, List.length_append]
  omega
mutual
/-- The signs behind a piece are such as there are. -/
def PN.Ops : PN → Prop
  | .node _ post kids => (∀ op, post = [.int .u8 op] → op = 0 ∨ op = 42 ∨ op = 43 ∨ op = 63) ∧ PN.OpsL kids
def PN.OpsL : List PN → Prop
  | [] => True
  | k :: ks => PN.Ops k ∧ PN.OpsL ks
end
theorem PN.opsL_iff {ks : List PN} : PN.OpsL ks ↔ ∀ k ∈ ks, PN.Ops k := by
  induction ks with
  | nil => simp [PN.OpsL]
  | cons k ks ih => simp [PN.OpsL, ih]
theorem wr_alt (k at' f : Nat) (kids : List PN) : PN.wr true k (.node [.int .i64 at', .float .f64 f] [] kids) = (if k = 0 then [] else [32, 124]) ++ (if sameF f 0 = true then [] else [32, 37] ++ numS f) ++ PN.wrL false 0 kids := by
  rw [PN.wr]; rfl
theorem wr_item (k at' : Nat) (kd op : Int) (tx : ByteArray) (kids : List PN) : PN.wr false k (.node [.int .i64 at', .int .i64 kd, .string tx] [.int .u8 op] kids) = (if kd = 0 then [32] ++ tx.data.toList else if kd = 1 then [32, 39] ++ tx.data.toList ++ [39] else [32, 40] ++ PN.wrL true 0 kids ++ [32, 41]) ++ (if op = 0 then [] else [op.toNat.toUInt8]) := by
  rw [PN.wr]; rfl
theorem numS_short (f : Nat) : (numS f).length ≤ 4 := by
  unfold numS
  cases h : numT.find? (numP f) with
  | none => decide
  | some x => exact (by decide : ∀ x ∈ numT, x.length ≤ 4) x (List.mem_of_find?_eq_some h)
end Go.Proofs.Yticdihfjnmjkmaa
namespace Go.Proofs.Yticdihfjnmjkmaa
theorem PN.opsL_append {x y : List PN} (h : PN.OpsL x) (k : PN.OpsL y) : PN.OpsL (x ++ y) := by
  rw [PN.opsL_iff] at *
  intro n hn
  rcases List.mem_append.1 hn with hn | hn
  · exact h n hn
  · exact k n hn
theorem opP_vals (l : List Tok) : (opP l).1 = 0 ∨ (opP l).1 = 42 ∨ (opP l).1 = 43 ∨ (opP l).1 = 63 := by
  cases l with
  | nil => exact .inl rfl
  | cons t r =>
    by_cases h1 : sgnB t [63] = true
    · exact .inr (.inr (.inr (by rw [opP, if_pos h1])))
    · by_cases h2 : sgnB t [42] = true
      · exact .inr (.inl (by rw [opP, if_neg h1, if_pos h2]))
      · by_cases h3 : sgnB t [43] = true
        · exact .inr (.inr (.inl (by rw [opP, if_neg h1, if_neg h2, if_pos h3])))
        · exact .inl (by rw [opP, if_neg h1, if_neg h2, if_neg h3])
theorem ops_one {pre : List Value} {l : List Tok} {ks : List PN} (h : PN.OpsL ks) : PN.OpsL [.node pre [.int .u8 (opP l).1] ks] := by
  refine ⟨⟨fun op ho => ?_, h⟩, trivial⟩
  injection ho with ho _
  injection ho with _ ho
  rw [← ho]
  exact opP_vals l
theorem ps_ops {ph : Ph} {d : Nat} {l : List Tok} {o : Out} (h : Ps ph d l o) : ∀ ns r, o = .ok ns r → PN.OpsL ns := by
  induction h with
  | alts h1 h2 i1 i2 =>
    intro ns r ho
    obtain ⟨ns', rfl, rfl⟩ := pres_ok ho
    exact PN.opsL_append (i1 _ _ rfl) (i2 _ _ rfl)
  | alts_err => intro ns r ho; cases ho
  | more_nil => intro ns r ho; cases ho; exact trivial
  | more hs h1 h2 i1 i2 =>
    intro ns r ho
    obtain ⟨ns', rfl, rfl⟩ := pres_ok ho
    exact PN.opsL_append (i1 _ _ rfl) (i2 _ _ rfl)
  | more_err => intro ns r ho; cases ho
  | alt h1 i1 =>
    intro ns r ho
    obtain ⟨ns', rfl, rfl⟩ := alt_ok ho
    refine ⟨⟨fun op ho => ?_, i1 _ _ rfl⟩, trivial⟩
    cases ho
  | items_nil => intro ns r ho; cases ho; exact trivial
  | items hs h1 h2 i1 i2 =>
    intro ns r ho
    obtain ⟨ns', rfl, rfl⟩ := pres_ok ho
    exact PN.opsL_append (i1 _ _ rfl) (i2 _ _ rfl)
  | items_err => intro ns r ho; cases ho
  | word => intro ns r ho; cases ho; exact ops_one trivial
  | deep => intro ns r ho; cases ho
  | group_err => intro ns r ho; cases ho
  | close => intro ns r ho; cases ho
  | group hs hd h1 hc i1 => intro ns r ho; cases ho; exact ops_one (i1 _ _ rfl)
theorem pds_ops {b : Bool} {l : List Tok} {o : Out} (h : Pds b l o) : ∀ ns r, o = .ok ns r → ∀ n ∈ ns, ∃ t ks, n = defN t ks ∧ PN.OpsL ks := by
  induction h with
  | nil => intro ns r ho; cases ho; simp
  | err => intro ns r ho; cases ho
  | one h1 h2 h3 ih =>
    intro ns r ho
    obtain ⟨ns', rfl, rfl⟩ := pres_ok ho
    intro n hn
    rcases List.mem_append.1 hn with hn | hn
    · cases h2 with
      | ok k1 k2 k3 k4 =>
        obtain rfl := List.mem_singleton.1 hn
        exact ⟨_, _, rfl, ps_ops k3 _ _ rfl⟩
    · exact ih _ _ rfl n hn
end Go.Proofs.Yticdihfjnmjkmaa
namespace Go.Proofs.Yticdihfjnmjkmaa
structure Key where
  kind : Int
  text : List UInt8
  wt : Nat
def Key.t (k : Key) : List UInt8 := if k.kind = 2 then 39 :: (k.text ++ [39]) else if k.kind = 3 then 37 :: k.text else k.text
inductive Key.OK : Key → Prop
  | name {c : UInt8} {r : List UInt8} : letterB (c.toNat : Int) = true → (∀ d ∈ r, innerB (d.toNat : Int) = true) → r.length < 24 → Key.OK ⟨1, c :: r, 0⟩
  | quot {x : List UInt8} : x ≠ [] → (∀ d ∈ x, quotableB (d.toNat : Int) = true) → x.length ≤ 16 → Key.OK ⟨2, x, 0⟩
  | wght {x : List UInt8} {f : Nat} : (∀ d ∈ x, weightB (d.toNat : Int) = true) → readL x = some f → Key.OK ⟨3, x, f⟩
  | sign {c : UInt8} : signB (c.toNat : Int) = true → Key.OK ⟨4, [c], 0⟩
/-- No name and no weight goes on here. -/
def Stop (r : List UInt8) : Prop := ∃ d t, r = d :: t ∧ innerB (d.toNat : Int) = false ∧ weightB (d.toNat : Int) = false
theorem letter_not (c : Int) (h : letterB c = true) : c ≠ 39 ∧ c ≠ 37 ∧ c ≠ 32 ∧ c ≠ 10 ∧ c ≠ 35 ∧ c ≠ 9 ∧ c ≠ 13 := by
  unfold letterB at h
  simp only [Bool.or_eq_true, Bool.and_eq_true, decide_eq_true_eq] at h
  omega
theorem sign_not (c : Int) (h : signB c = true) : letterB c = false ∧ c ≠ 39 ∧ c ≠ 37 ∧ c ≠ 32 ∧ c ≠ 10 ∧ c ≠ 35 ∧ c ≠ 9 ∧ c ≠ 13 ∧ innerB c = false ∧ weightB c = false := by
  unfold signB at h
  simp only [Bool.or_eq_true, decide_eq_true_eq] at h
  have : c = 61 ∨ c = 59 ∨ c = 124 ∨ c = 40 ∨ c = 41 ∨ c = 63 ∨ c = 42 ∨ c = 43 := by omega
  rcases this with rfl | rfl | rfl | rfl | rfl | rfl | rfl | rfl <;> decide
theorem word_key {k : Key} (hk : k.OK) {rest : List UInt8} (hr : Stop rest) : wordL (k.t ++ rest) = ⟨0, k.kind, k.text, k.wt, k.t.length⟩ := by
  obtain ⟨d, t, rfl, hd1, hd2⟩ := hr
  cases hk with
  | @name c r h1 h2 h3 =>
    show wordL (c :: (r ++ d :: t)) = _
    have e := runL_stop innerB d t hd1 r h2
    rw [wordL, if_pos h1, nameW, e, if_neg (by omega)]
    simp [Key.t]
  | @quot x h1 h2 h3 =>
    show wordL (39 :: ((x ++ [39]) ++ d :: t)) = _
    have e : runL quotableB (x ++ 39 :: (d :: t)) = x.length := runL_stop quotableB 39 (d :: t) (by decide) x h2
    have h0 : 0 < x.length := List.length_pos_iff.2 h1
    rw [List.append_assoc]
    show wordL (39 :: (x ++ 39 :: (d :: t))) = _
    rw [wordL, if_neg (by decide), if_pos (by decide), quotW, e, if_neg, if_neg (by omega)]
    · simp [Key.t]
    · rintro (h | h | h)
      · simp at h
      · exact h (by simp)
      · omega
  | @wght x f h1 h2 =>
    show wordL (37 :: (x ++ d :: t)) = _
    have e := runL_stop weightB d t hd2 x h1
    have e2 : (x ++ d :: t).take x.length = x := by simp
    rw [wordL, if_neg (by decide), if_neg (by decide), if_pos (by decide), wghtW, e, e2, h2, if_pos (show (some f).isSome = true from rfl)]
    simp [Key.t]
  | @sign c h1 =>
    obtain ⟨s1, s2, s3, _⟩ := sign_not _ h1
    show wordL (c :: (d :: t)) = _
    rw [wordL, if_neg (by rw [s1]; decide), if_neg s2, if_neg s3, if_pos h1]
    rfl
theorem skip_key {k : Key} (hk : k.OK) (rest : List UInt8) : skipL false (k.t ++ rest) = 0 := by
  cases hk with
  | @name c r h1 h2 h3 =>
    obtain ⟨_, _, a1, a2, a3, a4, a5⟩ := letter_not _ h1
    show skipL false (c :: (r ++ rest)) = 0
    rw [skipL, if_neg (by unfold blankB; simp [a1, a2, a4, a5]), if_neg a3]
  | @quot x h1 h2 h3 =>
    show skipL false (39 :: _) = 0
    rw [skipL, if_neg (by decide), if_neg (by decide)]
  | @wght x f h1 h2 =>
    show skipL false (37 :: _) = 0
    rw [skipL, if_neg (by decide), if_neg (by decide)]
  | @sign c h1 =>
    obtain ⟨_, _, _, a1, a2, a3, a4, a5, _⟩ := sign_not _ h1
    show skipL false (c :: rest) = 0
    rw [skipL, if_neg (by unfold blankB; simp [a1, a2, a4, a5]), if_neg a3]
theorem key_ne {k : Key} (hk : k.OK) : k.t ≠ [] := by
  cases hk <;> simp [Key.t]
/-- Words, each with what stands behind it. -/
def txtK : List (Key × List UInt8) → List UInt8
  | [] => []
  | (k, s) :: r => k.t ++ (s ++ txtK r)
/-- Behind a word a blank or a line's end, or a sign at once. -/
def SepOK : List (Key × List UInt8) → Prop
  | [] => True
  | (k, s) :: r => k.OK ∧ (s = [32] ∨ s = [10] ∨ (s = [] ∧ ∃ k2 s2 r2, r = (k2, s2) :: r2 ∧ k2.kind = 4)) ∧ SepOK r
theorem sep_skip {r : List (Key × List UInt8)} (h : SepOK r) : skipL false (txtK r) = 0 := by
  cases r with
  | nil => rfl
  | cons x r => exact skip_key h.1 _
theorem sep_stop {k : Key} {s : List UInt8} {r : List (Key × List UInt8)} (h : SepOK ((k, s) :: r)) : Stop (s ++ txtK r) ∧ skipL false (s ++ txtK r) = s.length := by
  obtain ⟨_, hs, hr⟩ := h
  have h0 := sep_skip hr
  rcases hs with rfl | rfl | ⟨rfl, k2, s2, r2, rfl, h4⟩
  · refine ⟨⟨32, txtK r, rfl, by decide, by decide⟩, ?_⟩
    show skipL false (32 :: txtK r) = 1
    rw [skipL, if_pos (by decide), h0]
  · refine ⟨⟨10, txtK r, rfl, by decide, by decide⟩, ?_⟩
    show skipL false (10 :: txtK r) = 1
    rw [skipL, if_pos (by decide), h0]
  · refine ⟨?_, h0⟩
    have hk2 := hr.1
    cases hk2 with
    | @sign c h1 =>
      obtain ⟨_, _, _, _, _, _, _, _, a1, a2⟩ := sign_not _ h1
      exact ⟨c, _, rfl, a1, a2⟩
    | name => cases h4
    | quot => cases h4
    | wght => cases h4
def Tok.key (t : Tok) : Key := ⟨t.kind, t.text, t.wt⟩
theorem lex_keys : ∀ (l : List (Key × List UInt8)), SepOK l → ∀ p, ∃ ts q, LexL p (txtK l) (ts ++ [endTok q]) 0 0 ∧ ts.map Tok.key = l.map Prod.fst
  | [], _, p => ⟨[], p, .fin p, rfl⟩
  | (k, s) :: r, h, p => by
    obtain ⟨hst, hsk⟩ := sep_stop h
    have hw := word_key h.1 hst
    obtain ⟨ts, q, hl, hm⟩ := lex_keys r h.2.2 (p + (k.t.length + s.length))
    have hstep : stepL (k.t ++ (s ++ txtK r)) = k.t.length + s.length := by
      unfold stepL
      rw [hw]
      show k.t.length + skipL false ((k.t ++ (s ++ txtK r)).drop k.t.length) = _
      rw [List.drop_left, hsk]
    refine ⟨tokAt (wordL (k.t ++ (s ++ txtK r))) p :: ts, q, ?_, ?_⟩
    · show LexL p (k.t ++ (s ++ txtK r)) (tokAt (wordL (k.t ++ (s ++ txtK r))) p :: (ts ++ [endTok q])) 0 0
      refine .tok p _ _ 0 0 (by simp [key_ne h.1]) (by rw [hw]) ?_
      rw [hstep, ← List.append_assoc, show k.t.length + s.length = (k.t ++ s).length by simp, List.drop_left]
      rw [List.length_append]
      exact hl
    · rw [hw, List.map_cons, List.map_cons, hm]
      rfl
end Go.Proofs.Yticdihfjnmjkmaa
namespace Go.Proofs.Yticdihfjnmjkmaa
/-- Words, each with what stands ahead of it. -/
def flatK (l : List (List UInt8 × Key)) : List UInt8 := l.flatMap fun x => x.1 ++ x.2.t
theorem flatK_append (a b : List (List UInt8 × Key)) : flatK (a ++ b) = flatK a ++ flatK b := by simp [flatK]
def behK (k : Key) : List (List UInt8 × Key) → List (Key × List UInt8)
  | [] => [(k, [10])]
  | (s, k') :: r => (k, s) :: behK k' r
theorem flat_beh : ∀ (r : List (List UInt8 × Key)) (k : Key), k.t ++ (flatK r ++ [10]) = txtK (behK k r)
  | [], k => by simp [flatK, behK, txtK]
  | (s, k') :: r, k => by
    rw [behK, txtK, ← flat_beh r k']
    simp [flatK]
theorem beh_keys : ∀ (r : List (List UInt8 × Key)) (k : Key), (behK k r).map Prod.fst = k :: r.map Prod.snd
  | [], _ => rfl
  | (s, k') :: r, k => by rw [behK, List.map_cons, beh_keys r k']; rfl
def BefOK (l : List (List UInt8 × Key)) : Prop := ∀ x ∈ l, x.2.OK ∧ (x.1 = [32] ∨ x.1 = [10] ∨ (x.1 = [] ∧ x.2.kind = 4))
theorem beh_ok : ∀ (r : List (List UInt8 × Key)) (k : Key), k.OK → BefOK r → SepOK (behK k r)
  | [], _, hk, _ => ⟨hk, .inr (.inl rfl), trivial⟩
  | (s, k') :: r, k, hk, h => by
    have h1 := h (s, k') (by simp)
    refine ⟨hk, ?_, beh_ok r k' h1.1 (fun x hx => h x (by simp [hx]))⟩
    rcases h1.2 with h2 | h2 | ⟨h2, h3⟩
    · exact .inl h2
    · exact .inr (.inl h2)
    · refine .inr (.inr ⟨h2, ?_⟩)
      cases r with
      | nil => exact ⟨k', _, _, rfl, h3⟩
      | cons y r => exact ⟨k', _, _, rfl, h3⟩
theorem BefOK.append {a b : List (List UInt8 × Key)} (h : BefOK a) (k : BefOK b) : BefOK (a ++ b) := fun x hx => by
  rcases List.mem_append.1 hx with hx | hx
  · exact h x hx
  · exact k x hx
def sgnK (c : UInt8) : Key := ⟨4, [c], 0⟩
def wgtK : List Value → List (List UInt8 × Key)
  | [_, .float _ f] => if sameF f 0 = true then [] else [([32], ⟨3, numS f, (readL (numS f)).getD 0⟩)]
  | _ => []
def bodyK (inner : List (List UInt8 × Key)) : List Value → List (List UInt8 × Key)
  | [_, .int _ kd, .string tx] => if kd = 0 then [([32], ⟨1, tx.data.toList, 0⟩)] else if kd = 1 then [([32], ⟨2, tx.data.toList, 0⟩)] else ([32], sgnK 40) :: (inner ++ [([32], sgnK 41)])
  | _ => []
def opK : List Value → List (List UInt8 × Key)
  | [.int _ op] => if op = 0 then [] else [([], sgnK op.toNat.toUInt8)]
  | _ => []
mutual
def PN.ky : Bool → Nat → PN → List (List UInt8 × Key)
  | true, k, .node pre _ kids => (if k = 0 then [] else [([32], sgnK 124)]) ++ wgtK pre ++ PN.kyL false 0 kids
  | false, _, .node pre post kids => bodyK (PN.kyL true 0 kids) pre ++ opK post
def PN.kyL : Bool → Nat → List PN → List (List UInt8 × Key)
  | _, _, [] => []
  | b, k, x :: r => PN.ky b k x ++ PN.kyL b (k + 1) r
end
theorem flat_wgt (pre : List Value) : flatK (wgtK pre) = wgtT pre := by
  unfold wgtK wgtT
  split
  · rename_i f
    by_cases h : sameF f 0 = true
    · simp [flatK, h]
    · simp [flatK, Key.t, h]
  · rfl
theorem flat_body {i : List (List UInt8 × Key)} {t : List UInt8} (h : flatK i = t) (pre : List Value) : flatK (bodyK i pre) = bodyT t pre := by
  subst h
  unfold bodyK bodyT
  split
  · rename_i kd tx
    by_cases h0 : kd = 0
    · simp [flatK, Key.t, h0]
    · by_cases h1 : kd = 1
      · simp [flatK, Key.t, h1]
      · simp [flatK, Key.t, sgnK, h0, h1]
  · rfl
theorem flat_op (post : List Value) : flatK (opK post) = opT post := by
  unfold opK opT
  split
  · rename_i op
    by_cases h : op = 0
    · simp [flatK, h]
    · simp [flatK, Key.t, sgnK, h]
  · rfl
mutual
theorem flat_ky : ∀ (b : Bool) (k : Nat) (t : PN), flatK (PN.ky b k t) = PN.wr b k t
  | true, k, .node pre _ kids => by
    rw [PN.ky, PN.wr, flatK_append, flatK_append, flat_wgt, flat_kyL false 0 kids]
    congr 2
    split <;> simp [flatK, Key.t, sgnK]
  | false, _, .node pre post kids => by
    rw [PN.ky, PN.wr, flatK_append, flat_op, flat_body (flat_kyL true 0 kids)]
theorem flat_kyL : ∀ (b : Bool) (k : Nat) (l : List PN), flatK (PN.kyL b k l) = PN.wrL b k l
  | _, _, [] => by rw [PN.kyL, PN.wrL]; rfl
  | b, k, x :: r => by rw [PN.kyL, PN.wrL, flatK_append, flat_ky b k x, flat_kyL b (k + 1) r]
end
end Go.Proofs.Yticdihfjnmjkmaa
namespace Go.Proofs.Yticdihfjnmjkmaa
theorem bad_err {e : Int} (h : (badW e).err = 0) : e = 0 := h
theorem word_ok : ∀ (l : List UInt8), (wordL l).err = 0 → Key.OK ⟨(wordL l).kind, (wordL l).text, (wordL l).wt⟩
  | [], h => absurd (bad_err h) (by decide)
  | c :: r, h => by
    by_cases h1 : letterB (c.toNat : Int) = true
    · have e : wordL (c :: r) = nameW c r := by rw [wordL, if_pos h1]
      rw [e] at h ⊢
      unfold nameW at h ⊢
      by_cases h2 : 24 < runL innerB r + 1
      · rw [if_pos h2] at h; exact absurd (bad_err h) (by decide)
      · rw [if_neg h2]
        exact .name h1 (runL_take innerB r) (by rw [List.length_take]; omega)
    · by_cases h2 : (c.toNat : Int) = 39
      · have e : wordL (c :: r) = quotW r := by rw [wordL, if_neg h1, if_pos h2]
        rw [e] at h ⊢
        unfold quotW at h ⊢
        by_cases h3 : runL quotableB r = r.length ∨ r[runL quotableB r]? ≠ some 39 ∨ runL quotableB r = 0
        · rw [if_pos h3] at h; exact absurd (bad_err h) (by decide)
        · rw [if_neg h3] at h ⊢
          by_cases h4 : 16 < runL quotableB r
          · rw [if_pos h4] at h; exact absurd (bad_err h) (by decide)
          · rw [if_neg h4]
            have hle := runL_le quotableB r
            refine .quot (fun e0 => h3 (.inr (.inr ?_))) (runL_take quotableB r) (by rw [List.length_take]; omega)
            have := congrArg List.length e0
            rw [List.length_take, List.length_nil] at this
            omega
      · by_cases h3 : (c.toNat : Int) = 37
        · have e : wordL (c :: r) = wghtW r := by rw [wordL, if_neg h1, if_neg h2, if_pos h3]
          rw [e] at h ⊢
          rcases wghtW_cases r with h4 | ⟨f, hf, h4⟩
          · rw [h4] at h; exact absurd (bad_err h) (by decide)
          · rw [h4]
            exact .wght (runL_take weightB r) hf
        · by_cases h4 : signB (c.toNat : Int) = true
          · have e : wordL (c :: r) = ⟨0, 4, [c], 0, 1⟩ := by rw [wordL, if_neg h1, if_neg h2, if_neg h3, if_pos h4]
            rw [e]
            exact .sign h4
          · have e : wordL (c :: r) = badW 2 := by rw [wordL, if_neg h1, if_neg h2, if_neg h3, if_neg h4]
            rw [e] at h
            exact absurd (bad_err h) (by decide)
theorem lex_ok {p : Nat} {l : List UInt8} {ts : List Tok} {e : Int} {a : Nat} (h : LexL p l ts e a) : ∀ t ∈ ts, t.kind = 0 ∨ t.key.OK := by
  induction h with
  | fin p => intro t ht; rw [List.mem_singleton.1 ht]; exact .inl rfl
  | err => intro t ht; cases ht
  | tok p l ts e a h1 h2 _ ih =>
    intro t ht
    rcases List.mem_cons.1 ht with rfl | ht
    · exact .inr (word_ok l h2)
    · exact ih t ht
/-- A weight's text is read as a weight. -/
theorem num_ok (f : Nat) : Key.OK ⟨3, numS f, (readL (numS f)).getD 0⟩ := by
  have h : ∀ x ∈ numT ++ [[49]], (x.all fun d => weightB (d.toNat : Int)) = true ∧ (readL x).isSome = true := by decide +kernel
  have hm : numS f ∈ numT ++ [[49]] := by
    unfold numS
    cases hx : numT.find? (numP f) with
    | none => simp
    | some x => exact List.mem_append_left _ (List.mem_of_find?_eq_some hx)
  obtain ⟨h1, h2⟩ := h _ hm
  obtain ⟨v, hv⟩ := Option.isSome_iff_exists.1 h2
  refine .wght (fun d hd => List.all_eq_true.1 h1 d hd) ?_
  rw [hv]; rfl
end Go.Proofs.Yticdihfjnmjkmaa
namespace Go.Proofs.Yticdihfjnmjkmaa
theorem opP_sub (l : List Tok) : ∀ t ∈ (opP l).2, t ∈ l := by
  cases l with
  | nil => intro t h; exact h
  | cons u r =>
    intro t h
    by_cases h1 : sgnB u [63] = true
    · rw [opP, if_pos h1] at h; exact List.mem_cons_of_mem _ h
    · by_cases h2 : sgnB u [42] = true
      · rw [opP, if_neg h1, if_pos h2] at h; exact List.mem_cons_of_mem _ h
      · by_cases h3 : sgnB u [43] = true
        · rw [opP, if_neg h1, if_neg h2, if_pos h3] at h; exact List.mem_cons_of_mem _ h
        · rw [opP, if_neg h1, if_neg h2, if_neg h3] at h; exact h
theorem ps_sub {ph : Ph} {d : Nat} {l : List Tok} {o : Out} (h : Ps ph d l o) : ∀ ns r, o = .ok ns r → ∀ t ∈ r, t ∈ l := by
  induction h with
  | alts h1 h2 i1 i2 =>
    intro ns r ho t ht
    obtain ⟨ns', rfl, rfl⟩ := pres_ok ho
    exact i1 _ _ rfl t (i2 _ _ rfl t ht)
  | alts_err => intro ns r ho; cases ho
  | more_nil => intro ns r ho t ht; cases ho; exact ht
  | more hs h1 h2 i1 i2 =>
    intro ns r ho t ht
    obtain ⟨ns', rfl, rfl⟩ := pres_ok ho
    exact List.mem_cons_of_mem _ (i1 _ _ rfl t (i2 _ _ rfl t ht))
  | more_err => intro ns r ho; cases ho
  | alt h1 i1 =>
    intro ns r ho t ht
    obtain ⟨ns', rfl, rfl⟩ := alt_ok ho
    have := i1 _ _ rfl t ht
    split at this
    · exact List.mem_cons_of_mem _ this
    · exact this
  | items_nil => intro ns r ho t ht; cases ho; exact ht
  | items hs h1 h2 i1 i2 =>
    intro ns r ho t ht
    obtain ⟨ns', rfl, rfl⟩ := pres_ok ho
    exact i1 _ _ rfl t (i2 _ _ rfl t ht)
  | items_err => intro ns r ho; cases ho
  | word => intro ns r ho t ht; cases ho; exact List.mem_cons_of_mem _ (opP_sub _ t ht)
  | deep => intro ns r ho; cases ho
  | group_err => intro ns r ho; cases ho
  | close => intro ns r ho; cases ho
  | group hs hd h1 hc i1 =>
    intro ns r ho t ht
    cases ho
    exact List.mem_cons_of_mem _ (i1 _ _ rfl t (List.mem_cons_of_mem _ (opP_sub _ t ht)))
mutual
/-- The words in it can be written. -/
def PN.Wf : PN → Prop
  | .node pre _ kids => (∀ a kd tx, pre = [.int .i64 a, .int .i64 kd, .string tx] → (kd = 0 → Key.OK ⟨1, tx.data.toList, 0⟩) ∧ (kd = 1 → Key.OK ⟨2, tx.data.toList, 0⟩)) ∧ PN.WfL kids
def PN.WfL : List PN → Prop
  | [] => True
  | k :: ks => PN.Wf k ∧ PN.WfL ks
end
theorem PN.wfL_iff {ks : List PN} : PN.WfL ks ↔ ∀ k ∈ ks, PN.Wf k := by
  induction ks with
  | nil => simp [PN.WfL]
  | cons k ks ih => simp [PN.WfL, ih]
theorem PN.wfL_append {x y : List PN} (h : PN.WfL x) (k : PN.WfL y) : PN.WfL (x ++ y) := by
  rw [PN.wfL_iff] at *
  intro n hn
  rcases List.mem_append.1 hn with hn | hn
  · exact h n hn
  · exact k n hn
def AllOK (l : List Tok) : Prop := ∀ t ∈ l, t.kind = 0 ∨ t.key.OK
theorem word_wf {t : Tok} (h : t.kind = 0 ∨ t.key.OK) (hk : t.kind = 1 ∨ t.kind = 2) (op : Int) : PN.Wf (wordN t op) := by
  have h2 : t.key.OK := h.resolve_left (by omega)
  refine ⟨fun a kd tx e => ?_, trivial⟩
  injection e with _ e
  injection e with e1 e
  injection e with e2 _
  injection e1 with _ e1
  injection e2 with e2
  subst e2
  obtain ⟨kind, pos, text, wt⟩ := t
  simp only [Tok.key] at *
  refine ⟨fun h0 => ?_, fun h0 => ?_⟩
  · have : kind = 1 := by omega
    subst this
    cases h2 with
    | name p1 p2 p3 => exact .name p1 p2 p3
  · have : kind = 2 := by omega
    subst this
    cases h2 with
    | quot p1 p2 p3 => exact .quot p1 p2 p3
theorem ps_wf {ph : Ph} {d : Nat} {l : List Tok} {o : Out} (h : Ps ph d l o) : AllOK l → ∀ ns r, o = .ok ns r → PN.WfL ns := by
  induction h with
  | alts h1 h2 i1 i2 =>
    intro ha ns r ho
    obtain ⟨ns', rfl, rfl⟩ := pres_ok ho
    exact PN.wfL_append (i1 ha _ _ rfl) (i2 (fun t ht => ha t (ps_sub h1 _ _ rfl t ht)) _ _ rfl)
  | alts_err => intro _ ns r ho; cases ho
  | more_nil => intro _ ns r ho; cases ho; exact trivial
  | more hs h1 h2 i1 i2 =>
    intro ha ns r ho
    obtain ⟨ns', rfl, rfl⟩ := pres_ok ho
    exact PN.wfL_append (i1 (fun t ht => ha t (List.mem_cons_of_mem _ ht)) _ _ rfl) (i2 (fun t ht => ha t (List.mem_cons_of_mem _ (ps_sub h1 _ _ rfl t ht))) _ _ rfl)
  | more_err => intro _ ns r ho; cases ho
  | alt h1 i1 =>
    intro ha ns r ho
    obtain ⟨ns', rfl, rfl⟩ := alt_ok ho
    refine ⟨⟨fun a kd tx e => ?_, i1 (fun t ht => ?_) _ _ rfl⟩, trivial⟩
    · cases e
    · split at ht
      · exact ha t (List.mem_cons_of_mem _ ht)
      · exact ha t ht
  | items_nil => intro _ ns r ho; cases ho; exact trivial
  | items hs h1 h2 i1 i2 =>
    intro ha ns r ho
    obtain ⟨ns', rfl, rfl⟩ := pres_ok ho
    exact PN.wfL_append (i1 ha _ _ rfl) (i2 (fun t ht => ha t (ps_sub h1 _ _ rfl t ht)) _ _ rfl)
  | items_err => intro _ ns r ho; cases ho
  | word hk => intro ha ns r ho; cases ho; exact ⟨word_wf (ha _ (by simp)) hk _, trivial⟩
  | deep => intro _ ns r ho; cases ho
  | group_err => intro _ ns r ho; cases ho
  | close => intro _ ns r ho; cases ho
  | group hs hd h1 hc i1 =>
    intro ha ns r ho
    cases ho
    refine ⟨⟨fun a kd tx e => ?_, i1 (fun t ht => ha t (List.mem_cons_of_mem _ ht)) _ _ rfl⟩, trivial⟩
    injection e with _ e
    injection e with e1 e
    injection e1 with _ e1
    exact ⟨fun h0 => by omega, fun h0 => by omega⟩
end Go.Proofs.Yticdihfjnmjkmaa
namespace Go.Proofs.Yticdihfjnmjkmaa
theorem bef_one {s : List UInt8} {k : Key} (hk : k.OK) (hs : s = [32] ∨ s = [10] ∨ (s = [] ∧ k.kind = 4)) : BefOK [(s, k)] := fun x hx => by
  obtain rfl := List.mem_singleton.1 hx
  exact ⟨hk, hs⟩
theorem sgn_ok {c : UInt8} (h : signB (c.toNat : Int) = true) : (sgnK c).OK := .sign h
theorem bef_nil : BefOK [] := fun x hx => by cases hx
theorem bef_op {op : Int} (h : op = 0 ∨ op = 42 ∨ op = 43 ∨ op = 63) : BefOK (opK [.int .u8 op]) := by
  rcases h with rfl | rfl | rfl | rfl
  · exact bef_nil
  all_goals exact bef_one (sgn_ok (by decide)) (.inr (.inr ⟨rfl, rfl⟩))
theorem bef_wgt (a f : Nat) : BefOK (wgtK [.int .i64 a, .float .f64 f]) := by
  show BefOK (if sameF f 0 = true then [] else [([32], ⟨3, numS f, (readL (numS f)).getD 0⟩)])
  split
  · exact bef_nil
  · exact bef_one (num_ok f) (.inl rfl)
theorem bef_body {inner : List (List UInt8 × Key)} {a : Nat} {kd : Int} {tx : ByteArray} (hi : BefOK inner) (h0 : kd = 0 → Key.OK ⟨1, tx.data.toList, 0⟩) (h1 : kd = 1 → Key.OK ⟨2, tx.data.toList, 0⟩) : BefOK (bodyK inner [.int .i64 a, .int .i64 kd, .string tx]) := by
  show BefOK (if kd = 0 then [([32], ⟨1, tx.data.toList, 0⟩)] else if kd = 1 then [([32], ⟨2, tx.data.toList, 0⟩)] else ([32], sgnK 40) :: (inner ++ [([32], sgnK 41)]))
  split
  · rename_i h
    exact bef_one (h0 h) (.inl rfl)
  · split
    · rename_i h
      exact bef_one (h1 h) (.inl rfl)
    · exact BefOK.append (a := [([32], sgnK 40)]) (bef_one (sgn_ok (by decide)) (.inl rfl)) (hi.append (bef_one (sgn_ok (by decide)) (.inl rfl)))
mutual
theorem bef_ky : ∀ (b : Bool) (k : Nat) (t : PN), PN.Form b t → PN.Wf t → PN.Ops t → BefOK (PN.ky b k t)
  | true, k, .node pre post kids, hf, hw, ho => by
    obtain ⟨⟨a, f, rfl, rfl⟩, hk⟩ := hf
    rw [PN.ky]
    refine BefOK.append (BefOK.append ?_ (bef_wgt a f)) (bef_kyL false 0 kids hk hw.2 ho.2)
    split
    · exact bef_nil
    · exact bef_one (sgn_ok (by decide)) (.inl rfl)
  | false, k, .node pre post kids, hf, hw, ho => by
    obtain ⟨⟨a, kd, op, tx, rfl, rfl⟩, hk⟩ := hf
    rw [PN.ky]
    have h1 := hw.1 a kd tx rfl
    exact BefOK.append (bef_body (bef_kyL true 0 kids hk hw.2 ho.2) h1.1 h1.2) (bef_op (ho.1 op rfl))
theorem bef_kyL : ∀ (b : Bool) (k : Nat) (l : List PN), PN.FormL b l → PN.WfL l → PN.OpsL l → BefOK (PN.kyL b k l)
  | _, _, [], _, _, _ => by rw [PN.kyL]; exact bef_nil
  | b, k, x :: r, hf, hw, ho => by
    rw [PN.kyL]
    exact BefOK.append (bef_ky b k x hf.1 hw.1 ho.1) (bef_kyL b (k + 1) r hf.2 hw.2 ho.2)
end
end Go.Proofs.Yticdihfjnmjkmaa
namespace Go.Proofs.Yticdihfjnmjkmaa
/-- A weight, as the law's shape has it. -/
def numW (f : Nat) : Nat := if sameF f 0 = true then f else (readL (numS f)).getD 0
theorem same_zero {f : Nat} (h : sameF f 0 = true) : f = 0 := by
  have n0 : nanB 0 = false := by decide +kernel
  have b0 : belowB 0 = false := by decide +kernel
  unfold sameF lessF at h
  rw [n0, b0] at h
  cases hn : nanB f <;> cases hb : belowB f <;> rw [hn] at h <;> simp [hb] at h
  omega
theorem num_fix : ∀ x ∈ numT ++ [[49]], numW ((readL x).getD 0) = (readL x).getD 0 ∧ sameF ((readL x).getD 0) 0 = false := by decide +kernel
theorem numS_mem (f : Nat) : numS f ∈ numT ++ [[49]] := by
  unfold numS
  cases hx : numT.find? (numP f) with
  | none => simp
  | some x => exact List.mem_append_left _ (List.mem_of_find?_eq_some hx)
/-- The weight that is read of a written alternative. -/
def backF (f : Nat) : Nat := if sameF f 0 = true then 0 else (readL (numS f)).getD 0
theorem num_back (f : Nat) : numW (backF f) = numW f := by
  unfold backF
  by_cases h : sameF f 0 = true
  · rw [if_pos h, same_zero h]
  · rw [if_neg h, (num_fix _ (numS_mem f)).1]
    unfold numW
    rw [if_neg h]
end Go.Proofs.Yticdihfjnmjkmaa
namespace Go.Proofs.Yticdihfjnmjkmaa
mutual
/-- An alternative (true), or a piece, d brackets deep. -/
def PN.Gd : Bool → Nat → PN → Prop
  | true, d, .node _ _ kids => PN.GdL false d kids
  | false, d, .node pre post kids => (∃ (a : Nat) (kd op : Int) (tx : ByteArray), pre = [.int .i64 a, .int .i64 kd, .string tx] ∧ post = [.int .u8 op] ∧ (((kd = 0 ∨ kd = 1) ∧ kids = []) ∨ (kd = 2 ∧ tx = ⟨#[]⟩ ∧ d ≠ 16 ∧ kids ≠ []))) ∧ PN.GdL true (d + 1) kids
def PN.GdL : Bool → Nat → List PN → Prop
  | _, _, [] => True
  | b, d, k :: ks => PN.Gd b d k ∧ PN.GdL b d ks
end
theorem PN.gdL_append {b : Bool} {d : Nat} {x y : List PN} (h : PN.GdL b d x) (k : PN.GdL b d y) : PN.GdL b d (x ++ y) := by
  induction x with
  | nil => exact k
  | cons z x ih => exact ⟨h.1, ih h.2⟩
def Ph.some? : Ph → Bool | .alts => true | .alt => true | _ => false
theorem ps_gd {ph : Ph} {d : Nat} {l : List Tok} {o : Out} (h : Ps ph d l o) : ∀ ns r, o = .ok ns r → PN.GdL ph.alt? d ns ∧ (ph.some? = true → ns ≠ []) := by
  induction h with
  | alts h1 h2 i1 i2 =>
    intro ns r ho
    obtain ⟨ns', rfl, rfl⟩ := pres_ok ho
    exact ⟨PN.gdL_append (i1 _ _ rfl).1 (i2 _ _ rfl).1, fun _ => by simp [(i1 _ _ rfl).2 rfl]⟩
  | alts_err => intro ns r ho; cases ho
  | more_nil => intro ns r ho; cases ho; exact ⟨trivial, fun h => by cases h⟩
  | more hs h1 h2 i1 i2 =>
    intro ns r ho
    obtain ⟨ns', rfl, rfl⟩ := pres_ok ho
    exact ⟨PN.gdL_append (i1 _ _ rfl).1 (i2 _ _ rfl).1, fun h => by cases h⟩
  | more_err => intro ns r ho; cases ho
  | alt h1 i1 =>
    intro ns r ho
    obtain ⟨ns', rfl, rfl⟩ := alt_ok ho
    exact ⟨⟨(i1 _ _ rfl).1, trivial⟩, fun _ => by simp⟩
  | items_nil => intro ns r ho; cases ho; exact ⟨trivial, fun h => by cases h⟩
  | items hs h1 h2 i1 i2 =>
    intro ns r ho
    obtain ⟨ns', rfl, rfl⟩ := pres_ok ho
    exact ⟨PN.gdL_append (i1 _ _ rfl).1 (i2 _ _ rfl).1, fun h => by cases h⟩
  | items_err => intro ns r ho; cases ho
  | word hk =>
    intro ns r ho
    cases ho
    exact ⟨⟨⟨⟨_, _, _, _, rfl, rfl, .inl ⟨by omega, rfl⟩⟩, trivial⟩, trivial⟩, fun h => by cases h⟩
  | deep => intro ns r ho; cases ho
  | group_err => intro ns r ho; cases ho
  | close => intro ns r ho; cases ho
  | group hs hd h1 hc i1 =>
    intro ns r ho
    cases ho
    obtain ⟨g1, g2⟩ := i1 _ _ rfl
    exact ⟨⟨⟨⟨_, _, _, _, rfl, rfl, .inr ⟨rfl, rfl, hd, g2 rfl⟩⟩, g1⟩, trivial⟩, fun h => by cases h⟩
end Go.Proofs.Yticdihfjnmjkmaa
namespace Go.Proofs.Yticdihfjnmjkmaa
def shW : List Value → List Value
  | [_, .float _ f] => [.int .i64 0, .float .f64 (numW f)]
  | l => l
def shI : List Value → List Value
  | [_, k, t] => [.int .i64 0, k, t]
  | l => l
mutual
/-- Without places; weights as the law's shape has them. -/
def PN.nf : Bool → PN → PN
  | true, .node pre post kids => .node (shW pre) post (PN.nfL false kids)
  | false, .node pre post kids => .node (shI pre) post (PN.nfL true kids)
def PN.nfL : Bool → List PN → List PN
  | _, [] => []
  | b, x :: r => PN.nf b x :: PN.nfL b r
end
theorem nfL_append (b : Bool) (x y : List PN) : PN.nfL b (x ++ y) = PN.nfL b x ++ PN.nfL b y := by
  induction x with
  | nil => rfl
  | cons z x ih => rw [List.cons_append, PN.nfL, PN.nfL, ih, List.cons_append]
/-- A sign that ends pieces. -/
def EndS (t : Tok) : Prop := t.kind = 4 ∧ (t.text = [124] ∨ t.text = [41] ∨ t.text = [59])
/-- No sign of how often. -/
def NoOp (t : Tok) : Prop := sgnB t [63] = false ∧ sgnB t [42] = false ∧ sgnB t [43] = false
theorem EndS.noOp {t : Tok} (h : EndS t) : NoOp t := by
  obtain ⟨h1, h2⟩ := h
  unfold NoOp sgnB
  rw [h1]
  rcases h2 with h2 | h2 | h2 <;> rw [h2] <;> decide
theorem EndS.start {t : Tok} (h : EndS t) : startB t = false := by
  obtain ⟨h1, h2⟩ := h
  unfold startB sgnB
  rw [h1]
  rcases h2 with h2 | h2 | h2 <;> rw [h2] <;> decide
theorem key_split {ts : List Tok} {a b : List (List UInt8 × Key)} (h : ts.map Tok.key = (a ++ b).map Prod.snd) : ∃ x y, ts = x ++ y ∧ x.map Tok.key = a.map Prod.snd ∧ y.map Tok.key = b.map Prod.snd := by
  rw [List.map_append] at h
  obtain ⟨x, y, rfl, h1, h2⟩ := List.map_eq_append_iff.1 h
  exact ⟨x, y, rfl, h1, h2⟩
theorem key_one {ts : List Tok} {s : List UInt8} {k : Key} (h : ts.map Tok.key = [(s, k)].map Prod.snd) : ∃ t, ts = [t] ∧ t.kind = k.kind ∧ t.text = k.text ∧ t.wt = k.wt := by
  cases ts with
  | nil => cases h
  | cons t r =>
    cases r with
    | nil =>
      injection h with h _
      have h : t.key = k := h
      refine ⟨t, rfl, ?_, ?_, ?_⟩
      · rw [← h]; rfl
      · rw [← h]; rfl
      · rw [← h]; rfl
    | cons u r => cases h
theorem op_none {t : Tok} {r : List Tok} (h : NoOp t) : opP (t :: r) = (0, t :: r) := by
  rw [opP, if_neg (by rw [h.1]; decide), if_neg (by rw [h.2.1]; decide), if_neg (by rw [h.2.2]; decide)]
theorem op_back {op : Int} (hop : op = 0 ∨ op = 42 ∨ op = 43 ∨ op = 63) {ts : List Tok} (h : ts.map Tok.key = (opK [.int .u8 op]).map Prod.snd) {u : Tok} {r : List Tok} (hu : NoOp u) : opP (ts ++ u :: r) = (op, u :: r) := by
  rcases hop with rfl | rfl | rfl | rfl
  · have : ts = [] := by cases ts with | nil => rfl | cons t r => cases h
    subst this
    exact op_none hu
  all_goals
    obtain ⟨t, rfl, h1, h2, _⟩ := key_one h
    obtain ⟨kind, pos, text, wt⟩ := t
    simp only [sgnK] at h1 h2
    subst h1 h2
    rfl
end Go.Proofs.Yticdihfjnmjkmaa
namespace Go.Proofs.Yticdihfjnmjkmaa
theorem sgn_is {t : Tok} {c : UInt8} (h1 : t.kind = 4) (h2 : t.text = [c]) : sgnB t [c] = true := by unfold sgnB; rw [h1, h2]; simp
theorem sgn_isnt {t : Tok} {c d : UInt8} (h2 : t.text = [c]) (h : c ≠ d) : sgnB t [d] = false := by unfold sgnB; rw [h2]; simp [h]
theorem start_noOp {t : Tok} (h : startB t = true) : NoOp t := by
  unfold startB at h
  rw [Bool.or_eq_true, Bool.or_eq_true, decide_eq_true_iff, decide_eq_true_iff] at h
  unfold NoOp sgnB at *
  rcases h with h | h | h
  · rw [h]; simp
  · rw [h]; simp
  · rw [Bool.and_eq_true, decide_eq_true_iff, decide_eq_true_iff] at h
    rw [h.2]; simp
mutual
theorem back_item : ∀ (d k : Nat) (t : PN), PN.Form false t → PN.Ops t → PN.Gd false d t → ∀ ts, ts.map Tok.key = (PN.ky false k t).map Prod.snd → ∀ u r, NoOp u → ∃ t', Ps .item d (ts ++ u :: r) (.ok [t'] (u :: r)) ∧ PN.nf false t' = PN.nf false t ∧ ∃ h tl, ts = h :: tl ∧ startB h = true
  | d, k, .node pre post kids, hf, ho, hg, ts, hk, u, r, hu => by
    obtain ⟨⟨a, kd, op, tx, rfl, rfl, hcase⟩, hgk⟩ := hg
    rw [PN.ky] at hk
    obtain ⟨x, y, rfl, hx, hy⟩ := key_split hk
    have hop := op_back (ho.1 op rfl) hy (r := r) hu
    rcases hcase with ⟨hkd, rfl⟩ | ⟨rfl, rfl, hd, hne⟩
    · rcases hkd with rfl | rfl
      · obtain ⟨t, rfl, h1, h2, h3⟩ := key_one (show x.map Tok.key = [(([32] : List UInt8), (⟨1, tx.data.toList, 0⟩ : Key))].map Prod.snd from hx)
        have hp := Ps.word (d := d) (t := t) (r := y ++ u :: r) (.inl h1)
        rw [hop] at hp
        refine ⟨wordN t op, hp, ?_, t, y, rfl, by unfold startB; rw [h1]; rfl⟩
        simp only at h1 h2
        simp [wordN, PN.nf, shI, h1, h2, bOf_self]
      · obtain ⟨t, rfl, h1, h2, h3⟩ := key_one (show x.map Tok.key = [(([32] : List UInt8), (⟨2, tx.data.toList, 0⟩ : Key))].map Prod.snd from hx)
        have hp := Ps.word (d := d) (t := t) (r := y ++ u :: r) (.inr h1)
        rw [hop] at hp
        refine ⟨wordN t op, hp, ?_, t, y, rfl, by unfold startB; rw [h1]; rfl⟩
        simp only at h1 h2
        simp [wordN, PN.nf, shI, h1, h2, bOf_self]
    · have hx' : x.map Tok.key = (([([32], sgnK 40)] ++ PN.kyL true 0 kids) ++ [([32], sgnK 41)]).map Prod.snd := hx
      obtain ⟨x1, x2, rfl, hx1, hx2⟩ := key_split hx'
      obtain ⟨x3, x4, rfl, h3, h4⟩ := key_split hx1
      obtain ⟨o, rfl, o1, o2, _⟩ := key_one h3
      obtain ⟨c, rfl, c1, c2, _⟩ := key_one hx2
      obtain ⟨ks', hp, hn⟩ := back_alts (d + 1) kids hf.2 ho.2 hgk hne x4 h4 c (y ++ u :: r) ⟨c1, .inr (.inl c2)⟩ (by rw [c2]; decide)
      have hg := Ps.group (t := o) (sgn_is o1 o2) hd hp (sgn_is c1 c2)
      rw [hop] at hg
      refine ⟨groupN o op ks', by simpa using hg, ?_, o, _, rfl, by unfold startB; rw [sgn_is o1 o2]; simp⟩
      simp [groupN, PN.nf, shI, hn]
theorem back_items : ∀ (d k : Nat) (l : List PN), PN.FormL false l → PN.OpsL l → PN.GdL false d l → ∀ ts, ts.map Tok.key = (PN.kyL false k l).map Prod.snd → ∀ u r, EndS u → ∃ ks', Ps .items d (ts ++ u :: r) (.ok ks' (u :: r)) ∧ PN.nfL false ks' = PN.nfL false l ∧ ∃ v w, ts ++ u :: r = v :: w ∧ NoOp v ∧ v.kind ≠ 3
  | d, k, [], _, _, _, ts, hk, u, r, hu => by
    rw [PN.kyL] at hk
    obtain rfl : ts = [] := by cases ts with | nil => rfl | cons t r => cases hk
    exact ⟨[], .items_nil hu.start, rfl, u, r, rfl, hu.noOp, by rw [hu.1]; decide⟩
  | d, k, x :: l, hf, ho, hg, ts, hk, u, r, hu => by
    rw [PN.kyL] at hk
    obtain ⟨a, b, rfl, ha, hb⟩ := key_split hk
    obtain ⟨ks', hp, hn, v, w, e, hv, _⟩ := back_items d (k + 1) l hf.2 ho.2 hg.2 b hb u r hu
    obtain ⟨t', hp1, hn1, h, tl, rfl, hs⟩ := back_item d k x hf.1 ho.1 hg.1 a ha v w hv
    rw [← e] at hp1
    refine ⟨t' :: ks', ?_, by rw [PN.nfL, PN.nfL, hn, hn1], h, tl ++ b ++ u :: r, by simp, start_noOp hs, ?_⟩
    · have := Ps.items hs hp1 hp
      simpa [Out.pres] using this
    · intro h3
      unfold startB sgnB at hs
      rw [h3] at hs
      simp at hs
theorem back_alt : ∀ (d : Nat) (t : PN), PN.Form true t → PN.Ops t → PN.Gd true d t → ∀ ts, ts.map Tok.key = (PN.ky true 0 t).map Prod.snd → ∀ u r, EndS u → ∃ t', Ps .alt d (ts ++ u :: r) (.ok [t'] (u :: r)) ∧ PN.nf true t' = PN.nf true t
  | d, .node pre post kids, hf, ho, hg, ts, hk, u, r, hu => by
    obtain ⟨⟨a, f, rfl, rfl⟩, hk2⟩ := hf
    rw [PN.ky] at hk
    have hk : ts.map Tok.key = (wgtK [.int .i64 a, .float .f64 f] ++ PN.kyL false 0 kids).map Prod.snd := hk
    obtain ⟨x, y, rfl, hx, hy⟩ := key_split hk
    obtain ⟨ks', hp, hn, v, w, e, hv, hv3⟩ := back_items d 0 kids hk2 ho.2 hg y hy u r hu
    by_cases hs : sameF f 0 = true
    · have hx : x.map Tok.key = [] := by
        have : wgtK [.int .i64 a, .float .f64 f] = [] := by unfold wgtK; simp [hs]
        rw [this] at hx; exact hx
      obtain rfl : x = [] := by cases x with | nil => rfl | cons t r => cases hx
      have hp2 := hp
      rw [e] at hp2
      have := Ps.alt (t := v) (r := w) (by rw [if_neg hv3]; exact hp2)
      rw [List.nil_append, e]
      refine ⟨_, this, ?_⟩
      simp only [PN.nf, shW, hn, if_neg hv3, same_zero hs]
    · have hx : x.map Tok.key = [(([32] : List UInt8), (⟨3, numS f, (readL (numS f)).getD 0⟩ : Key))].map Prod.snd := by
        have : wgtK [.int .i64 a, .float .f64 f] = [([32], ⟨3, numS f, (readL (numS f)).getD 0⟩)] := by unfold wgtK; simp [hs]
        rw [this] at hx; exact hx
      obtain ⟨t, rfl, h1, _, h3⟩ := key_one hx
      have := Ps.alt (t := t) (r := y ++ u :: r) (by rw [if_pos h1]; exact hp)
      refine ⟨_, this, ?_⟩
      have hb := num_back f
      unfold backF at hb
      rw [if_neg hs] at hb
      simp only at h3
      simp only [PN.nf, shW, hn, if_pos h1, h3, hb]
theorem back_more : ∀ (d k : Nat) (l : List PN), PN.FormL true l → PN.OpsL l → PN.GdL true d l → ∀ ts, ts.map Tok.key = (PN.kyL true (k + 1) l).map Prod.snd → ∀ u r, EndS u → u.text ≠ [124] → ∃ ks', Ps .more d (ts ++ u :: r) (.ok ks' (u :: r)) ∧ PN.nfL true ks' = PN.nfL true l ∧ ∃ v w, ts ++ u :: r = v :: w ∧ EndS v
  | d, k, [], _, _, _, ts, hk, u, r, hu, hn => by
    rw [PN.kyL] at hk
    obtain rfl : ts = [] := by cases ts with | nil => rfl | cons t r => cases hk
    exact ⟨[], .more_nil (by unfold sgnB; simp [hn]), rfl, u, r, rfl, hu⟩
  | d, k, x :: l, hf, ho, hg, ts, hk, u, r, hu, hn => by
    rw [PN.kyL] at hk
    obtain ⟨a, b, rfl, ha, hb⟩ := key_split hk
    obtain ⟨ks', hp, hn1, v, w, e, hv⟩ := back_more d (k + 1) l hf.2 ho.2 hg.2 b hb u r hu hn
    have ha : a.map Tok.key = ([([32], sgnK 124)] ++ PN.ky true 0 x).map Prod.snd := by
      obtain ⟨pre, post, kids⟩ := x
      rw [PN.ky] at ha ⊢
      simpa using ha
    obtain ⟨s, a2, rfl, hs, ha2⟩ := key_split ha
    obtain ⟨t, rfl, t1, t2, _⟩ := key_one hs
    obtain ⟨t', hp1, hn2⟩ := back_alt d x hf.1 ho.1 hg.1 a2 ha2 v w hv
    rw [← e] at hp1
    refine ⟨t' :: ks', ?_, by rw [PN.nfL, PN.nfL, hn1, hn2], t, a2 ++ b ++ u :: r, by simp, t1, .inl t2⟩
    have := Ps.more (sgn_is t1 t2) hp1 hp
    simpa [Out.pres] using this
theorem back_alts : ∀ (d : Nat) (l : List PN), PN.FormL true l → PN.OpsL l → PN.GdL true d l → l ≠ [] → ∀ ts, ts.map Tok.key = (PN.kyL true 0 l).map Prod.snd → ∀ u r, (u.kind = 4 ∧ (u.text = [124] ∨ u.text = [41] ∨ u.text = [59])) → u.text ≠ [124] → ∃ ks', Ps .alts d (ts ++ u :: r) (.ok ks' (u :: r)) ∧ PN.nfL true ks' = PN.nfL true l
  | _, [], _, _, _, hne, _, _, _, _, _, _ => absurd rfl hne
  | d, x :: l, hf, ho, hg, _, ts, hk, u, r, hu, hn => by
    rw [PN.kyL] at hk
    obtain ⟨a, b, rfl, ha, hb⟩ := key_split hk
    obtain ⟨ks', hp, hn1, v, w, e, hv⟩ := back_more d 0 l hf.2 ho.2 hg.2 b hb u r hu hn
    obtain ⟨t', hp1, hn2⟩ := back_alt d x hf.1 ho.1 hg.1 a ha v w hv
    rw [← e] at hp1
    refine ⟨t' :: ks', ?_, by rw [PN.nfL, PN.nfL, hn1, hn2]⟩
    have := Ps.alts hp1 hp
    simpa [Out.pres] using this
end
end Go.Proofs.Yticdihfjnmjkmaa
namespace Go.Proofs.Yticdihfjnmjkmaa
def defK (s n : List UInt8) (ks : List PN) : List (List UInt8 × Key) := ([(s, ⟨1, n, 0⟩)] ++ [([32], sgnK 61)]) ++ (PN.kyL true 0 ks ++ [([32], sgnK 59)])
structure DefOK (n : List UInt8) (ks : List PN) : Prop where
  nm : Key.OK ⟨1, n, 0⟩
  f : PN.FormL true ks
  w : PN.WfL ks
  o : PN.OpsL ks
  g : PN.GdL true 0 ks
  ne : ks ≠ []
theorem back_pd {s n : List UInt8} {ks : List PN} (h : DefOK n ks) {ts : List Tok} (hk : ts.map Tok.key = (defK s n ks).map Prod.snd) (r : List Tok) :
    ∃ t ks', Pd (ts ++ r) (.ok [defN t ks'] r) ∧ t.text = n ∧ PN.nfL true ks' = PN.nfL true ks ∧ ∃ tl, ts = t :: tl ∧ t.kind = 1 := by
  obtain ⟨x, y, rfl, hx, hy⟩ := key_split hk
  obtain ⟨x1, x2, rfl, h1, h2⟩ := key_split hx
  obtain ⟨y1, y2, rfl, h3, h4⟩ := key_split hy
  obtain ⟨t, rfl, t1, t2, _⟩ := key_one h1
  obtain ⟨u, rfl, u1, u2, _⟩ := key_one h2
  obtain ⟨z, rfl, z1, z2, _⟩ := key_one h4
  obtain ⟨ks', hp, hn⟩ := back_alts 0 ks h.f h.o h.g h.ne y1 h3 z r ⟨z1, .inr (.inr z2)⟩ (by rw [z2]; decide)
  have := Pd.ok t1 (sgn_is u1 u2) hp (sgn_is z1 z2)
  exact ⟨t, ks', by simpa using this, t2, hn, _, rfl, t1⟩
def defsK : List (List UInt8 × List PN) → List (List UInt8 × Key)
  | [] => []
  | (n, ks) :: r => defK [10] n ks ++ defsK r
theorem back_pds : ∀ (l : List (List UInt8 × List PN)), (∀ x ∈ l, DefOK x.1 x.2) → ∀ (b : Bool), (b = true → l ≠ []) → ∀ ts, ts.map Tok.key = (defsK l).map Prod.snd → ∀ z, z.kind = 0 →
    ∃ l' : List (Tok × List PN), Pds b (ts ++ [z]) (.ok (l'.map fun x => defN x.1 x.2) [z]) ∧ l'.map (fun x => (x.1.text, PN.nfL true x.2)) = l.map (fun x => (x.1, PN.nfL true x.2))
  | [], _, b, hb, ts, hk, z, hz => by
    obtain rfl : ts = [] := by cases ts with | nil => rfl | cons t r => cases hk
    cases b with
    | true => exact absurd rfl (hb rfl)
    | false => exact ⟨[], .nil hz, rfl⟩
  | (n, ks) :: l, h, b, _, ts, hk, z, hz => by
    obtain ⟨x, y, rfl, hx, hy⟩ := key_split (show ts.map Tok.key = (defK [10] n ks ++ defsK l).map Prod.snd from hk)
    obtain ⟨l', hp, hl⟩ := back_pds l (fun x hx => h x (by simp [hx])) false (fun h => by cases h) y hy z hz
    obtain ⟨t, ks', hd, ht, hn, tl, rfl, hk1⟩ := back_pd (h (n, ks) (by simp)) hx (y ++ [z])
    refine ⟨(t, ks') :: l', ?_, by rw [List.map_cons, List.map_cons, hl, ht, hn]⟩
    have := Pds.one (m := b) (t := t) (r := tl ++ (y ++ [z])) (.inr (by rw [hk1]; decide)) hd hp
    simpa [Out.pres] using this
end Go.Proofs.Yticdihfjnmjkmaa
namespace Go.Proofs.Yticdihfjnmjkmaa
def defT (x : List UInt8 × List PN) : List UInt8 := x.1 ++ ([32, 61] ++ (PN.wrL true 0 x.2 ++ [32, 59, 10]))
theorem key1_t (n : List UInt8) : (⟨1, n, 0⟩ : Key).t = n := by simp [Key.t]
theorem flat_one (s : List UInt8) (k : Key) : flatK [(s, k)] = s ++ k.t := by simp [flatK]
theorem sgnK_t (c : UInt8) : (sgnK c).t = [c] := by simp [Key.t, sgnK]
theorem flat_defK (s n : List UInt8) (ks : List PN) : flatK (defK s n ks) = s ++ (n ++ ([32, 61] ++ (PN.wrL true 0 ks ++ [32, 59]))) := by
  unfold defK
  rw [flatK_append, flatK_append, flatK_append, flat_one, flat_one, flat_one, flat_kyL, key1_t, sgnK_t, sgnK_t]
  simp
theorem defs_flat : ∀ r : List (List UInt8 × List PN), flatK (defsK r) ++ [10] = 10 :: r.flatMap defT
  | [] => rfl
  | (n, ks) :: r => by
    rw [defsK, flatK_append, List.append_assoc, defs_flat r, flat_defK]
    simp [defT]
theorem bef_defK {n : List UInt8} {ks : List PN} (h : DefOK n ks) : BefOK (defK [10] n ks) := by
  unfold defK
  exact BefOK.append (BefOK.append (bef_one h.nm (.inr (.inl rfl))) (bef_one (sgn_ok (by decide)) (.inl rfl))) (BefOK.append (bef_kyL true 0 ks h.f h.w h.o) (bef_one (sgn_ok (by decide)) (.inl rfl)))
theorem bef_defs : ∀ r : List (List UInt8 × List PN), (∀ x ∈ r, DefOK x.1 x.2) → BefOK (defsK r)
  | [], _ => bef_nil
  | (n, ks) :: r, h => by
    rw [defsK]
    exact BefOK.append (bef_defK (h (n, ks) (by simp))) (bef_defs r (fun x hx => h x (by simp [hx])))
theorem back_lex {l : List (List UInt8 × List PN)} (h : ∀ x ∈ l, DefOK x.1 x.2) (hne : l ≠ []) : ∃ ts q, LexT (l.flatMap defT) (ts ++ [endTok q]) 0 0 ∧ ts.map Tok.key = (defsK l).map Prod.snd := by
  cases l with
  | nil => exact absurd rfl hne
  | cons x r =>
    obtain ⟨n, ks⟩ := x
    have h0 := h (n, ks) (by simp)
    have hb := bef_defs ((n, ks) :: r) h
    obtain ⟨rest, hrest⟩ : ∃ rest, defsK ((n, ks) :: r) = ([10], ⟨1, n, 0⟩) :: rest := ⟨_, rfl⟩
    have hT : ((n, ks) :: r).flatMap defT = txtK (behK ⟨1, n, 0⟩ rest) := by
      have h1 := defs_flat ((n, ks) :: r)
      rw [hrest] at h1
      rw [← flat_beh, key1_t]
      have h2 : flatK (([10], ⟨1, n, 0⟩) :: rest) = 10 :: (n ++ flatK rest) := by simp [flatK, key1_t]
      rw [h2] at h1
      have h3 : n ++ flatK rest ++ [10] = ((n, ks) :: r).flatMap defT := by
        injection h1 with _ h1
      rw [← h3, List.append_assoc]
    have hok := beh_ok rest ⟨1, n, 0⟩ h0.nm (fun x hx => hb x (by rw [hrest]; exact List.mem_cons_of_mem _ hx))
    obtain ⟨ts, q, hl, hm⟩ := lex_keys _ hok 0
    refine ⟨ts, q, ?_, ?_⟩
    · unfold LexT
      rw [hT, sep_skip hok]
      exact hl
    · rw [hm, beh_keys, hrest]; rfl
end Go.Proofs.Yticdihfjnmjkmaa
namespace Go.Proofs.Yticdihfjnmjkmaa
theorem pd_ok2 {l : List Tok} {o : Out} (h : Pd l o) (ha : AllOK l) : ∀ ns r, o = .ok ns r → (∃ t ks, ns = [defN t ks] ∧ DefOK t.text ks) ∧ ∀ t ∈ r, t ∈ l := by
  intro ns r ho
  cases h with
  | bad => cases ho
  | noeq => cases ho
  | alts_err => cases ho
  | nosemi => cases ho
  | @ok t u q ks x r2 h1 h2 h3 h4 =>
    cases ho
    have hk : t.key.OK := (ha t (by simp)).resolve_left (by omega)
    have hsub := ps_sub h3 _ _ rfl
    have hg := ps_gd h3 _ _ rfl
    refine ⟨⟨t, ks, rfl, ?_, ps_forms h3 _ _ rfl, ps_wf h3 (fun v hv => ha v (by simp [hv])) _ _ rfl, ps_ops h3 _ _ rfl, hg.1, hg.2 rfl⟩, fun v hv => ?_⟩
    · obtain ⟨kind, pos, text, wt⟩ := t
      simp only [Tok.key] at *
      subst h1
      cases hk with
      | name p1 p2 p3 => exact .name p1 p2 p3
    · exact List.mem_cons_of_mem _ (List.mem_cons_of_mem _ (hsub v (List.mem_cons_of_mem _ hv)))
theorem pds_ok2 {b : Bool} {l : List Tok} {o : Out} (h : Pds b l o) : AllOK l → ∀ ns r, o = .ok ns r → ∃ l' : List (Tok × List PN), ns = l'.map (fun x => defN x.1 x.2) ∧ (∀ x ∈ l', DefOK x.1.text x.2) ∧ (b = true → l' ≠ []) := by
  induction h with
  | nil => intro _ ns r ho; cases ho; exact ⟨[], rfl, by simp, by simp⟩
  | err => intro _ ns r ho; cases ho
  | one h1 h2 h3 ih =>
    intro ha ns r ho
    obtain ⟨ns', rfl, rfl⟩ := pres_ok ho
    obtain ⟨⟨t, ks, rfl, hd⟩, hsub⟩ := pd_ok2 h2 ha _ _ rfl
    obtain ⟨l', rfl, hl, _⟩ := ih (fun v hv => ha v (hsub v hv)) _ _ rfl
    refine ⟨(t, ks) :: l', rfl, fun x hx => ?_, fun _ => by simp⟩
    rcases List.mem_cons.1 hx with rfl | hx
    · exact hd
    · exact hl x hx
end Go.Proofs.Yticdihfjnmjkmaa
namespace Go.Proofs.Yticdihfjnmjkmaa
def plainD (l : List (Tok × List PN)) : List (List UInt8 × List PN) := l.map fun x => (x.1.text, x.2)
theorem back_all {s : List UInt8} {ts : List Tok} {e : Int} {a : Nat} {ns : List PN} {r : List Tok} (hl : LexT s ts e a) (hp : Pds true ts (.ok ns r)) :
    ∃ l' : List (Tok × List PN), ns = l'.map (fun x => defN x.1 x.2) ∧ l' ≠ [] ∧ (∀ x ∈ l', DefOK x.1.text x.2) ∧
      ∃ ts2 q, ∃ l2 : List (Tok × List PN), LexT ((plainD l').flatMap defT) (ts2 ++ [endTok q]) 0 0 ∧ Pds true (ts2 ++ [endTok q]) (.ok (l2.map fun x => defN x.1 x.2) [endTok q]) ∧
        l2.map (fun x => (x.1.text, PN.nfL true x.2)) = l'.map (fun x => (x.1.text, PN.nfL true x.2)) := by
  obtain ⟨l', rfl, hok, hne⟩ := pds_ok2 hp (lex_ok hl) _ _ rfl
  have hok2 : ∀ x ∈ plainD l', DefOK x.1 x.2 := fun x hx => by
    obtain ⟨y, hy, rfl⟩ := List.mem_map.1 hx
    exact hok y hy
  have hne2 : plainD l' ≠ [] := by
    unfold plainD
    intro h
    exact hne rfl (List.map_eq_nil_iff.1 h)
  obtain ⟨ts2, q, h1, h2⟩ := back_lex hok2 hne2
  obtain ⟨l2, h3, h4⟩ := back_pds (plainD l') hok2 true (fun _ => hne2) ts2 h2 (endTok q) rfl
  refine ⟨l', rfl, hne rfl, hok, ts2, q, l2, h1, h3, ?_⟩
  rw [h4]
  unfold plainD
  rw [List.map_map]
  rfl
end Go.Proofs.Yticdihfjnmjkmaa
namespace Go.Proofs.Yticdihfjnmjkmaa
def Ph.ex : Ph → Nat | .alts => 8 | .alt => 8 | _ => 0
theorem opT_le (op : Int) : (opT [.int .u8 op]).length ≤ 1 := by
  show (if op = 0 then ([] : List UInt8) else [op.toNat.toUInt8]).length ≤ 1
  split <;> simp
theorem body_eq (inner : List UInt8) (p : Nat) (kd : Int) (tx : ByteArray) : bodyT inner [.int .i64 p, .int .i64 kd, .string tx] = if kd = 0 then [32] ++ tx.data.toList else if kd = 1 then [32, 39] ++ tx.data.toList ++ [39] else [32, 40] ++ inner ++ [32, 41] := rfl
theorem opP_le (l : List Tok) : (opP l).2.length ≤ l.length := by
  cases l with
  | nil => exact Nat.le_refl _
  | cons t r =>
    rw [opP]
    split
    · simp
    split
    · simp
    split
    · simp
    · exact Nat.le_refl _
theorem ok_len {t : Tok} (h : t.key.OK) : (t.kind = 1 → t.text.length ≤ 24) ∧ (t.kind = 2 → t.text.length ≤ 16) := by
  obtain ⟨kind, pos, text, wt⟩ := t
  simp only [Tok.key] at h
  cases h with
  | name h1 h2 h3 => exact ⟨fun _ => by simp only [List.length_cons]; omega, fun h => by simp at h⟩
  | quot h1 h2 h3 => exact ⟨fun h => by simp at h, fun _ => h3⟩
  | wght h1 h2 => exact ⟨fun h => by simp at h, fun h => by simp at h⟩
  | sign h1 => exact ⟨fun h => by simp at h, fun h => by simp at h⟩
theorem word_len {t : Tok} (h : t.kind = 0 ∨ t.key.OK) (hk : t.kind = 1 ∨ t.kind = 2) (op : Int) (k : Nat) : (PN.wr false k (wordN t op)).length ≤ 29 := by
  have h2 := ok_len (h.resolve_left (by omega))
  unfold wordN
  rw [PN.wr, List.length_append]
  have h3 := opT_le op
  have h4 : (bodyT (PN.wrL true 0 []) [.int .i64 t.pos, .int .i64 (t.kind - 1), .string (bOf t.text)]).length ≤ 28 := by
    rw [body_eq]
    rcases hk with hk | hk
    · have := h2.1 hk
      rw [hk, if_pos (by decide)]
      show ([32] ++ t.text).length ≤ 28
      rw [List.length_append, List.length_singleton]
      omega
    · have := h2.2 hk
      rw [hk, if_neg (by decide), if_pos (by decide)]
      show ([32, 39] ++ t.text ++ [39]).length ≤ 28
      rw [List.length_append, List.length_append]
      simp only [List.length_cons, List.length_nil]
      omega
  omega
theorem group_len (t : Tok) (op : Int) (ks : List PN) (k : Nat) : (PN.wr false k (groupN t op ks)).length ≤ 5 + (PN.wrL true 0 ks).length := by
  unfold groupN
  rw [PN.wr, List.length_append]
  have h3 := opT_le op
  have h4 : (bodyT (PN.wrL true 0 ks) [.int .i64 t.pos, .int .i64 2, .string ⟨#[]⟩]).length = 4 + (PN.wrL true 0 ks).length := by
    rw [body_eq, if_neg (by decide), if_neg (by decide), List.length_append, List.length_append]
    simp only [List.length_cons, List.length_nil]
    omega
  omega
theorem alt_len (p f : Nat) (ks : List PN) (k : Nat) : (PN.wr true k (.node [.int .i64 p, .float .f64 f] [] ks)).length ≤ 8 + (PN.wrL false 0 ks).length := by
  rw [wr_alt, List.length_append, List.length_append]
  have h1 : (if k = 0 then ([] : List UInt8) else [32, 124]).length ≤ 2 := by split <;> simp
  have h2 : (if sameF f 0 = true then ([] : List UInt8) else [32, 37] ++ numS f).length ≤ 6 := by
    have := numS_short f
    split
    · simp
    · simp only [List.length_append, List.length_cons, List.length_nil]; omega
  omega
theorem wrL_one (b : Bool) (k : Nat) (x : PN) : PN.wrL b k [x] = PN.wr b k x := by rw [PN.wrL, PN.wrL, List.append_nil]
theorem ok_tail {t : Tok} {r : List Tok} (h : AllOK (t :: r)) : AllOK r := fun x hx => h x (List.mem_cons_of_mem _ hx)
theorem ok_sub {l r : List Tok} (h : AllOK l) (hs : ∀ t ∈ r, t ∈ l) : AllOK r := fun x hx => h x (hs x hx)
theorem ps_len {ph : Ph} {d : Nat} {l : List Tok} {o : Out} (h : Ps ph d l o) : AllOK l → ∀ ns r, o = .ok ns r → ∀ k, (PN.wrL ph.alt? k ns).length + 29 * r.length ≤ 29 * l.length + ph.ex := by
  induction h with
  | alts h1 h2 i1 i2 =>
    intro ha ns r ho k
    obtain ⟨ns', rfl, rfl⟩ := pres_ok ho
    have a1 := i1 ha _ _ rfl k
    have a2 := fun q => i2 (ok_sub ha (ps_sub h1 _ _ rfl)) _ _ rfl q
    rw [wrL_append, List.length_append]
    simp only [Ph.ex, Ph.alt?] at a1 a2 ⊢
    refine Nat.le_trans ?_ a1
    rw [Nat.add_assoc]
    exact Nat.add_le_add_left (a2 _) _
  | alts_err => intro ha ns r ho; cases ho
  | more_nil => intro ha ns r ho k; cases ho; simp [PN.wrL, Ph.ex]
  | more hs h1 h2 i1 i2 =>
    intro ha ns r ho k
    obtain ⟨ns', rfl, rfl⟩ := pres_ok ho
    have a1 := i1 (ok_tail ha) _ _ rfl k
    have a2 := fun q => i2 (ok_sub (ok_tail ha) (ps_sub h1 _ _ rfl)) _ _ rfl q
    rw [wrL_append, List.length_append]
    simp only [Ph.ex, Ph.alt?, List.length_cons] at a1 a2 ⊢
    rw [Nat.add_assoc]
    refine Nat.le_trans (Nat.add_le_add_left (a2 _) _) ?_
    omega
  | more_err => intro ha ns r ho; cases ho
  | @alt d t r' o h1 i1 =>
    intro ha ns r ho k
    obtain ⟨ns', rfl, rfl⟩ := alt_ok ho
    have h2 : AllOK (if t.kind = 3 then r' else t :: r') ∧ (if t.kind = 3 then r' else t :: r').length ≤ (t :: r').length := by
      split
      · exact ⟨ok_tail ha, by simp⟩
      · exact ⟨ha, Nat.le_refl _⟩
    have a1 := i1 h2.1 _ _ rfl 0
    have a3 := alt_len t.pos (if t.kind = 3 then t.wt else 0) ns' k
    simp only [Ph.ex, Ph.alt?] at a1 ⊢
    rw [wrL_one]
    have := h2.2
    generalize (if t.kind = 3 then r' else t :: r').length = q at *
    omega
  | items_nil => intro ha ns r ho k; cases ho; simp [PN.wrL, Ph.ex]
  | items hs h1 h2 i1 i2 =>
    intro ha ns r ho k
    obtain ⟨ns', rfl, rfl⟩ := pres_ok ho
    have a1 := i1 ha _ _ rfl k
    have a2 := fun q => i2 (ok_sub ha (ps_sub h1 _ _ rfl)) _ _ rfl q
    rw [wrL_append, List.length_append]
    simp only [Ph.ex, Ph.alt?] at a1 a2 ⊢
    rw [Nat.add_assoc]
    exact Nat.le_trans (Nat.add_le_add_left (a2 _) _) a1
  | items_err => intro ha ns r ho; cases ho
  | @word d t r' hk =>
    intro ha ns r ho k; cases ho
    have a1 := word_len (ha t (by simp)) hk (opP r').1 k
    have a2 := opP_le r'
    simp only [Ph.ex, Ph.alt?, List.length_cons]
    rw [wrL_one]
    omega
  | deep => intro ha ns r ho; cases ho
  | group_err => intro ha ns r ho; cases ho
  | close => intro ha ns r ho; cases ho
  | @group d t r' ks u r2 hs hd h1 hc i1 =>
    intro ha ns r ho k; cases ho
    have a1 := i1 (ok_tail ha) _ _ rfl 0
    have a2 := opP_le r2
    have a3 := group_len t (opP r2).1 ks k
    simp only [Ph.ex, Ph.alt?, List.length_cons] at a1 ⊢
    rw [wrL_one]
    omega
/-- The text of a definition that was read. -/
def defTP : PN → List UInt8
  | .node [_, .string tx] _ ks => defT (tx.data.toList, ks)
  | _ => []
theorem defTP_eq (t : Tok) (ks : List PN) : defTP (defN t ks) = defT (t.text, ks) := rfl
theorem pd_len {l : List Tok} {o : Out} (h : Pd l o) (ha : AllOK l) : ∀ ns r, o = .ok ns r → (ns.flatMap defTP).length + 29 * r.length ≤ 29 * l.length ∧ ∀ t ∈ r, t ∈ l := by
  intro ns r ho
  refine ⟨?_, (pd_ok2 h ha _ _ ho).2⟩
  cases h with
  | bad => cases ho
  | noeq => cases ho
  | alts_err => cases ho
  | nosemi => cases ho
  | @ok t u q ks x r2 h1 h2 h3 h4 =>
    cases ho
    have hk := ok_len ((ha t (by simp)).resolve_left (by omega))
    have a1 := ps_len h3 (ok_tail (ok_tail ha)) _ _ rfl 0
    have a2 := hk.1 h1
    rw [List.flatMap_cons, List.flatMap_nil, List.append_nil, defTP_eq]
    unfold defT
    simp only [Ph.ex, Ph.alt?, List.length_cons, List.length_append, List.length_nil] at a1 ⊢
    omega
theorem pds_len {b : Bool} {l : List Tok} {o : Out} (h : Pds b l o) : AllOK l → ∀ ns r, o = .ok ns r → (ns.flatMap defTP).length ≤ 29 * l.length := by
  induction h with
  | nil => intro ha ns r ho; cases ho; simp
  | err => intro ha ns r ho; cases ho
  | one h1 h2 h3 ih =>
    intro ha ns r ho
    obtain ⟨ns', rfl, rfl⟩ := pres_ok ho
    obtain ⟨a1, hs⟩ := pd_len h2 ha _ _ rfl
    have a2 := ih (ok_sub ha hs) _ _ rfl
    rw [List.flatMap_append, List.length_append]
    omega
theorem flat_mem {n : PN} {ns : List PN} (h : n ∈ ns) : (defTP n).length ≤ (ns.flatMap defTP).length := by
  induction ns with
  | nil => cases h
  | cons m ns ih =>
    rw [List.flatMap_cons, List.length_append]
    rcases List.mem_cons.1 h with rfl | h
    · omega
    · have := ih h; omega
end Go.Proofs.Yticdihfjnmjkmaa
namespace Go.Proofs.Yticdihfjnmjkmaa
theorem ps_err {ph : Ph} {d : Nat} {l : List Tok} {o : Out} (h : Ps ph d l o) : ∀ e p, o = .err e p → Ends l → e ≠ 0 ∧ ∃ t ∈ l, p = t.pos := by
  have pe : ∀ {o : Out} {a : List PN} {e : Int} {p : Nat}, o.pres a = .err e p → o = .err e p := fun {o a e p} h => by
    cases o with
    | ok n l => simp [Out.pres] at h
    | err e p => exact h
  have ae : ∀ {o : Out} {t : Tok} {e : Int} {p : Nat}, o.alt t = .err e p → o = .err e p := fun {o t e p} h => by
    cases o with
    | ok n l => simp [Out.alt] at h
    | err e p => exact h
  induction h with
  | alts h1 h2 i1 i2 =>
    intro e p ho he
    obtain ⟨q, t, ht, hp⟩ := i2 _ _ (pe ho) (h1.res he _ _ rfl).1
    exact ⟨q, t, ps_sub h1 _ _ rfl t ht, hp⟩
  | alts_err h1 i1 => intro e p ho he; exact i1 _ _ ho he
  | more_nil => intro e p ho; cases ho
  | more hs h1 h2 i1 i2 =>
    intro e p ho he
    have her := he.tail (by rw [sgn_kind hs]; decide)
    obtain ⟨q, t, ht, hp⟩ := i2 _ _ (pe ho) (h1.res her _ _ rfl).1
    exact ⟨q, t, List.mem_cons_of_mem _ (ps_sub h1 _ _ rfl t ht), hp⟩
  | more_err hs h1 i1 =>
    intro e p ho he
    obtain ⟨q, t, ht, hp⟩ := i1 _ _ ho (he.tail (by rw [sgn_kind hs]; decide))
    exact ⟨q, t, List.mem_cons_of_mem _ ht, hp⟩
  | @alt d t r' o h1 i1 =>
    intro e p ho he
    have h2 : Ends (if t.kind = 3 then r' else t :: r') ∧ ∀ x ∈ (if t.kind = 3 then r' else t :: r'), x ∈ t :: r' := by
      split
      · rename_i hk; exact ⟨he.tail (by omega), fun x hx => List.mem_cons_of_mem _ hx⟩
      · exact ⟨he, fun x hx => hx⟩
    obtain ⟨q, t, ht, hp⟩ := i1 _ _ (ae ho) h2.1
    exact ⟨q, t, h2.2 t ht, hp⟩
  | items_nil => intro e p ho; cases ho
  | items hs h1 h2 i1 i2 =>
    intro e p ho he
    obtain ⟨q, t, ht, hp⟩ := i2 _ _ (pe ho) (h1.res he _ _ rfl).1
    exact ⟨q, t, ps_sub h1 _ _ rfl t ht, hp⟩
  | items_err hs h1 i1 => intro e p ho he; exact i1 _ _ ho he
  | word => intro e p ho; cases ho
  | @deep d t r => intro e p ho he; cases ho; exact ⟨by decide, t, by simp, rfl⟩
  | group_err hs hd h1 i1 =>
    intro e p ho he
    obtain ⟨q, t, ht, hp⟩ := i1 _ _ ho (he.tail (by rw [sgn_kind hs]; decide))
    exact ⟨q, t, List.mem_cons_of_mem _ ht, hp⟩
  | @close d t r ks u r2 hs hd h1 hc i1 =>
    intro e p ho he; cases ho
    exact ⟨by decide, u, List.mem_cons_of_mem _ (ps_sub h1 _ _ rfl u (by simp)), rfl⟩
  | group => intro e p ho; cases ho
theorem pd_err {l : List Tok} {o : Out} (h : Pd l o) : ∀ e p, o = .err e p → Ends l → e ≠ 0 ∧ ∃ t ∈ l, p = t.pos := by
  intro e p ho he
  cases h with
  | @bad t r => cases ho; exact ⟨by decide, t, by simp, rfl⟩
  | @noeq t u r => cases ho; exact ⟨by decide, u, by simp, rfl⟩
  | alts_err h1 h2 h3 =>
    obtain ⟨q, t, ht, hp⟩ := ps_err h3 _ _ ho ((he.tail (by omega)).tail (by rw [sgn_kind h2]; decide))
    exact ⟨q, t, by simp [ht], hp⟩
  | @nosemi t u r ks x r2 h1 h2 h3 =>
    cases ho
    exact ⟨by decide, x, List.mem_cons_of_mem _ (List.mem_cons_of_mem _ (ps_sub h3 _ _ rfl x (by simp))), rfl⟩
  | ok => cases ho
theorem pds_err {b : Bool} {l : List Tok} {o : Out} (h : Pds b l o) : AllOK l → ∀ e p, o = .err e p → Ends l → e ≠ 0 ∧ ∃ t ∈ l, p = t.pos := by
  induction h with
  | nil => intro _ e p ho; cases ho
  | err h1 h2 => intro _ e p ho he; exact pd_err h2 _ _ ho he
  | @one b t r a r1 o h1 h2 h3 ih =>
    intro ha e p ho he
    have ho : o = .err e p := by
      cases o with
      | ok n l => simp [Out.pres] at ho
      | err e p => exact ho
    obtain ⟨h4, h5⟩ := pd_ok2 h2 ha _ _ rfl
    obtain ⟨q, t, ht, hp⟩ := ih (ok_sub ha h5) _ _ ho (h2.res he _ _ rfl).1
    exact ⟨q, t, h5 t ht, hp⟩
theorem ParseT.bad {s : ByteArray} (hs : s.size ≤ 65536) {e : Int} {p : Nat} (h : ParseT s (.err e p)) : e ≠ 0 ∧ p ≤ s.size := by
  rcases h with ⟨_, ⟨ts, hl, hp⟩ | ⟨ts, er, a, he, hl, ho⟩⟩ | ⟨h, _⟩
  · obtain ⟨h1, t, ht, rfl⟩ := pds_err hp (lex_ok hl) _ _ rfl (LexL.ends hl rfl)
    obtain ⟨j, hj, rfl⟩ := List.mem_iff_getElem.1 ht
    have := hl.pos_le hj
    rw [size_len] at this
    exact ⟨h1, this⟩
  · cases ho
    have := hl.at_le
    rw [size_len] at this
    exact ⟨he, this⟩
  · omega
theorem name_ok {x : List UInt8} (h : Key.OK ⟨1, x, 0⟩) : nameB (bOf x) = true ∧ x.length ≤ 24 := by
  cases h with
  | @name c r h1 h2 h3 =>
    have hz : (bOf (c :: r)).size = r.length + 1 := by
      show ((c :: r).toArray).size = _
      rw [List.size_toArray]; rfl
    refine ⟨?_, by simp only [List.length_cons]; omega⟩
    have e3 : decide (1 ≤ (bOf (c :: r)).size) = true := by rw [hz]; simp
    have e4 : decide ((bOf (c :: r)).size ≤ 24) = true := by rw [hz]; simp; omega
    have e1 : allB innerB (bOf (c :: r)) (bOf (c :: r)).size = true := by
      rw [hz]
      show ((c :: r).take (r.length + 1)).all _ = true
      rw [List.take_of_length_le (by simp), List.all_cons, List.all_eq_true.2 (fun d hd => h2 d hd)]
      have : letterB (c.toNat : Int) = true := h1
      have hi : innerB (c.toNat : Int) = true := by
        unfold innerB letterB
        unfold letterB at this
        simp only [Bool.or_eq_true, Bool.and_eq_true, decide_eq_true_eq] at this ⊢
        omega
      rw [hi]; rfl
    have e2 : letterB (((bOf (c :: r))[0]'(by omega)).toNat : Int) = true := h1
    rw [nameB_eq, headB_pos (by omega), e1, e2, e3, e4]
    rfl
structure DefB (n m : PN) (k : Nat) : Prop where
  ex : ∃ t ks t2 ks2, n = defN t ks ∧ m = defN t2 ks2 ∧ t2.text = t.text ∧ PN.nfL true ks2 = PN.nfL true ks ∧ nameB (bOf t.text) = true ∧ t.text.length ≤ 24 ∧ PN.FormL true ks ∧ PN.FormL true ks2 ∧ PN.OpsL ks ∧ (PN.wrL true 0 ks).length ≤ k
theorem back_parse {s : ByteArray} (hs : s.size ≤ 600) {ns : List PN} {r : List Tok} (h : ParseT s (.ok ns r)) :
    ∃ ns2 r2, ParseT (bOf (ns.flatMap defTP)) (.ok ns2 r2) ∧ ns2.length = ns.length ∧ 0 < ns.length ∧ (ns.flatMap defTP).length ≤ 20000 ∧ ∀ k (h1 : k < ns.length) (h2 : k < ns2.length), DefB ns[k] ns2[k] 20000 := by
  obtain ⟨ts, hl, hp⟩ := h.ok_inv
  have hlen := hl.len
  rw [size_len] at hlen
  have hT := pds_len hp (lex_ok hl) _ _ rfl
  obtain ⟨l', rfl, hne, hok, ts2, q, l2, h1, h2, h3⟩ := back_all hl hp
  have hfl : (plainD l').flatMap defT = (l'.map fun x => defN x.1 x.2).flatMap defTP := by
    unfold plainD
    rw [List.flatMap_map, List.flatMap_map]
    rfl
  rw [hfl] at h1
  have hl2 : l2.length = l'.length := by have := congrArg List.length h3; simpa using this
  refine ⟨_, _, .inl ⟨?_, .inl ⟨_, h1, h2⟩⟩, by simp [hl2], ?_, by omega, fun k k1 k2 => ?_⟩
  · show (((l'.map fun x => defN x.1 x.2).flatMap defTP).toArray).size ≤ 65536
    rw [List.size_toArray]; omega
  · rw [List.length_map]; exact List.length_pos_iff.2 hne
  · have hm := flat_mem (List.getElem_mem k1)
    simp only [List.length_map] at k1 k2
    rw [List.getElem_map] at hm
    rw [List.getElem_map, List.getElem_map]
    have he := List.getElem_of_eq h3 (i := k) (by simpa using k2)
    simp only [List.getElem_map, Prod.mk.injEq] at he
    have hd := hok _ (List.getElem_mem k1)
    obtain ⟨h5, h6⟩ := name_ok hd.nm
    have hf2 : PN.FormL true l2[k].2 := by
      obtain ⟨t, ks, h7, h8⟩ := pds_forms h2 _ _ rfl _ (List.mem_map_of_mem (List.getElem_mem k2))
      unfold defN at h7
      simp only [PN.node.injEq] at h7
      rw [h7.2.2]; exact h8
    refine ⟨⟨_, _, _, _, rfl, rfl, he.1, he.2, h5, h6, hd.f, hf2, hd.o, ?_⟩⟩
    rw [defTP_eq] at hm
    unfold defT at hm
    simp only [List.length_append] at hm
    omega
end Go.Proofs.Yticdihfjnmjkmaa
