/- Definitions behind one another. -/
import Derived.Test.YticdihfjnmjkmaaRd6
import Derived.Test.YticdihfjnmjkmaaJoinsP
import Derived.Test.YticdihfjnmjkmaaBlanksP
namespace Go.Proofs.Yticdihfjnmjkmaa
open Go.RowKit
theorem sgn_none {E : Tok} (hE : E.kind = 0) (S : List UInt8) : sgnB E S = false := by
  unfold sgnB; simp [hE]
theorem start_end {E : Tok} (hE : E.kind = 0) : startB E = false := by
  unfold startB; simp [hE, sgn_none hE]
theorem cons_end {t : Tok} {r m : List Tok} {E : Tok} (h : t :: r = m ++ [E]) (hne : t ≠ E) : ∃ m1, m = t :: m1 ∧ r = m1 ++ [E] := by
  cases m with
  | nil => simp at h; exact absurd h.1 hne
  | cons a m => simp at h; exact ⟨m, by rw [h.1], h.2⟩
theorem cons_nil_end {t : Tok} {r : List Tok} {E : Tok} (h : t :: r = [] ++ [E]) : t = E ∧ r = [] := by simpa using h
theorem more_end {d : Nat} {E : Tok} (hE : E.kind = 0) {o : Out} (h : Ps .more d [E] o) : o = .ok [] [E] := by
  cases h with
  | more_nil => rfl
  | more h => rw [sgn_none hE] at h; cases h
  | more_err h => rw [sgn_none hE] at h; cases h
theorem items_end {d : Nat} {E : Tok} (hE : E.kind = 0) {o : Out} (h : Ps .items d [E] o) : o = .ok [] [E] := by
  cases h with
  | items_nil => rfl
  | items h => rw [start_end hE] at h; cases h
  | items_err h => rw [start_end hE] at h; cases h
theorem opP_stable {m : List Tok} {E : Tok} (hE : E.kind = 0) : ∃ m', (opP (m ++ [E])).2 = m' ++ [E] ∧ (m' ≠ [] → ∀ us, opP (m ++ us) = ((opP (m ++ [E])).1, m' ++ us)) := by
  cases m with
  | nil =>
    refine ⟨[], ?_, fun h => absurd rfl h⟩
    rw [List.nil_append, opP_cons, sgn_none hE, sgn_none hE, sgn_none hE]; simp
  | cons t m =>
    have e : ∀ l, opP (t :: l) = if sgnB t [63] = true then (63, l) else if sgnB t [42] = true then (42, l) else if sgnB t [43] = true then (43, l) else (0, t :: l) := fun l => opP_cons t l
    simp only [List.cons_append, e]
    by_cases h1 : sgnB t [63] = true
    · simp only [if_pos h1]; exact ⟨m, rfl, fun _ _ => rfl⟩
    by_cases h2 : sgnB t [42] = true
    · simp only [if_neg h1, if_pos h2]; exact ⟨m, rfl, fun _ _ => rfl⟩
    by_cases h3 : sgnB t [43] = true
    · simp only [if_neg h1, if_neg h2, if_pos h3]; exact ⟨m, rfl, fun _ _ => rfl⟩
    · simp only [if_neg h1, if_neg h2, if_neg h3]; exact ⟨t :: m, rfl, fun _ _ => rfl⟩
/-- What is read ahead of the end is read so whatever stands behind it. -/
def Stable (ph : Ph) (d : Nat) (l : List Tok) (o : Out) : Prop :=
  ∀ m E, l = m ++ [E] → E.kind = 0 → (∀ e p, o = .err e p → p ≠ E.pos → ∀ us, Ps ph d (m ++ us) (.err e p)) ∧ (∀ ns r, o = .ok ns r → ∃ m', r = m' ++ [E] ∧ (m' ≠ [] → ∀ us, Ps ph d (m ++ us) (.ok ns (m' ++ us))))
theorem pres_err {o : Out} {a : List PN} {e : Int} {p : Nat} (h : o.pres a = .err e p) : o = .err e p := by
  cases o with
  | ok n l => simp [Out.pres] at h
  | err e' p' => simpa [Out.pres] using h
theorem alt_err {o : Out} {t : Tok} {e : Int} {p : Nat} (h : o.alt t = .err e p) : o = .err e p := by
  cases o with
  | ok n l => simp [Out.alt] at h
  | err e' p' => simpa [Out.alt] using h
theorem ps_stable {ph : Ph} {d : Nat} {l : List Tok} {o : Out} (h : Ps ph d l o) : Stable ph d l o := by
  induction h with
  | @alts d l a l1 o h1 h2 i1 i2 =>
    intro m E hl hE
    obtain ⟨m1, rfl, hs⟩ := (i1 m E hl hE).2 _ _ rfl
    by_cases hm : m1 = []
    · subst hm
      obtain rfl := more_end hE h2
      exact ⟨fun e p h => (by simp [Out.pres] at h), fun ns r h => (by simp [Out.pres] at h; exact ⟨[], h.2.symm, fun h => absurd rfl h⟩)⟩
    · obtain ⟨j1, j2⟩ := i2 m1 E rfl hE
      refine ⟨fun e p h hp us => ?_, fun ns r h => ?_⟩
      · have := Ps.alts (hs hm us) (j1 e p (pres_err h) hp us)
        exact this
      · obtain ⟨ns', rfl, rfl⟩ := pres_ok h
        obtain ⟨m', rfl, hq⟩ := j2 _ _ rfl
        exact ⟨m', rfl, fun hm' us => Ps.alts (hs hm us) (hq hm' us)⟩
  | alts_err h1 i1 =>
    intro m E hl hE
    refine ⟨fun e p h hp us => ?_, fun ns r h => by cases h⟩
    cases h
    exact .alts_err ((i1 m E hl hE).1 _ _ rfl hp us)
  | @more_nil d t r hs =>
    intro m E hl hE
    refine ⟨(fun e p h => by cases h), fun ns r' h => ?_⟩
    cases h
    refine ⟨m, hl, fun hm us => ?_⟩
    cases m with
    | nil => exact absurd rfl hm
    | cons a m => simp at hl; obtain ⟨rfl, _⟩ := hl; exact .more_nil hs
  | @more d t r a l1 o hs h1 h2 i1 i2 =>
    intro m E hl hE
    obtain ⟨m0, rfl, rfl⟩ := cons_end hl (by rintro rfl; rw [sgn_none hE] at hs; cases hs)
    obtain ⟨m1, rfl, hq1⟩ := (i1 m0 E rfl hE).2 _ _ rfl
    by_cases hm : m1 = []
    · subst hm
      obtain rfl := more_end hE h2
      exact ⟨fun e p h => (by simp [Out.pres] at h), fun ns r h => (by simp [Out.pres] at h; exact ⟨[], h.2.symm, fun h => absurd rfl h⟩)⟩
    · obtain ⟨j1, j2⟩ := i2 m1 E rfl hE
      refine ⟨fun e p h hp us => ?_, fun ns r h => ?_⟩
      · exact Ps.more hs (hq1 hm us) (j1 e p (pres_err h) hp us)
      · obtain ⟨ns', rfl, rfl⟩ := pres_ok h
        obtain ⟨m', rfl, hq⟩ := j2 _ _ rfl
        exact ⟨m', rfl, fun hm' us => Ps.more hs (hq1 hm us) (hq hm' us)⟩
  | @more_err d t r e p hs h1 i1 =>
    intro m E hl hE
    obtain ⟨m0, rfl, rfl⟩ := cons_end hl (by rintro rfl; rw [sgn_none hE] at hs; cases hs)
    refine ⟨fun e p h hp us => ?_, fun ns r h => by cases h⟩
    cases h
    exact .more_err hs ((i1 m0 E rfl hE).1 _ _ rfl hp us)
  | @alt d t r o h1 i1 =>
    intro m E hl hE
    by_cases hk : t.kind = 3
    · obtain ⟨m0, rfl, rfl⟩ := cons_end hl (by rintro rfl; omega)
      rw [if_pos hk] at i1
      obtain ⟨j1, j2⟩ := i1 m0 E rfl hE
      refine ⟨fun e p h hp us => ?_, fun ns r h => ?_⟩
      · have := j1 e p (alt_err h) hp us
        exact Ps.alt (t := t) (r := m0 ++ us) (o := .err e p) (by rw [if_pos hk]; exact this)
      · obtain ⟨ns', rfl, rfl⟩ := alt_ok h
        obtain ⟨m', rfl, hq⟩ := j2 _ _ rfl
        exact ⟨m', rfl, fun hm' us => Ps.alt (t := t) (r := m0 ++ us) (o := .ok ns' (m' ++ us)) (by rw [if_pos hk]; exact hq hm' us)⟩
    · rw [if_neg hk] at i1 h1
      cases m with
      | nil =>
        obtain ⟨rfl, rfl⟩ := cons_nil_end hl
        obtain rfl := items_end hE h1
        exact ⟨fun e p h => (by simp [Out.alt] at h), fun ns r h => (by simp [Out.alt] at h; exact ⟨[], h.2.symm, fun h => absurd rfl h⟩)⟩
      | cons a m0 =>
        obtain ⟨j1, j2⟩ := i1 (a :: m0) E hl hE
        simp at hl
        obtain ⟨rfl, rfl⟩ := hl
        refine ⟨fun e p h hp us => ?_, fun ns r h => ?_⟩
        · have := j1 e p (alt_err h) hp us
          exact Ps.alt (t := t) (r := m0 ++ us) (o := .err e p) (by rw [if_neg hk]; exact this)
        · obtain ⟨ns', rfl, rfl⟩ := alt_ok h
          obtain ⟨m', rfl, hq⟩ := j2 _ _ rfl
          exact ⟨m', rfl, fun hm' us => Ps.alt (t := t) (r := m0 ++ us) (o := .ok ns' (m' ++ us)) (by rw [if_neg hk]; exact hq hm' us)⟩
  | @items_nil d t r hs =>
    intro m E hl hE
    refine ⟨(fun e p h => by cases h), fun ns r' h => ?_⟩
    cases h
    refine ⟨m, hl, fun hm us => ?_⟩
    cases m with
    | nil => exact absurd rfl hm
    | cons a m => simp at hl; obtain ⟨rfl, _⟩ := hl; exact .items_nil hs
  | @items d t r a l1 o hs h1 h2 i1 i2 =>
    intro m E hl hE
    obtain ⟨m1, rfl, hq1⟩ := (i1 m E hl hE).2 _ _ rfl
    obtain ⟨m0, rfl, rfl⟩ := cons_end hl (by rintro rfl; rw [start_end hE] at hs; cases hs)
    by_cases hm : m1 = []
    · subst hm
      obtain rfl := items_end hE h2
      exact ⟨fun e p h => (by simp [Out.pres] at h), fun ns r h => (by simp [Out.pres] at h; exact ⟨[], h.2.symm, fun h => absurd rfl h⟩)⟩
    · obtain ⟨j1, j2⟩ := i2 m1 E rfl hE
      refine ⟨fun e p h hp us => ?_, fun ns r h => ?_⟩
      · exact Ps.items hs (hq1 hm us) (j1 e p (pres_err h) hp us)
      · obtain ⟨ns', rfl, rfl⟩ := pres_ok h
        obtain ⟨m', rfl, hq⟩ := j2 _ _ rfl
        exact ⟨m', rfl, fun hm' us => Ps.items hs (hq1 hm us) (hq hm' us)⟩
  | @items_err d t r e p hs h1 i1 =>
    intro m E hl hE
    have j1 := (i1 m E hl hE).1
    obtain ⟨m0, rfl, rfl⟩ := cons_end hl (by rintro rfl; rw [start_end hE] at hs; cases hs)
    refine ⟨fun e p h hp us => ?_, fun ns r h => by cases h⟩
    cases h
    exact .items_err hs (j1 _ _ rfl hp us)
  | @word d t r hk =>
    intro m E hl hE
    obtain ⟨m0, rfl, rfl⟩ := cons_end hl (by rintro rfl; omega)
    refine ⟨(fun e p h => by cases h), fun ns r h => ?_⟩
    cases h
    obtain ⟨m', h1, h2⟩ := opP_stable (m := m0) hE
    refine ⟨m', h1, fun hm us => ?_⟩
    have := Ps.word (d := d) (t := t) (r := m0 ++ us) hk
    rw [h2 hm us] at this
    exact this
  | @deep d t r hg hd =>
    intro m E hl hE
    obtain ⟨m0, rfl, rfl⟩ := cons_end hl (by rintro rfl; rw [sgn_none hE] at hg; cases hg)
    refine ⟨fun e p h hp us => ?_, fun ns r h => by cases h⟩
    cases h
    exact .deep hg hd
  | @group_err d t r e p hg hd h1 i1 =>
    intro m E hl hE
    obtain ⟨m0, rfl, rfl⟩ := cons_end hl (by rintro rfl; rw [sgn_none hE] at hg; cases hg)
    refine ⟨fun e p h hp us => ?_, fun ns r h => by cases h⟩
    cases h
    exact .group_err hg hd ((i1 m0 E rfl hE).1 _ _ rfl hp us)
  | @close d t r ks u r' hg hd h1 hc i1 =>
    intro m E hl hE
    obtain ⟨m0, rfl, rfl⟩ := cons_end hl (by rintro rfl; rw [sgn_none hE] at hg; cases hg)
    refine ⟨fun e p h hp us => ?_, fun ns r h => by cases h⟩
    cases h
    obtain ⟨m2, h2, h3⟩ := (i1 m0 E rfl hE).2 _ _ rfl
    obtain ⟨m3, rfl, rfl⟩ := cons_end h2 (by rintro rfl; exact hp rfl)
    exact .close hg hd (h3 (by simp) us) hc
  | @group d t r ks u r' hg hd h1 hc i1 =>
    intro m E hl hE
    obtain ⟨m0, rfl, rfl⟩ := cons_end hl (by rintro rfl; rw [sgn_none hE] at hg; cases hg)
    refine ⟨(fun e p h => by cases h), fun ns r h => ?_⟩
    cases h
    obtain ⟨m2, h2, h3⟩ := (i1 m0 E rfl hE).2 _ _ rfl
    obtain ⟨m3, rfl, rfl⟩ := cons_end h2 (by rintro rfl; rw [sgn_none hE] at hc; cases hc)
    obtain ⟨m', h4, h5⟩ := opP_stable (m := m3) hE
    refine ⟨m', h4, fun hm us => ?_⟩
    have := Ps.group (r' := m3 ++ us) hg hd (h3 (by simp) us) hc
    rw [h5 hm us] at this
    exact this
end Go.Proofs.Yticdihfjnmjkmaa
namespace Go.Proofs.Yticdihfjnmjkmaa
open Go.RowKit
theorem Ps.suffix {ph : Ph} {d : Nat} {l : List Tok} {o : Out} (h : Ps ph d l o) : ∀ ns r, o = .ok ns r → r <:+ l := by
  have hop : ∀ l, (opP l).2 <:+ l := fun l => by
    cases l with
    | nil => exact List.suffix_refl _
    | cons t r =>
      rw [opP_cons]
      split
      · exact List.suffix_cons _ _
      split
      · exact List.suffix_cons _ _
      split
      · exact List.suffix_cons _ _
      · exact List.suffix_refl _
  induction h with
  | alts h1 h2 i1 i2 => intro ns r h; obtain ⟨ns', rfl, rfl⟩ := pres_ok h; exact (i2 _ _ rfl).trans (i1 _ _ rfl)
  | alts_err => intro ns r h; cases h
  | more_nil => intro ns r h; cases h; exact List.suffix_refl _
  | more hs h1 h2 i1 i2 => intro ns r h; obtain ⟨ns', rfl, rfl⟩ := pres_ok h; exact ((i2 _ _ rfl).trans (i1 _ _ rfl)).trans (List.suffix_cons _ _)
  | more_err => intro ns r h; cases h
  | @alt d t r' o h1 i1 =>
    intro ns r h
    obtain ⟨ns', rfl, rfl⟩ := alt_ok h
    have := i1 _ _ rfl
    split at this
    · exact this.trans (List.suffix_cons _ _)
    · exact this
  | items_nil => intro ns r h; cases h; exact List.suffix_refl _
  | items hs h1 h2 i1 i2 => intro ns r h; obtain ⟨ns', rfl, rfl⟩ := pres_ok h; exact (i2 _ _ rfl).trans (i1 _ _ rfl)
  | items_err => intro ns r h; cases h
  | word => intro ns r h; cases h; exact (hop _).trans (List.suffix_cons _ _)
  | deep => intro ns r h; cases h
  | group_err => intro ns r h; cases h
  | close => intro ns r h; cases h
  | group hg hd h1 hc i1 => intro ns r h; cases h; exact (((hop _).trans (List.suffix_cons _ _)).trans (i1 _ _ rfl)).trans (List.suffix_cons _ _)
theorem Pd.suffix {l : List Tok} {ns : List PN} {r : List Tok} (h : Pd l (.ok ns r)) : r <:+ l := by
  cases h with
  | ok hk hu ha hx => exact (((List.suffix_cons _ _).trans (ha.suffix _ _ rfl)).trans (List.suffix_cons _ _)).trans (List.suffix_cons _ _)
theorem Pd.form {l : List Tok} {ns : List PN} {r : List Tok} (h : Pd l (.ok ns r)) : ∃ t ks, ns = [defN t ks] ∧ t.kind = 1 ∧ t ∈ l := by
  cases h with
  | ok hk => exact ⟨_, _, rfl, hk, List.mem_cons_self⟩
theorem pd_stable {m : List Tok} {E : Tok} (hE : E.kind = 0) {o : Out} (h : Pd (m ++ [E]) o) :
    (∀ e p, o = .err e p → p ≠ E.pos → m ≠ [] ∧ ∀ us, Pd (m ++ us) (.err e p)) ∧ (∀ ns r, o = .ok ns r → m ≠ [] ∧ ∃ m', r = m' ++ [E] ∧ ∀ us, Pd (m ++ us) (.ok ns (m' ++ us))) := by
  generalize hl : m ++ [E] = l at h
  cases h with
  | @bad t r hk =>
    refine ⟨fun e p h hp => ?_, fun ns r h => by cases h⟩
    cases h
    obtain ⟨m1, rfl, rfl⟩ := cons_end hl.symm (by rintro rfl; exact hp rfl)
    exact ⟨by simp, fun us => .bad hk⟩
  | @noeq t u r hk hu =>
    refine ⟨fun e p h hp => ?_, fun ns r h => by cases h⟩
    cases h
    obtain ⟨m1, rfl, h1⟩ := cons_end hl.symm (by rintro rfl; omega)
    obtain ⟨m2, rfl, rfl⟩ := cons_end h1 (by rintro rfl; exact hp rfl)
    exact ⟨by simp, fun us => .noeq hk hu⟩
  | @alts_err t u r e p hk hu ha =>
    refine ⟨fun e p h hp => ?_, fun ns r h => by cases h⟩
    cases h
    obtain ⟨m1, rfl, h1⟩ := cons_end hl.symm (by rintro rfl; omega)
    obtain ⟨m2, rfl, rfl⟩ := cons_end h1 (by rintro rfl; rw [sgn_none hE] at hu; cases hu)
    exact ⟨by simp, fun us => .alts_err hk hu ((ps_stable ha m2 E rfl hE).1 _ _ rfl hp us)⟩
  | @nosemi t u r ks x r2 hk hu ha hx =>
    refine ⟨fun e p h hp => ?_, fun ns r h => by cases h⟩
    cases h
    obtain ⟨m1, rfl, h1⟩ := cons_end hl.symm (by rintro rfl; omega)
    obtain ⟨m2, rfl, rfl⟩ := cons_end h1 (by rintro rfl; rw [sgn_none hE] at hu; cases hu)
    obtain ⟨m3, h3, h4⟩ := (ps_stable ha m2 E rfl hE).2 _ _ rfl
    obtain ⟨m4, rfl, rfl⟩ := cons_end h3 (by rintro rfl; exact hp rfl)
    exact ⟨by simp, fun us => .nosemi (r2 := m4 ++ us) hk hu (h4 (by simp) us) hx⟩
  | @ok t u r ks x r2 hk hu ha hx =>
    refine ⟨(fun e p h => by cases h), fun ns r h => ?_⟩
    cases h
    obtain ⟨m1, rfl, h1⟩ := cons_end hl.symm (by rintro rfl; omega)
    obtain ⟨m2, rfl, rfl⟩ := cons_end h1 (by rintro rfl; rw [sgn_none hE] at hu; cases hu)
    obtain ⟨m3, h3, h4⟩ := (ps_stable ha m2 E rfl hE).2 _ _ rfl
    obtain ⟨m4, rfl, rfl⟩ := cons_end h3 (by rintro rfl; rw [sgn_none hE] at hx; cases hx)
    exact ⟨by simp, m4, rfl, fun us => .ok (r2 := m4 ++ us) hk hu (h4 (by simp) us) hx⟩
theorem pds_stable {E : Tok} (hE : E.kind = 0) {b : Bool} {l : List Tok} {o : Out} (h : Pds b l o) : ∀ m, l = m ++ [E] → (∀ t ∈ m, t.kind ≠ 0) →
    (∀ e p, o = .err e p → p ≠ E.pos → ∀ us, Pds b (m ++ us) (.err e p)) ∧
    (∀ ns r, o = .ok ns r → r = [E] ∧ (b = true → ns ≠ []) ∧ ∀ us o', Pds (if ns = [] then b else false) us o' → Pds b (m ++ us) (o'.pres ns)) := by
  induction h with
  | @nil t r hk =>
    intro m hl hm
    refine ⟨(fun e p h => by cases h), fun ns r' h => ?_⟩
    cases h
    cases m with
    | nil =>
      obtain ⟨rfl, rfl⟩ := cons_nil_end hl
      exact ⟨rfl, (fun h => by cases h), fun us o' h => by rw [Out.pres_nil]; simpa using h⟩
    | cons a m => simp at hl; obtain ⟨rfl, _⟩ := hl; exact absurd hk (hm _ List.mem_cons_self)
  | @err b t r e p hc hd =>
    intro m hl hm
    refine ⟨fun e p h hp us => ?_, fun ns r' h => by cases h⟩
    cases h
    rw [hl] at hd
    obtain ⟨h1, h2⟩ := (pd_stable hE hd).1 _ _ rfl hp
    cases m with
    | nil => exact absurd rfl h1
    | cons a m => simp at hl; obtain ⟨rfl, _⟩ := hl; exact .err (r := m ++ us) hc (h2 us)
  | @one b t r a r1 o hc hd hs ih =>
    intro m hl hm
    rw [hl] at hd
    obtain ⟨h1, m1, rfl, h2⟩ := (pd_stable hE hd).2 _ _ rfl
    obtain ⟨t0, ks, rfl, _, _⟩ := hd.form
    have hsub : ∀ x ∈ m1, x.kind ≠ 0 := fun x hx => hm x (by
      have := hd.suffix
      have h3 : m1 <:+ m := by
        obtain ⟨q, hq⟩ := this
        rw [← List.append_assoc] at hq
        exact ⟨q, List.append_cancel_right hq⟩
      exact h3.subset hx)
    obtain ⟨i1, i2⟩ := ih m1 rfl hsub
    cases m with
    | nil => exact absurd rfl h1
    | cons c m =>
      simp at hl
      obtain ⟨rfl, _⟩ := hl
      refine ⟨fun e p h hp us => ?_, fun ns r' h => ?_⟩
      · exact Pds.one (r := m ++ us) hc (h2 us) (i1 e p (pres_err h) hp us)
      · obtain ⟨ns', rfl, rfl⟩ := pres_ok h
        obtain ⟨rfl, _, j3⟩ := i2 _ _ rfl
        refine ⟨rfl, fun _ => by simp, fun us o' ho => ?_⟩
        rw [if_neg (by simp)] at ho
        have := Pds.one (r := m ++ us) hc (h2 us) (j3 us o' (by simpa using ho))
        rw [Out.pres_pres] at this
        exact this
theorem Pds.form {b : Bool} {l : List Tok} {o : Out} (h : Pds b l o) : ∀ ns r, o = .ok ns r → ∀ n ∈ ns, ∃ t ks, n = defN t ks ∧ t.kind = 1 ∧ t ∈ l := by
  induction h with
  | nil => intro ns r h n hn; cases h; cases hn
  | err => intro ns r h; cases h
  | @one b t r a r1 o hc hd hs ih =>
    intro ns r' h n hn
    obtain ⟨ns', rfl, rfl⟩ := pres_ok h
    obtain ⟨t0, ks, rfl, h1, h2⟩ := hd.form
    rcases List.mem_append.1 hn with hn | hn
    · obtain rfl := List.mem_singleton.1 hn
      exact ⟨t0, ks, rfl, h1, h2⟩
    · obtain ⟨t1, ks1, h3, h4, h5⟩ := ih _ _ rfl n hn
      exact ⟨t1, ks1, h3, h4, hd.suffix.subset h5⟩
/-- A tree, moved. -/
def shV (k : Nat) : List Value → List Value
  | .int .i64 p :: r => .int .i64 (p + k) :: r
  | l => l
mutual
def PN.sh (k : Nat) : PN → PN | .node a b kids => .node (shV k a) b (PN.shL k kids)
def PN.shL (k : Nat) : List PN → List PN | [] => [] | n :: ns => n.sh k :: PN.shL k ns
end
theorem PN.shL_append (k : Nat) (a b : List PN) : PN.shL k (a ++ b) = PN.shL k a ++ PN.shL k b := by
  induction a with
  | nil => rfl
  | cons x a ih => simp [PN.shL, ih]
theorem PN.shL_length (k : Nat) (a : List PN) : (PN.shL k a).length = a.length := by
  induction a with
  | nil => rfl
  | cons x a ih => simp [PN.shL, ih]
def Out.sh (k : Nat) : Out → Out
  | .ok ns l => .ok (PN.shL k ns) (l.map (shiftT k))
  | .err e p => .err e (p + k)
theorem Out.sh_pres (k : Nat) (a : List PN) (o : Out) : (o.pres a).sh k = (o.sh k).pres (PN.shL k a) := by
  cases o with
  | ok ns l => simp [Out.pres, Out.sh, PN.shL_append]
  | err e p => rfl
theorem opP_sh (k : Nat) (l : List Tok) : opP (l.map (shiftT k)) = ((opP l).1, (opP l).2.map (shiftT k)) := by
  cases l with
  | nil => rfl
  | cons t r =>
    have e : ∀ S, sgnB (shiftT k t) S = sgnB t S := fun S => rfl
    rw [List.map_cons, opP_cons, opP_cons, e, e, e]
    split
    · rfl
    split
    · rfl
    split
    · rfl
    · rfl
theorem Out.sh_alt (k : Nat) (t : Tok) (o : Out) : (o.alt t).sh k = (o.sh k).alt (shiftT k t) := by
  cases o with
  | ok ns l =>
    simp [Out.alt, Out.sh, PN.shL, PN.sh, shV, shiftT]
    rfl
  | err e p => rfl
theorem ps_shift (k : Nat) {ph : Ph} {d : Nat} {l : List Tok} {o : Out} (h : Ps ph d l o) : Ps ph d (l.map (shiftT k)) (o.sh k) := by
  induction h with
  | alts h1 h2 i1 i2 => rw [Out.sh_pres]; exact .alts i1 i2
  | alts_err h1 i1 => exact .alts_err i1
  | more_nil h => exact .more_nil (t := shiftT k _) h
  | more hs h1 h2 i1 i2 => rw [Out.sh_pres]; exact .more (t := shiftT k _) hs i1 i2
  | more_err hs h1 i1 => exact .more_err (t := shiftT k _) hs i1
  | @alt d t r o h1 i1 =>
    rw [Out.sh_alt]
    refine .alt (t := shiftT k t) ?_
    have e : (shiftT k t).kind = t.kind := rfl
    rw [e]
    by_cases hk : t.kind = 3
    · rw [if_pos hk] at i1 ⊢; exact i1
    · rw [if_neg hk] at i1 ⊢; exact i1
  | items_nil h => exact .items_nil (t := shiftT k _) h
  | items hs h1 h2 i1 i2 => rw [Out.sh_pres]; exact .items (t := shiftT k _) hs i1 i2
  | items_err hs h1 i1 => exact .items_err (t := shiftT k _) hs i1
  | @word d t r hk =>
    have := Ps.word (d := d) (t := shiftT k t) (r := r.map (shiftT k)) hk
    rw [opP_sh] at this
    have e : PN.shL k [wordN t (opP r).1] = [wordN (shiftT k t) (opP r).1] := by simp [PN.shL, PN.sh, wordN, shV, shiftT]
    show Ps _ _ _ (.ok (PN.shL k [wordN t (opP r).1]) _)
    rw [e]
    exact this
  | deep hg hd => exact .deep (t := shiftT k _) hg hd
  | group_err hg hd h1 i1 => exact .group_err (t := shiftT k _) hg hd i1
  | close hg hd h1 hc i1 => exact .close (t := shiftT k _) (u := shiftT k _) hg hd i1 hc
  | @group d t r ks u r' hg hd h1 hc i1 =>
    have := Ps.group (t := shiftT k t) (u := shiftT k u) (r' := r'.map (shiftT k)) hg hd i1 hc
    rw [opP_sh] at this
    have e : PN.shL k [groupN t (opP r').1 ks] = [groupN (shiftT k t) (opP r').1 (PN.shL k ks)] := by simp [PN.shL, PN.sh, groupN, shV, shiftT]
    show Ps _ _ _ (.ok (PN.shL k [groupN t (opP r').1 ks]) _)
    rw [e]
    exact this
theorem pd_shift (k : Nat) {l : List Tok} {o : Out} (h : Pd l o) : Pd (l.map (shiftT k)) (o.sh k) := by
  cases h with
  | bad hk => exact .bad (t := shiftT k _) hk
  | noeq hk hu => exact .noeq (t := shiftT k _) (u := shiftT k _) hk hu
  | alts_err hk hu ha => exact .alts_err (t := shiftT k _) (u := shiftT k _) hk hu (ps_shift k ha)
  | nosemi hk hu ha hx => exact .nosemi (t := shiftT k _) (u := shiftT k _) (x := shiftT k _) hk hu (ps_shift k ha) hx
  | @ok t u r ks x r2 hk hu ha hx =>
    have := Pd.ok (t := shiftT k t) (u := shiftT k u) (x := shiftT k x) hk hu (ps_shift k ha) hx
    have e : PN.shL k [defN t ks] = [defN (shiftT k t) (PN.shL k ks)] := by simp [PN.shL, PN.sh, defN, shV, shiftT]
    show Pd _ (.ok (PN.shL k [defN t ks]) _)
    rw [e]
    exact this
theorem pds_shift (k : Nat) {b : Bool} {l : List Tok} {o : Out} (h : Pds b l o) : Pds b (l.map (shiftT k)) (o.sh k) := by
  induction h with
  | nil hk => exact .nil (t := shiftT k _) hk
  | err hc hd => exact .err (t := shiftT k _) hc (pd_shift k hd)
  | one hc hd hs ih => rw [Out.sh_pres]; exact .one (t := shiftT k _) hc (pd_shift k hd) ih
end Go.Proofs.Yticdihfjnmjkmaa
namespace Go.Proofs.Yticdihfjnmjkmaa
open Go.RowKit
/-- A definition's place, its name, how many alternatives. -/
structure DefV where
  at_ : Nat
  nm : ByteArray
  n : Nat
def PN.view : PN → DefV
  | .node [.int .i64 p, .string s] _ ks => ⟨p.toNat, s, ks.length⟩
  | .node _ _ ks => ⟨0, ⟨#[]⟩, ks.length⟩
theorem view_def (t : Tok) (ks : List PN) : (defN t ks).view = ⟨t.pos, bOf t.text, ks.length⟩ := by simp [defN, PN.view]
theorem view_sh (k : Nat) (t : Tok) (ks : List PN) : ((defN t ks).sh k).view = ⟨t.pos + k, bOf t.text, ks.length⟩ := by
  simp [defN, PN.sh, shV, PN.view, PN.shL_length]
  omega
def DefsAt (w : World) (B : Nat) (a : Option Addr) (ds : List DefV) : Prop :=
  ∀ i (h : i < ds.length), ∃ b off aa cc, a = some ⟨b, off, none⟩ ∧ b < B ∧ w.cell? ⟨b, off + i * 3, none⟩ = some (.int .i64 (ds[i]).at_) ∧ w.cell? ⟨b, off + i * 3 + 1, none⟩ = some (.string (ds[i]).nm) ∧ w.cell? ⟨b, off + i * 3 + 2, none⟩ = some (.slice aa (ds[i]).n cc)
theorem DefsAt.go {w w' : World} {B : Nat} {a : Option Addr} {ds : List DefV} (h : DefsAt w B a ds) (hb : Below B w w') {B' : Nat} (hB : B ≤ B') : DefsAt w' B' a ds := by
  intro i hi
  obtain ⟨b, off, aa, cc, ha, hlt, h1, h2, h3⟩ := h i hi
  exact ⟨b, off, aa, cc, ha, by omega, (below_cell hb hlt).trans h1, (below_cell hb hlt).trans h2, (below_cell hb hlt).trans h3⟩
theorem rowC_get : ∀ (ms : List MN), (∀ m ∈ ms, m.cells.length = 3) → ∀ i (h : i < ms.length) j, j < 3 → (rowC ms)[i * 3 + j]? = (ms[i]).cells[j]?
  | [], _, i, h, _, _ => by simp at h
  | m :: ms, hm, 0, _, j, hj => by
    have h0 := hm m List.mem_cons_self
    show (m.cells ++ rowC ms)[0 * 3 + j]? = _
    rw [Nat.zero_mul, Nat.zero_add, List.getElem?_append_left (by omega)]
    rfl
  | m :: ms, hm, i + 1, h, j, hj => by
    have h0 := hm m List.mem_cons_self
    show (m.cells ++ rowC ms)[(i + 1) * 3 + j]? = _
    rw [List.getElem?_append_right (by omega), show (i + 1) * 3 + j - m.cells.length = i * 3 + j by omega]
    exact rowC_get ms (fun x hx => hm x (List.mem_cons_of_mem _ hx)) i (by simpa using h) j hj
theorem rowC_len : ∀ (ms : List MN), (∀ m ∈ ms, m.cells.length = 3) → (rowC ms).length = ms.length * 3
  | [], _ => rfl
  | m :: ms, hm => by
    show (m.cells ++ rowC ms).length = _
    rw [List.length_append, hm m List.mem_cons_self, rowC_len ms (fun x hx => hm x (List.mem_cons_of_mem _ hx)), List.length_cons]
    omega
theorem defs_view {w : World} {lo : Nat} {v : Value} {ms : List MN} (h : RowG w lo 50 3 66 3 68 5 v ms) {ns : List PN} (hns : ms.map MN.pn = ns) (hf : ∀ n ∈ ns, ∃ t ks, n = defN t ks) :
    ∃ a c, v = .slice a ns.length c ∧ ns.length ≤ c ∧ DefsAt w w.heap.size a (ns.map PN.view) := by
  have hlen : ms.length = ns.length := by rw [← hns]; simp
  by_cases h0 : 0 < ms.length
  · obtain ⟨g, cap, rfl, _, hg, hc, hcell⟩ := row_cells h.row h0
    rw [hlen] at hc ⊢
    refine ⟨_, _, rfl, hc, fun i hi => ?_⟩
    rw [List.length_map] at hi
    have him : i < ms.length := by omega
    have hpn : (ms[i]).pn = ns[i] := by simp [← hns]
    obtain ⟨t, ks, hd⟩ := hf ns[i] (List.getElem_mem hi)
    rw [hd] at hpn
    obtain ⟨v', kids, hm, hk⟩ := pn_inv hpn
    have hl := h.lies ms[i] (List.getElem_mem him)
    rw [hm] at hl
    obtain ⟨a', c', hv⟩ := row_shape hl.1
    have hcs : ∀ j, j < 3 → w.cell? ⟨g, i * 3 + j, none⟩ = (ms[i]).cells[j]? := fun j hj => by
      rw [hcell _ (by rw [rowC_len ms h.sizes]; omega)]
      exact rowC_get ms h.sizes i him j hj
    rw [hm] at hcs
    have hvw : (ns.map PN.view)[i]'(by simpa using hi) = ⟨t.pos, bOf t.text, kids.length⟩ := by
      rw [List.getElem_map, hd, view_def, ← hk, List.length_map]
    refine ⟨g, 0, a', c', rfl, hg, ?_, ?_, ?_⟩
    · rw [hvw]; have := hcs 0 (by decide); simpa [MN.cells] using this
    · rw [hvw]; have := hcs 1 (by decide); simpa [MN.cells] using this
    · rw [hvw]; have := hcs 2 (by decide); simpa [MN.cells, hv] using this
  · have : ns = [] := List.length_eq_zero_iff.1 (by omega)
    subst this
    obtain ⟨a, c, rfl⟩ := row_shape h.row
    rw [hlen]
    exact ⟨a, c, rfl, Nat.zero_le _, fun i hi => by simp at hi⟩
theorem parse_view {s : ByteArray} {ns : List PN} {r : List Tok} (h : ParseT s (.ok ns r)) (w : World) : Calls Try.prog 20 #[.string s] w fun e w' =>
    ∃ a c, e = .returned (.tuple #[.slice a ns.length c, .agg #[.int .i64 0, .int .i64 0]]) ∧ ns.length ≤ c ∧ DefsAt w' w'.heap.size a (ns.map PN.view) ∧ Below w.heap.size w w' := by
  refine (parse_any h w).mono ?_
  rintro e w' ⟨a, c, ms, rfl, hns, hrow, hb⟩
  have hf : ∀ n ∈ ns, ∃ t ks, n = defN t ks := by
    rcases h with ⟨_, ⟨ts, _, hp⟩ | ⟨ts, er, a, _, _, ho⟩⟩ | ⟨_, ho⟩
    · intro n hn
      obtain ⟨t, ks, h1, _⟩ := hp.form _ _ rfl n hn
      exact ⟨t, ks, h1⟩
    · cases ho
    · cases ho
  obtain ⟨a', c', hv, hc, hd⟩ := defs_view hrow hns hf
  rw [hv]
  exact ⟨a', c', rfl, hc, hd, hb⟩
theorem parse_fault {s : ByteArray} {er : Int} {p : Nat} (h : ParseT s (.err er p)) (w : World) : Calls Try.prog 20 #[.string s] w fun e w' =>
    e = .returned (.tuple #[.slice none 0 0, .agg #[.int .i64 er, .int .i64 p]]) ∧ Below w.heap.size w w' := parse_any h w
theorem Ps.err56 {ph : Ph} {d : Nat} {l : List Tok} {o : Out} (h : Ps ph d l o) : ∀ e p, o = .err e p → e = 5 ∨ e = 6 := by
  induction h with
  | alts h1 h2 i1 i2 => intro e p h; exact i2 e p (pres_err h)
  | alts_err h1 i1 => intro e p h; cases h; exact i1 _ _ rfl
  | more_nil => intro e p h; cases h
  | more hs h1 h2 i1 i2 => intro e p h; exact i2 e p (pres_err h)
  | more_err hs h1 i1 => intro e p h; cases h; exact i1 _ _ rfl
  | alt h1 i1 => intro e p h; exact i1 e p (alt_err h)
  | items_nil => intro e p h; cases h
  | items hs h1 h2 i1 i2 => intro e p h; exact i2 e p (pres_err h)
  | items_err hs h1 i1 => intro e p h; cases h; exact i1 _ _ rfl
  | word => intro e p h; cases h
  | deep => intro e p h; cases h; exact .inr rfl
  | group_err hg hd h1 i1 => intro e p h; cases h; exact i1 _ _ rfl
  | close => intro e p h; cases h; exact .inl rfl
  | group => intro e p h; cases h
theorem Pd.err56 {l : List Tok} {e : Int} {p : Nat} (h : Pd l (.err e p)) : e = 5 ∨ e = 6 := by
  cases h with
  | bad => exact .inl rfl
  | noeq => exact .inl rfl
  | alts_err _ _ h => exact h.err56 _ _ rfl
  | nosemi => exact .inl rfl
theorem Pds.err56 {b : Bool} {l : List Tok} {o : Out} (h : Pds b l o) : ∀ e p, o = .err e p → e = 5 ∨ e = 6 := by
  induction h with
  | nil => intro e p h; cases h
  | err hc hd => intro e p h; cases h; exact hd.err56
  | one hc hd hs ih => intro e p h; exact ih e p (pres_err h)
theorem ParseT.ne0 {s : ByteArray} {e : Int} {p : Nat} (h : ParseT s (.err e p)) : e ≠ 0 := by
  rcases h with ⟨_, ⟨ts, _, hp⟩ | ⟨ts, er, a, he, _, ho⟩⟩ | ⟨_, ho⟩
  · rcases hp.err56 _ _ rfl with h | h <;> omega
  · cases ho; exact he
  · cases ho; decide
theorem LexL.inner {p : Nat} {l : List UInt8} {ts : List Tok} {e : Int} {a : Nat} (h : LexL p l ts e a) : e = 0 → ∀ t ∈ ts.dropLast, t.kind ≠ 0 := by
  induction h with
  | fin p => exact fun _ t ht => by simp at ht
  | err p l h1 h2 => exact fun h => absurd h h2
  | tok p l ts e a h1 h2 h3 ih =>
    intro he t ht
    rw [List.dropLast_cons_of_ne_nil (h3.pos he)] at ht
    rcases List.mem_cons.1 ht with rfl | ht
    · exact word_kind h2
    · exact ih he t ht
theorem ParseT.lex {s : ByteArray} {ts : List Tok} {er : Int} {a : Nat} (hs : s.size ≤ 65536) (he : er ≠ 0) (h : LexT s.data.toList ts er a) : ParseT s (.err er a) := .inl ⟨hs, .inr ⟨ts, er, a, he, h, rfl⟩⟩
theorem Pds.head1 {t : Tok} {r : List Tok} {o : Out} (h : Pds true (t :: r) o) : ∀ ns r', o = .ok ns r' → t.kind = 1 := by
  cases h with
  | err => intro ns r' h; cases h
  | one _ hd _ =>
    intro ns r' _
    cases hd with
    | ok hk => exact hk
/-- Of a first text that is wrong, but at its end. -/
theorem parts_bad {a b : ByteArray} (ha : a.size ≤ 600) {e : Int} {p : Nat} (h : ParseT a (.err e p)) (hp : p ≠ a.size) {z : ByteArray} (hz : z.data.toList = a.data.toList ++ 10 :: b.data.toList) (hzs : z.size ≤ 65536) :
    ∃ e' p', ParseT z (.err e' p') := by
  have hsz : a.data.toList.length = a.size := size_len a
  rcases h with ⟨_, ⟨tx, hX, hpx⟩ | ⟨ts, er, aa, he, hX, ho⟩⟩ | ⟨hs, _⟩
  · obtain ⟨ty, eg, ag, hY⟩ : ∃ ts er x, LexT b.data.toList ts er x := lex_total _ _ _ (Nat.le_refl _)
    obtain ⟨ts0, rfl, hZ⟩ := join_ok hX hY
    by_cases heg : eg = 0
    · subst heg
      have hk := LexL.inner hX rfl
      rw [List.dropLast_concat] at hk
      obtain ⟨h1, _⟩ := pds_stable (E := endTok a.data.toList.length) rfl hpx ts0 rfl hk
      refine ⟨e, p, .inl ⟨hzs, .inl ⟨_, ?_, h1 e p rfl (by show p ≠ a.data.toList.length; omega) (ty.map (shiftT (a.data.toList.length + 1)))⟩⟩⟩
      rw [hz]
      have := LexL.zero hY rfl
      subst this
      exact hZ
    · rw [if_neg heg] at hZ
      exact ⟨eg, _, .inl ⟨hzs, .inr ⟨_, eg, _, heg, by rw [hz]; exact hZ, rfl⟩⟩⟩
  · exact ⟨er, aa, .inl ⟨hzs, .inr ⟨_, er, aa, he, by rw [hz]; exact join_err hX he, rfl⟩⟩⟩
  · omega
theorem ParseT.ok_inv {s : ByteArray} {ns : List PN} {r : List Tok} (h : ParseT s (.ok ns r)) : ∃ ts, LexT s.data.toList ts 0 0 ∧ Pds true ts (.ok ns r) := by
  rcases h with ⟨_, ⟨tx, hX, hpx⟩ | ⟨ts, er, aa, he, hX, ho⟩⟩ | ⟨hs, ho⟩
  · exact ⟨tx, hX, hpx⟩
  · cases ho
  · cases ho
theorem Pds.weak {t : Tok} {r : List Tok} {o : Out} (h : Pds true (t :: r) o) (hk : t.kind ≠ 0) : Pds false (t :: r) o := by
  cases h with
  | err _ h => exact .err (.inr hk) h
  | one _ h h2 => exact .one (.inr hk) h h2
/-- Of a first text that is right, and a second one that is wrong. -/
theorem parts_half {a b : ByteArray} {nx : List PN} {rx : List Tok} (h : ParseT a (.ok nx rx)) {e : Int} {p : Nat} (h' : ParseT b (.err e p)) (hb : b.size ≤ 600) {z : ByteArray} (hz : z.data.toList = a.data.toList ++ 10 :: b.data.toList) (hzs : z.size ≤ 65536) :
    (∃ r, ParseT z (.ok nx r)) ∨ ∃ e' p', ParseT z (.err e' p') ∧ a.size < p' := by
  have hsz : a.data.toList.length = a.size := size_len a
  obtain ⟨tx, hX, hpx⟩ := h.ok_inv
  have hk0 := LexL.inner hX rfl
  rcases h' with ⟨_, ⟨ty, hY, hpy⟩ | ⟨ts, er, aa, he, hY, ho⟩⟩ | ⟨hs, _⟩
  · obtain ⟨ts0, rfl, hZ⟩ := join_ok hX hY
    rw [if_pos rfl] at hZ
    rw [List.dropLast_concat] at hk0
    obtain ⟨_, h2⟩ := pds_stable (E := endTok a.data.toList.length) rfl hpx ts0 rfl hk0
    obtain ⟨_, h3, h4⟩ := h2 _ _ rfl
    have hne := h3 rfl
    rw [if_neg hne] at h4
    have hsh := pds_shift (a.data.toList.length + 1) hpy
    obtain ⟨t, r, rfl⟩ := (LexL.ends hY rfl).ne
    by_cases hk : t.kind = 0
    · left
      have := h4 _ _ (.nil (t := shiftT (a.data.toList.length + 1) t) (r := r.map (shiftT (a.data.toList.length + 1))) hk)
      have e1 : Out.pres nx (.ok [] (shiftT (a.data.toList.length + 1) t :: r.map (shiftT (a.data.toList.length + 1)))) = .ok nx (shiftT (a.data.toList.length + 1) t :: r.map (shiftT (a.data.toList.length + 1))) := by simp [Out.pres]
      rw [e1] at this
      exact ⟨_, .inl ⟨hzs, .inl ⟨_, by rw [hz]; exact hZ, this⟩⟩⟩
    · right
      have := h4 _ _ (Pds.weak (t := shiftT (a.data.toList.length + 1) t) hsh hk)
      exact ⟨e, p + (a.data.toList.length + 1), .inl ⟨hzs, .inl ⟨_, by rw [hz]; exact hZ, this⟩⟩, by omega⟩
  · right
    cases ho
    obtain ⟨ts0, rfl, hZ⟩ := join_ok hX hY
    rw [if_neg he, ← hz] at hZ
    exact ⟨_, _, ParseT.lex hzs he hZ, by omega⟩
  · omega
/-- Of two texts that are right. -/
theorem parts_both {a b : ByteArray} {nx ny : List PN} {rx ry : List Tok} (h : ParseT a (.ok nx rx)) (h' : ParseT b (.ok ny ry)) {z : ByteArray} (hz : z.data.toList = a.data.toList ++ 10 :: b.data.toList) (hzs : z.size ≤ 65536) :
    ∃ r, ParseT z (.ok (nx ++ PN.shL (a.size + 1) ny) r) ∧ nx ≠ [] := by
  have hsz : a.data.toList.length = a.size := size_len a
  obtain ⟨tx, hX, hpx⟩ := h.ok_inv
  have hk0 := LexL.inner hX rfl
  obtain ⟨ty, hY, hpy⟩ := h'.ok_inv
  obtain ⟨ts0, rfl, hZ⟩ := join_ok hX hY
  rw [if_pos rfl] at hZ
  rw [List.dropLast_concat] at hk0
  obtain ⟨_, h2⟩ := pds_stable (E := endTok a.data.toList.length) rfl hpx ts0 rfl hk0
  obtain ⟨_, h3, h4⟩ := h2 _ _ rfl
  have hne := h3 rfl
  rw [if_neg hne] at h4
  have hsh := pds_shift (a.data.toList.length + 1) hpy
  obtain ⟨t, r, rfl⟩ := (LexL.ends hY rfl).ne
  have hk : t.kind ≠ 0 := by
    have := hpy.head1 _ _ rfl
    omega
  have := h4 _ _ (Pds.weak (t := shiftT (a.data.toList.length + 1) t) hsh hk)
  rw [hsz] at this hZ
  exact ⟨_, .inl ⟨hzs, .inl ⟨_, by rw [hz]; exact hZ, this⟩⟩, hne⟩
theorem Pds.len {b : Bool} {l : List Tok} {o : Out} (h : Pds b l o) : Ends l → ∀ ns r, o = .ok ns r → ns.length + r.length ≤ l.length := by
  induction h with
  | nil => intro _ ns r h; cases h; simp
  | err => intro _ ns r h; cases h
  | @one b t r a r1 o hc hd hs ih =>
    intro he ns r' h
    obtain ⟨ns', rfl, rfl⟩ := pres_ok h
    obtain ⟨h1, h2⟩ := hd.res he _ _ rfl
    obtain ⟨t0, ks, rfl, _, _⟩ := hd.form
    have := ih h1 _ _ rfl
    simp only [List.length_append, List.length_cons, List.length_nil] at h2 ⊢
    omega
theorem ParseT.few {s : ByteArray} {ns : List PN} {r : List Tok} (h : ParseT s (.ok ns r)) : ns.length ≤ s.size + 1 ∧ ∀ i (hi : i < (ns.map PN.view).length), ((ns.map PN.view)[i]).at_ ≤ s.size := by
  obtain ⟨ts, hX, hp⟩ := h.ok_inv
  have hsz : s.data.toList.length = s.size := size_len s
  have h1 := hp.len (LexL.ends hX rfl) _ _ rfl
  have h2 := hX.len
  refine ⟨by omega, fun i hi => ?_⟩
  rw [List.length_map] at hi
  obtain ⟨t, ks, hd, _, ht⟩ := hp.form _ _ rfl ns[i] (List.getElem_mem hi)
  rw [List.getElem_map, hd, view_def]
  obtain ⟨j, hj, rfl⟩ := List.mem_iff_getElem.1 ht
  have := hX.pos_le hj
  show (ts[j]).pos ≤ s.size
  omega
/-- It tells something. -/
theorem parse_some (s : ByteArray) (w : World) : Calls Try.prog 20 #[.string s] w fun e w' => ∃ a n c er p, e = .returned (.tuple #[.slice a n c, .agg #[.int .i64 er, .int .i64 p]]) ∧ Below w.heap.size w w' := by
  obtain ⟨o, ho⟩ := parse_total s
  refine (parse_any ho w).mono ?_
  intro e w' h
  cases o with
  | ok ns r => obtain ⟨a, c, ms, rfl, _, _, hb⟩ := h; exact ⟨_, _, _, _, _, rfl, hb⟩
  | err er p => obtain ⟨rfl, hb⟩ := h; exact ⟨_, _, _, _, _, rfl, hb⟩
theorem shL_view (k : Nat) : ∀ (ns : List PN), (∀ n ∈ ns, ∃ t ks, n = defN t ks) → (PN.shL k ns).map PN.view = (ns.map PN.view).map fun d => ⟨d.at_ + k, d.nm, d.n⟩
  | [], _ => rfl
  | n :: ns, h => by
    obtain ⟨t, ks, rfl⟩ := h n List.mem_cons_self
    show ((defN t ks).sh k).view :: (PN.shL k ns).map PN.view = _
    rw [view_sh, shL_view k ns (fun x hx => h x (List.mem_cons_of_mem _ hx))]
    simp [view_def]
/-- What both texts' definitions are to those of the whole. -/
structure PartsRel (d : Nat) (vx vy vz : List DefV) : Prop where
  len : vz.length = vx.length + vy.length
  lo : ∀ k (h1 : k < vx.length) (h2 : k < vz.length), vz[k] = vx[k]
  hi : ∀ j (h1 : j < vy.length) (h2 : vx.length + j < vz.length), vz[vx.length + j] = ⟨(vy[j]).at_ + d, (vy[j]).nm, (vy[j]).n⟩
theorem ParseT.forms {s : ByteArray} {ns : List PN} {r : List Tok} (h : ParseT s (.ok ns r)) : ∀ n ∈ ns, ∃ t ks, n = defN t ks := by
  obtain ⟨ts, _, hp⟩ := h.ok_inv
  intro n hn
  obtain ⟨t, ks, h1, _⟩ := hp.form _ _ rfl n hn
  exact ⟨t, ks, h1⟩
theorem parts_rel {k : Nat} {nx ny : List PN} (hy : ∀ n ∈ ny, ∃ t ks, n = defN t ks) : PartsRel k (nx.map PN.view) (ny.map PN.view) ((nx ++ PN.shL k ny).map PN.view) := by
  rw [List.map_append, shL_view k ny hy]
  refine ⟨by simp, fun k h1 h2 => ?_, fun j h1 h2 => ?_⟩
  · rw [List.getElem_append_left h1]
  · rw [List.getElem_append_right (by omega)]
    simp
end Go.Proofs.Yticdihfjnmjkmaa
