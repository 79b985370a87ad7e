/- When a tree with a turned node is one of the grammar. Plain. -/
import Derived.Test.YtfiafmhnmafnbaaSubs
namespace Go.Proofs.Ytfiafmhnmafnbaa
open Go.RowKit
/-- What is asked of a node by itself. -/
def locB (g : GramD) (s r : Int) (ks : List Int) : Bool :=
  if 0 ≤ s then (match getR g r with | some rl => decide (rl.left = s) && decide (ks = rl.right) | none => false)
  else decide (nt s < g.terms.length) && (decide (r = -1) && ks.isEmpty)
theorem valid_loc {g : GramD} {s r : Int} {kids : List PT} : (PT.node s r kids).valid g = true ↔ locB g s r (kids.map PT.sym) = true ∧ ∀ k ∈ kids, k.valid g = true := by
  rw [PT.valid]
  unfold locB
  by_cases hs : 0 ≤ s
  · rw [if_pos hs, if_pos hs]
    cases getR g r with
    | none => simp
    | some rl =>
      simp only [Bool.and_eq_true, validL_iff]
      constructor
      · rintro ⟨h1, h2, h3⟩; exact ⟨⟨h1, h3⟩, h2⟩
      · rintro ⟨⟨h1, h3⟩, h2⟩; exact ⟨h1, h2, h3⟩
  · rw [if_neg hs, if_neg hs]
    simp only [Bool.and_eq_true]
    constructor
    · rintro ⟨h1, h2, h3⟩
      have : kids = [] := by simpa using h3
      subst this
      exact ⟨⟨h1, h2, rfl⟩, by simp⟩
    · rintro ⟨⟨h1, h2, h3⟩, h4⟩
      exact ⟨h1, h2, by simpa using h3⟩
theorem syms_pt (ks : List MT) : (ks.map MT.pt).map PT.sym = ks.map MT.sym := by
  rw [List.map_map]
  exact List.map_congr_left fun m _ => mt_sym m
/-- valid: each node by itself. -/
theorem valid_subs {g : GramD} {t : MT} : t.pt.valid g = true ↔ ∀ n ∈ t.subs, locB g n.sym n.rule (n.kids.map MT.sym) = true := by
  induction t using MT.ind with | h b v s r kids ih => ?_
  rw [MT.pt_node, valid_loc, syms_pt]
  constructor
  · rintro ⟨h1, h2⟩ n hn
    rcases MT.mem_subs.1 hn with rfl | ⟨k, hk, hn⟩
    · exact h1
    · exact (ih k hk).1 (h2 _ (List.mem_map_of_mem hk)) n hn
  · intro h
    refine ⟨h _ (MT.self_subs _), fun k hk => ?_⟩
    obtain ⟨m, hm, rfl⟩ := List.mem_map.1 hk
    exact (ih m hm).2 fun n hn => h n (MT.mem_subs.2 (.inr ⟨m, hm, hn⟩))
theorem setR_syms (xb : Nat) (r' : Int) (ks : List MT) : (ks.map (MT.setR xb r')).map MT.sym = ks.map MT.sym := by
  rw [List.map_map]
  exact List.map_congr_left fun m _ => MT.setR_sym _ _ m
theorem valid_setR {g : GramD} {xb : Nat} {r' : Int} {t : MT} : (t.setR xb r').pt.valid g = true ↔ ∀ n ∈ t.subs, locB g n.sym (if n.blk = xb then r' else n.rule) (n.kids.map MT.sym) = true := by
  induction t using MT.ind with | h b v s r kids ih => ?_
  rw [MT.setR, MT.pt_node, valid_loc, syms_pt, MT.setRL_map, setR_syms]
  constructor
  · rintro ⟨h1, h2⟩ n hn
    rcases MT.mem_subs.1 hn with rfl | ⟨k, hk, hn⟩
    · exact h1
    · exact (ih k hk).1 (h2 _ (List.mem_map_of_mem (List.mem_map_of_mem hk))) n hn
  · intro h
    refine ⟨h _ (MT.self_subs _), fun k hk => ?_⟩
    obtain ⟨m, hm, rfl⟩ := List.mem_map.1 hk
    obtain ⟨c, hc, rfl⟩ := List.mem_map.1 hm
    exact (ih c hc).2 fun n hn => h n (MT.mem_subs.2 (.inr ⟨c, hc, hn⟩))
/-- One node, x, gets the rule r'. -/
theorem valid_bent {g : GramD} {t x : MT} {r' : Int} (hnd : t.blocks.Nodup) (hx : x ∈ t.subs) (hv : t.pt.valid g = true) : (t.setR x.blk r').pt.valid g = locB g x.sym r' (x.kids.map MT.sym) := by
  have h0 := valid_subs.1 hv
  cases hl : locB g x.sym r' (x.kids.map MT.sym) with
  | true =>
    refine valid_setR.2 fun n hn => ?_
    by_cases hb : n.blk = x.blk
    · obtain rfl := MT.uniq hnd hn hx hb
      rw [if_pos rfl, hl]
    · rw [if_neg hb]
      exact h0 n hn
  | false =>
    cases hq : (t.setR x.blk r').pt.valid g with
    | false => rfl
    | true =>
      have := valid_setR.1 hq x hx
      rw [if_pos rfl, hl] at this
      exact absurd this (by decide)
/-- What the law says of a turned node. -/
def fitsB (g : GramD) (s was to : Int) : Bool :=
  if s < 0 then decide (to = -1) else (match getR g to with | some rl => decide (rl.left = s) && decide (to = was) | none => false)
theorem fits_loc {g : GramD} (hok : GramOk g) {s was to : Int} {ks : List Int} (h : locB g s was ks = true) : locB g s to ks = fitsB g s was to := by
  unfold locB at h
  unfold locB fitsB
  by_cases hs : 0 ≤ s
  · rw [if_pos hs] at h
    rw [if_pos hs, if_neg (by omega)]
    cases hw : getR g was with
    | none => rw [hw] at h; simp at h
    | some rw' =>
      rw [hw] at h
      simp only [Bool.and_eq_true, decide_eq_true_eq] at h
      cases ht : getR g to with
      | none => rfl
      | some rt =>
        simp only
        by_cases hl : rt.left = s
        · rw [decide_eq_true hl, Bool.true_and, Bool.true_and]
          by_cases he : to = was
          · subst he
            rw [hw] at ht
            injection ht with ht
            subst ht
            rw [decide_eq_true h.2, decide_eq_true rfl]
          · rw [decide_eq_false he]
            refine decide_eq_false fun hk => ?_
            unfold getR at hw ht
            by_cases h1 : 0 ≤ was
            · by_cases h2 : 0 ≤ to
              · rw [if_pos h1] at hw
                rw [if_pos h2] at ht
                obtain ⟨h3, h4⟩ := List.getElem?_eq_some_iff.1 hw
                obtain ⟨h5, h6⟩ := List.getElem?_eq_some_iff.1 ht
                have h7 := (hok was.toNat h3).2.2
                have h8 := (hok to.toNat h5).2.2
                rcases Nat.lt_or_ge was.toNat to.toNat with h9 | h9
                · exact h8 was.toNat h3 h9 (by rw [h4, h6, hl, h.1]) (by rw [h4, h6, ← hk, h.2])
                · exact h7 to.toNat h5 (by omega) (by rw [h4, h6, hl, h.1]) (by rw [h4, h6, ← hk, h.2])
              · rw [if_neg h2] at ht; cases ht
            · rw [if_neg h1] at hw; cases hw
        · rw [decide_eq_false hl, Bool.false_and, Bool.false_and]
  · rw [if_neg hs] at h
    rw [if_neg hs, if_pos (by omega)]
    simp only [Bool.and_eq_true] at h
    rw [h.1, h.2.2]
    simp
/-- With one kid more that is no node of a tree. -/
theorem valid_addK {g : GramD} {t x l : MT} {v' : Value} (hx : x ∈ t.subs) (hl : l.pt.valid g = false) : (MT.addK x.blk v' l t).pt.valid g = false := by
  induction t using MT.ind with | h b v s r kids ih => ?_
  cases hq : (MT.addK x.blk v' l (MT.node b v s r kids)).pt.valid g with
  | false => rfl
  | true =>
    rw [MT.addK, MT.addKL_map] at hq
    by_cases hb : b = x.blk
    · rw [if_pos hb, MT.pt_node] at hq
      have := (valid_loc.1 hq).2 l.pt (by simp)
      rw [hl] at this
      cases this
    · rw [if_neg hb, MT.pt_node] at hq
      rcases MT.mem_subs.1 hx with rfl | ⟨k, hk, hn⟩
      · exact absurd rfl hb
      · have h1 := (valid_loc.1 hq).2 _ (List.mem_map_of_mem (List.mem_map_of_mem (f := MT.addK x.blk v' l) hk))
        rw [ih k hk hn] at h1
        cases h1
theorem setR_restore {t x : MT} {r' : Int} (hnd : t.blocks.Nodup) (hx : x ∈ t.subs) : (t.setR x.blk r').setR x.blk x.rule = t := by
  rw [MT.setR_twice]
  exact MT.setR_id fun n hn he => by rw [MT.uniq hnd hn hx he]
theorem and_val (x : Int) : ∃ m : Nat, bits .and .i64 x 65535 = m ∧ m ≤ 65535 := by
  have e : bits .and .i64 x 65535 = IntKind.i64.wrap ((BitVec.ofInt 64 x &&& BitVec.ofInt 64 65535).toNat : Int) := rfl
  have h : (BitVec.ofInt 64 x &&& BitVec.ofInt 64 65535).toNat ≤ 65535 := by
    rw [BitVec.toNat_and]
    exact Nat.le_trans Nat.and_le_right (by decide)
  refine ⟨_, ?_, h⟩
  rw [e, IntKind.wrap_i64]
  omega
theorem rem_run (m n : Nat) (hn : 0 < n) (W : World) : (Op.intDiv .rem .i64 (m : Int) (n : Int)).run Try.prog W = .ok (.int .i64 ((m % n : Nat) : Int)) W := by
  have h0 : ¬ (n : Int) = 0 := by omega
  unfold Op.intDiv
  rw [if_neg h0, Int.ofNat_tmod]
  rfl
theorem div_run (m : Nat) (hm : m ≤ 65535) (W : World) : (Op.intDiv .quo .i64 (m : Int) 2).run Try.prog W = .ok (.int .i64 ((m / 2 : Nat) : Int)) W := by
  have h0 : ¬ (2 : Int) = 0 := by omega
  have h1 : IntKind.i64.wrap (((m : Int)).tdiv 2) = ((m / 2 : Nat) : Int) := by
    rw [show (m : Int).tdiv 2 = ((m / 2 : Nat) : Int) from (Int.ofNat_tdiv m 2).symm, IntKind.wrap_i64]
    omega
  unfold Op.intDiv
  rw [if_neg h0]
  show Result.ok (Value.int .i64 (IntKind.i64.wrap (((m : Int)).tdiv 2))) W = _
  rw [h1]
end Go.Proofs.Ytfiafmhnmafnbaa
