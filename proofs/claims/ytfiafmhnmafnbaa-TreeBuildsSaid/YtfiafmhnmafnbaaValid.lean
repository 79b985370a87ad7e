/- Whether a tree in memory is one of a grammar. -/
import Derived.Test.YtfiafmhnmafnbaaOf
namespace Go.Proofs.Ytfiafmhnmafnbaa
open Go.RowKit
set_option maxHeartbeats 1000000 in
theorem equal_any {B : Nat} {a b : Option Addr} {ca cb : Nat} {xs ys : List Int} {w : World} (ha : Ints w B a xs) (hb : Ints w B b ys) (hx : xs.length ≤ 1000000) (hy : ys.length ≤ 1000000) :
    Calls Try.prog 40 #[.slice a xs.length ca, .slice b ys.length cb] w fun e w' => e = .returned (.bool (decide (xs = ys))) ∧ ∃ n, w' = w.drewN n := by
  have HA := Lib.hid ha
  have HB := Lib.hid hb
  clear ha hb
  by_cases hl : xs.length = ys.length
  · have hl' : ((xs.length : Int) != (ys.length : Int)) = false := by simp [hl]
    have HL := Lib.hid hl
    clear hl
    go_enter Try.func40, Try.ntmps40
    go_wp2
    go_loopw [13] (fun i wr => ∃ k n : Nat, k ≤ xs.length ∧ i = .int .i64 k ∧ wr = w.drewN n ∧ Hid (xs.take k = ys.take k)) (fun i _ => xs.length - (intOf i).toNat)
    case atStart => exact ⟨0, 0, by omega, rfl, rfl, rfl⟩
    case round =>
      obtain ⟨k, n, hk, rfl, rfl, HT⟩ := hrel
      by_cases hlt : k < xs.length
      · have hlt2 : k < ys.length := by rw [← HL.out]; exact hlt
        obtain ⟨b1, o1, rfl, hb1, hc1⟩ := HA.out k hlt
        obtain ⟨b2, o2, rfl, hb2, hc2⟩ := HB.out k hlt2
        have hi1 : (k : Int) < xs.length := by omega
        have hi2 : (k : Int) < ys.length := by omega
        by_cases he : xs[k] = ys[k]
        · have he' : (xs[k] != ys[k]) = false := by simp [he]
          have HE := Lib.hid he
          clear he
          go_wp2
          go_quiet (fail)
          go_wp2
          go_roundw
          case rel => exact ⟨k + 1, _, by omega, by go_num, rfl, Lib.hid (by rw [List.take_succ_eq_append_getElem hlt, List.take_succ_eq_append_getElem hlt2, HT.out, HE.out])⟩
          case measure => simp [intOf]; omega
        · have he' : (xs[k] != ys[k]) = true := by simp [he]
          have HD := Lib.hid (show decide (xs = ys) = false from decide_eq_false (fun h => he (by subst h; rfl)))
          clear he
          go_wp2
          go_quiet (fail)
          go_wp2
          go_ret
          exact ⟨by rw [HD.out]; rfl, _, by rw [World.drewN_drewN]⟩
      · have hi1 : ¬ (k : Int) < xs.length := by omega
        have HD := Lib.hid (show decide (xs = ys) = true from decide_eq_true (by
          have := HT.out
          rw [List.take_of_length_le (by omega), List.take_of_length_le (by have := HL.out; omega)] at this
          exact this))
        go_wp2
        go_ret
        exact ⟨by rw [HD.out]; rfl, _, rfl⟩
  · have hl' : ((xs.length : Int) != (ys.length : Int)) = true := by simp; omega
    have HD := Lib.hid (show decide (xs = ys) = false from decide_eq_false (fun h => hl (by rw [h])))
    clear hl
    go_enter Try.func40, Try.ntmps40
    go_wp2
    go_ret
    exact ⟨by rw [HD.out]; rfl, 0, rfl⟩
theorem quiet_to {P : Program} {f : FuncId} {args : Array Value} {w : World} {n : Nat} {v : Value} (h : Calls P f args (w.drewN n) fun e w' => e = .returned v ∧ ∃ m, w' = (w.drewN n).drewN m) :
    Calls P f args (w.drewN n) fun e w'' => e = .returned v ∧ ∃ m, w'' = w.drewN m :=
  h.mono fun _ _ ⟨he, m, hm⟩ => ⟨he, n + m, by rw [hm, World.drewN_drewN]⟩
def BoolPost (b : Bool) (w : World) (e : Ending) (w' : World) : Prop := e = .returned (.bool b) ∧ Below w.heap.size w w'
theorem valid_no {g : GramD} {s r : Int} {kids : List PT} (hs : 0 ≤ s) (h : ∀ rl, getR g r = some rl → rl.left ≠ s) : (PT.node s r kids).valid g = false := by
  rw [PT.valid, if_pos hs]
  cases hg : getR g r with
  | none => rfl
  | some rl => simp [h rl hg]
theorem getR_lt {g : GramD} {r : Nat} (h : r < g.rules.length) : getR g (r : Int) = some g.rules[r] := by
  unfold getR
  rw [if_pos (by omega)]
  simp [h]
theorem valid_yes {g : GramD} {s : Int} {r : Nat} {kids : List PT} (hs : 0 ≤ s) (h : r < g.rules.length) (hl : g.rules[r].left = s) : (PT.node s r kids).valid g = (PT.validL g kids && decide (kids.map PT.sym = g.rules[r].right)) := by
  rw [PT.valid, if_pos hs, getR_lt h]
  simp [hl]
theorem valid_neg {g : GramD} {s r : Int} {kids : List PT} (hs : s < 0) : (PT.node s r kids).valid g = (decide (nt s < g.terms.length) && (decide (r = -1) && kids.isEmpty)) := by
  rw [PT.valid, if_neg (by omega)]
theorem mt_sym (t : MT) : t.pt.sym = t.sym := by cases t; rw [MT.pt_node]; rfl
set_option maxRecDepth 100000 in
set_option maxHeartbeats 1000000 in
theorem valid_any {B : Nat} {g : GramD} (hsm : Small g) (t : MT) {w : World} {lo : Nat} (h : GramAt w B g) (hB : B ≤ w.heap.size) (ht : MT.At w lo t) (hs : t.pt.size ≤ 100000) :
    Calls Try.prog 20 #[t.ptr, GV g] w (BoolPost (t.pt.valid g) w) := by
  induction t using MT.ind generalizing w with | h b v s r kids ih => ?_
  have HS := Lib.hid (boxed_start h hB)
  have hb1 : Below w.heap.size w (w.alloc (.cells #[.slice g.ta g.terms.length g.tc, .slice g.va g.vars.length g.vc, .slice g.ra g.rules.length g.rc] 25)) := (Below.refl _ _).alloc (Nat.le_refl _) _
  have hta := ht.below hb1
  obtain ⟨a, cap, rfl, hn, hcap, hmax, hc⟩ := hta.reads
  have HT := Lib.hid hta
  have g0 := cell_of_block (off := 0) hta.2.1
  have g1 := cell_of_block (off := 1) hta.2.1
  have g2 := cell_of_block (off := 2) hta.2.1
  simp at g0 g1 g2
  have gc0 := cell_of_block (off := 0) HS.out.blk
  have gc2 := cell_of_block (off := 2) HS.out.blk
  simp at gc0 gc2
  have HI := fun W => Lib.hid (isVar_any s W)
  have hxr := nt_run
  have hlr : g.rules.length ≤ 24 := hsm.1
  rw [MT.pt_node, PT.size] at hs
  have hkl : kids.length ≤ 100000 := by have := PT.len_le (kids.map MT.pt); simp at this; omega
  rw [MT.pt_node]
  unfold MT.ptr MT.blk GV
  by_cases hneg : s < 0
  · rw [show isv s = false by simp [isv]; omega] at HI
    have HV := Lib.hid (valid_neg (g := g) (r := r) (kids := kids.map MT.pt) hneg)
    have HB1 := Lib.hid hb1
    clear hta ht hc h hb1 ih
    have hnp : ¬ (0 : Int) ≤ s := by omega
    by_cases c1 : nt s < g.terms.length
    · have c1' : bits .xor .i64 (if IntKind.i64.signed = true then -1 else 9223372036854775807) s < g.terms.length := c1
      by_cases c2 : r = -1
      · have c2' : (r == -1) = true := by simp [c2]
        by_cases c3 : kids = []
        · have c3' : ((kids.length : Int) == 0) = true := by simp [c3]
          have HE := Lib.hid (show (decide (nt s < g.terms.length) && (decide (r = -1) && (kids.map MT.pt).isEmpty)) = true by simp [c1, c2, c3])
          clear c2 c3
          go_enter Try.func20, Try.ntmps20
          go_wp2_with (first | (go_at_call 35; refine (HI _).out.mono ?_; rintro e w' ⟨rfl, rfl⟩))
          go_quiet (fail)
          go_wp2
          go_ret
          exact ⟨by rw [HV.out, HE.out]; rfl, HB1.out.trans ⟨rfl, rfl, rfl, Nat.le_refl _, fun _ _ => rfl⟩⟩
        · have c3' : ((kids.length : Int) == 0) = false := by simp [c3]
          have HE := Lib.hid (show (decide (nt s < g.terms.length) && (decide (r = -1) && (kids.map MT.pt).isEmpty)) = false by simp [c3])
          clear c2 c3
          go_enter Try.func20, Try.ntmps20
          go_wp2_with (first | (go_at_call 35; refine (HI _).out.mono ?_; rintro e w' ⟨rfl, rfl⟩))
          go_quiet (fail)
          go_wp2
          go_ret
          exact ⟨by rw [HV.out, HE.out]; rfl, HB1.out.trans ⟨rfl, rfl, rfl, Nat.le_refl _, fun _ _ => rfl⟩⟩
      · have c2' : (r == -1) = false := by simp [c2]
        have HE := Lib.hid (show (decide (nt s < g.terms.length) && (decide (r = -1) && (kids.map MT.pt).isEmpty)) = false by simp [c2])
        clear c2
        go_enter Try.func20, Try.ntmps20
        go_wp2_with (first | (go_at_call 35; refine (HI _).out.mono ?_; rintro e w' ⟨rfl, rfl⟩))
        go_quiet (fail)
        go_wp2
        go_ret
        exact ⟨by rw [HV.out, HE.out]; rfl, HB1.out.trans ⟨rfl, rfl, rfl, Nat.le_refl _, fun _ _ => rfl⟩⟩
    · have c1' : decide (bits .xor .i64 (if IntKind.i64.signed = true then -1 else 9223372036854775807) s < (g.terms.length : Int)) = false := decide_eq_false c1
      have HE := Lib.hid (show (decide (nt s < g.terms.length) && (decide (r = -1) && (kids.map MT.pt).isEmpty)) = false by simp [c1])
      go_enter Try.func20, Try.ntmps20
      go_wp2_with (first | (go_at_call 35; refine (HI _).out.mono ?_; rintro e w' ⟨rfl, rfl⟩))
      go_quiet (fail)
      go_wp2
      go_ret
      exact ⟨by rw [HV.out, HE.out]; rfl, HB1.out.trans ⟨rfl, rfl, rfl, Nat.le_refl _, fun _ _ => rfl⟩⟩
  · have hz : (0 : Int) ≤ s := by omega
    rw [show isv s = true by simp [isv]; omega] at HI
    have HB1 := Lib.hid hb1
    have HTL := Lib.hid (fun x hx => (ht.lt x hx).2)
    have IH : Hid (∀ k (hk : k < kids.length) (W : World), GramAt W B g → B ≤ W.heap.size → MT.At W lo kids[k] → Calls Try.prog 20 #[kids[k].ptr, GV g] W (BoolPost (kids[k].pt.valid g) W)) :=
      Lib.hid fun k hk W h1 h2 h3 => ih _ (List.getElem_mem hk) h1 h2 h3 (by have := PT.size_le (List.mem_map_of_mem (f := MT.pt) (List.getElem_mem hk)); omega)
    clear hta ht hc h hb1 ih gc0 gc2
    go_enter Try.func20, Try.ntmps20
    go_wp2_with (first | (go_at_call 35; refine (HI _).out.mono ?_; rintro e w' ⟨rfl, rfl⟩))
    generalize (w.alloc (.cells #[.slice g.ta g.terms.length g.tc, .slice g.va g.vars.length g.vc, .slice g.ra g.rules.length g.rc] 25)) = W1 at *
    have gc2 := cell_of_block (off := 2) HS.out.blk
    simp only [List.getElem?_toArray, List.getElem?_cons_succ, List.getElem?_cons_zero] at gc2
    by_cases c1 : r < 0
    · have HE := Lib.hid (valid_no (g := g) (r := r) (kids := kids.map MT.pt) hz (fun rl h => by unfold getR at h; rw [if_neg (by omega)] at h; cases h))
      go_quiet (fail)
      go_wp2
      go_ret
      exact ⟨by rw [HE.out]; rfl, HB1.out.trans ⟨rfl, rfl, rfl, Nat.le_refl _, fun _ _ => rfl⟩⟩
    have c1' : decide (r < 0) = false := decide_eq_false c1
    by_cases c2 : (g.rules.length : Int) ≤ r
    · have c2' : decide ((g.rules.length : Int) ≤ r) = true := decide_eq_true c2
      have HE := Lib.hid (valid_no (g := g) (r := r) (kids := kids.map MT.pt) hz (fun rl h => by unfold getR at h; rw [if_pos (by omega), List.getElem?_eq_none (by omega)] at h; cases h))
      go_quiet (fail)
      go_wp2
      go_ret
      exact ⟨by rw [HE.out]; rfl, HB1.out.trans ⟨rfl, rfl, rfl, Nat.le_refl _, fun _ _ => rfl⟩⟩
    have c2' : decide ((g.rules.length : Int) ≤ r) = false := decide_eq_false c2
    obtain ⟨rn, rfl⟩ : ∃ rn : Nat, r = rn := ⟨r.toNat, by omega⟩
    have hrn : rn < g.rules.length := by omega
    have hri : (rn : Int) < g.rules.length := by omega
    obtain ⟨rb, ro, hra, hrb, k0, k1, -⟩ := HS.out.gram.rules rn hrn
    have hr8 := hsm.2 rn hrn
    rw [hra] at gc2
    by_cases c3 : g.rules[rn].left = s
    · have c3' : (g.rules[rn].left != s) = false := by simp [c3]
      have HE := Lib.hid (valid_yes (g := g) (kids := kids.map MT.pt) hz hrn c3)
      clear c3
      go_quiet (fail)
      have HK1 := Lib.hid (HS.out.drewN hB nq)
      have HT1 := Lib.hid (HT.out.drewN nq)
      have g2' : (W1.drewN nq).cell? ⟨b, 2, none⟩ = some (.slice a kids.length cap) := g2
      have HRA := Lib.hid hra
      clear HS HT g0 g1 g2 k0 k1 gc2 hrb HB1 hra
      generalize W1.drewN nq = W2 at *
      go_wp2
      go_loopw [5, 74] (fun v i wr => ∃ k : Nat, k ≤ kids.length ∧ i = .int .i64 k ∧ Hid (OwnI wr (w.heap.size + 1) v ((kids.take k).map MT.sym) ∧ Boxed w B g wr ∧ MT.At wr lo (.node b (.slice a kids.length cap) s rn kids) ∧ ∀ c ∈ kids.take k, c.pt.valid g = true)) (fun _ i _ => kids.length - (intOf i).toNat)
      case atStart => exact ⟨0, by omega, rfl, own_nil _ _, HK1.out, HT1.out, by simp⟩
      case round =>
        clear HK1 HT1 g2'
        obtain ⟨k, hk, rfl, hh⟩ := hrel
        have hsz := hh.out.2.1.size
        have gc0 := cell_of_block (off := 0) hh.out.2.1.blk
        have gc1 := cell_of_block (off := 1) hh.out.2.1.blk
        have gc2 := cell_of_block (off := 2) hh.out.2.1.blk
        simp only [List.getElem?_toArray, List.getElem?_cons_succ, List.getElem?_cons_zero] at gc0 gc1 gc2
        obtain ⟨a', cap', hav, -, -, -, hc⟩ := hh.out.2.2.1.reads
        injection hav with hav1 hav2 hav3
        subst hav1 hav3
        clear hav2
        by_cases hlt : k < kids.length
        · obtain ⟨gb, rfl, hcp⟩ := hc k hlt
          have hki : (k : Int) < kids.length := by omega
          have IHk := Lib.hid (IH.out k hlt wr hh.out.2.1.gram (by omega) (hh.out.2.2.1.kid (List.getElem_mem hlt)))
          have hAk := hh.out.2.2.1.kid (List.getElem_mem hlt)
          have HVA : Hid (kids[k].pt.valid g = true → ∀ c ∈ kids.take (k + 1), c.pt.valid g = true) := Lib.hid fun h0 c hc => by
            rw [List.take_succ_eq_append_getElem hlt] at hc
            rcases List.mem_append.1 hc with hc | hc
            · exact hh.out.2.2.2 c hc
            · obtain rfl : c = kids[k] := by simpa using hc
              exact h0
          have HVF : Hid (kids[k].pt.valid g = false → PT.validL g (kids.map MT.pt) = false) := Lib.hid fun h0 => by
            cases hq : PT.validL g (kids.map MT.pt) with
            | false => rfl
            | true =>
              rw [validL_iff.1 hq kids[k].pt (List.mem_map_of_mem (List.getElem_mem hlt))] at h0
              cases h0
          have HTK : Hid ((kids.take (k + 1)).map MT.sym = (kids.take k).map MT.sym ++ [kids[k].sym]) := Lib.hid (by rw [List.take_succ_eq_append_getElem hlt, List.map_append]; rfl)
          have hkl2 : ((kids.take k).map MT.sym).length ≤ 100000 := by simp; omega
          generalize hK : kids[k]'hlt = K at hcp IHk hAk HVA HVF HTK
          clear hK hc
          obtain ⟨kb, kv, ks, kr, kk⟩ := K
          have hkb := cell_of_block (off := 0) hAk.2.1
          have hkw := lt_of_block hAk.2.1
          simp only [List.getElem?_toArray, List.getElem?_cons_zero] at hkb
          dsimp only [GV, MT.ptr, MT.blk] at IHk
          dsimp only [MT.ptr, MT.blk] at hcp
          have HTK' : Hid ((kids.take (k + 1)).map MT.sym = (kids.take k).map MT.sym ++ [ks]) := HTK
          clear HTK
          generalize hbv : (MT.node kb kv ks kr kk).pt.valid g = bv at IHk HVA HVF
          clear hbv hAk
          cases bv
          · have HE2 := Lib.hid (HVF.out rfl)
            go_wp2_with (first | (go_at_call 20; refine IHk.out.mono ?_; rintro e w1 ⟨rfl, hbw⟩))
            go_ret
            exact ⟨by rw [HE.out, HE2.out]; rfl, (hh.out.2.1.next hB hbw).below⟩
          · go_wp2_with (first
              | (go_at_call 20; refine IHk.out.mono ?_; rintro e w1 ⟨rfl, hbw⟩
                 have hb1 : w1.cell? ⟨kb, 0, none⟩ = some (.int .i64 ks) := (World.cell?_of_block (hbw.block kb hkw)).trans hkb
                 have HW := Lib.hid hbw
                 have HO := Lib.hid (hh.out.1.below hbw)
                 have hsw := hbw.size
                 clear hbw hkb)
              | (at_builtin; (refine append_ints rfl _ _ 26 rfl Try.underlying26 info3 (w.heap.size + 1) _ ((kids.take k).map MT.sym) rfl (HO.out.alloc _) (some ⟨_, 0, none⟩) 1 1 [ks] rfl rfl (fun h => by cases h) (src_one _ _ _) (by simp only [List.length_singleton]; omega) (by simp only [World.size_alloc]; omega) ?_); intro v' w2 hown hgrow))
            have hbf : Below (w.heap.size + 1) wr w2 := (HW.out.mono (by omega)).trans (((Below.refl _ _).alloc (by omega) _).trans (below_grown (HO.out.alloc _) hgrow (by simp only [World.size_alloc]; omega)))
            go_roundw
            case rel => exact ⟨k + 1, by omega, by go_num, by rw [HTK'.out]; exact hown, hh.out.2.1.next1 hB hbf, hh.out.2.2.1.kept (fun x hx => hbf.block x (by have := HTL.out x hx; omega)), HVA.out trivial⟩
            case measure => simp [intOf]; omega
        · have hki : ¬ (k : Int) < kids.length := by omega
          have hke : kids.take k = kids := List.take_of_length_le (by omega)
          rw [hke] at hh
          obtain ⟨va, vcap, hva, -, hvi, -, -⟩ := hh.out.1.shape
          subst hva
          obtain ⟨rb', ro', hra', hrb', k0, k1, -, hri', -⟩ := hh.out.2.1.gram.rules rn hrn
          obtain ⟨rfl, rfl⟩ : rb' = rb ∧ ro' = ro := by
            have e := hra'.symm.trans HRA.out
            simp only [Option.some.injEq, Addr.mk.injEq] at e
            exact ⟨e.1, e.2.1⟩
          rw [HRA.out] at gc2
          have g1 := cell_of_block (off := 1) hh.out.2.2.1.2.1
          simp only [List.getElem?_toArray, List.getElem?_cons_succ, List.getElem?_cons_zero] at g1
          have HEQ := fun n => Lib.hid (equal_any (w := wr.drewN n) (ca := vcap) (cb := g.rules[rn].rc) (ints_drewN (ints_up hvi (B' := wr.heap.size) (Nat.le_refl _)) n) (ints_drewN (ints_up hri' (B' := wr.heap.size) (by omega)) n) (by simp; omega) (by omega))
          have HEV := Lib.hid (show (PT.validL g (kids.map MT.pt) && decide ((kids.map MT.pt).map PT.sym = g.rules[rn].right)) = decide (kids.map MT.sym = g.rules[rn].right) by
            rw [validL_iff.2 (fun c hc => by
              obtain ⟨m, hm, rfl⟩ := List.mem_map.1 hc
              exact hh.out.2.2.2 m hm), Bool.true_and, List.map_map]
            congr 2
            exact List.map_congr_left fun m _ => mt_sym m)
          have HBX := Lib.hid hh.out.2.1
          clear hh hvi hri' hra' hke hc
          generalize kids.map MT.sym = X at *
          generalize decide (X = g.rules[rn].right) = res at *
          go_wp2
          go_quiet ((go_at_call 40; exact quiet_to (HEQ _).out))
          go_wp2
          go_ret
          exact ⟨by rw [HE.out, HEV.out]; rfl, (HBX.out.drewN hB _).below⟩
    · have c3' : (g.rules[rn].left != s) = true := by simp [c3]
      have HE := Lib.hid (valid_no (g := g) (r := rn) (kids := kids.map MT.pt) hz (fun rl h => by rw [getR_lt hrn] at h; cases h; exact c3))
      clear c3
      go_quiet (fail)
      go_wp2
      go_ret
      exact ⟨by rw [HE.out]; rfl, HB1.out.trans ⟨rfl, rfl, rfl, Nat.le_refl _, fun _ _ => rfl⟩⟩
end Go.Proofs.Ytfiafmhnmafnbaa
