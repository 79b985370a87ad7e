/- The reference's text and measure of a derivation's tree. -/
import Derived.Test.YtfiafmhnmafnbaaTextIn
namespace Go.Proofs.Ytfiafmhnmafnbaa
open Go.RowKit
/-- The kids' texts, each behind a space, behind what is there. -/
def RPostT (x : ByteArray) (n : Nat) (w : World) (e : Ending) (w' : World) : Prop := e = .returned (.tuple #[.string x, .int .i64 n]) ∧ Below w.heap.size w w'
theorem rulesL_take (ks : List PT) (k : Nat) (h : k < ks.length) : PT.rulesL (ks.take (k + 1)) = PT.rulesL (ks.take k) ++ ks[k].rules := by
  rw [List.take_succ_eq_append_getElem h, PT.rulesL_append]
  simp [PT.rulesL]
theorem textL_take (g : GramD) (ks : List PT) (k : Nat) (h : k < ks.length) : PT.textL g (ks.take (k + 1)) = PT.textL g (ks.take k) ++ (32 :: ks[k].text g) := by
  rw [List.take_succ_eq_append_getElem h]
  generalize ks.take k = l
  induction l with
  | nil => simp [PT.textL]
  | cons x l ih => simp only [List.cons_append, PT.textL, ih]; simp
theorem rules_split (ks : List PT) (k : Nat) (h : k < ks.length) (rest : List Int) : (PT.rulesL ks ++ rest).drop (PT.rulesL (ks.take k)).length = ks[k].rules ++ (PT.rulesL (ks.drop (k + 1)) ++ rest) := by
  have e : PT.rulesL ks = PT.rulesL (ks.take k) ++ (ks[k].rules ++ PT.rulesL (ks.drop (k + 1))) := by
    have h1 := PT.rulesL_append (ks.take k) (ks.drop k)
    rw [List.take_append_drop, List.drop_eq_getElem_cons h, PT.rulesL] at h1
    exact h1
  rw [e]
  simp
theorem textL_len (g : GramD) (hb : Brief g) (ks : List PT) : (PT.textL g ks).length ≤ PT.sizeL ks * 1048582 := by
  induction ks with
  | nil => simp [PT.textL, PT.sizeL]
  | cons k ks ih =>
    have h3 := text_len hb k
    simp only [PT.textL, PT.sizeL, List.length_cons, List.length_append, Nat.add_mul]
    omega
theorem ints_drop {w : World} {B : Nat} {b off : Nat} {xs : List Int} (h : Ints w B (some ⟨b, off, none⟩) xs) (k : Nat) : Ints w B (some ⟨b, off + k, none⟩) (xs.drop k) := fun i hi => by
  have h1 : k + i < xs.length := by simp at hi; omega
  obtain ⟨b', off', ha, hb, hc⟩ := h (k + i) h1
  injection ha with ha
  injection ha with h2 h3
  subst h2 h3
  exact ⟨b, off + k, rfl, hb, by rw [List.getElem_drop, Nat.add_assoc]; exact hc⟩
theorem valid_len (t : PT) : t.rules.length ≤ t.size := by
  induction t using PT.ind with | h s r kids ih => ?_
  have h2 : (PT.rulesL kids).length ≤ PT.sizeL kids := by
    induction kids with
    | nil => simp [PT.rulesL, PT.sizeL]
    | cons k ks ih2 =>
      have h3 := ih k (by simp)
      have h4 := ih2 (fun x hx => ih x (by simp [hx]))
      simp only [PT.rulesL, PT.sizeL, List.length_append]
      omega
  simp only [PT.rules, PT.size, List.length_append]
  split <;> simp <;> omega
theorem rulesL_len (ks : List PT) : (PT.rulesL ks).length ≤ PT.sizeL ks := by
  induction ks with
  | nil => simp [PT.rulesL, PT.sizeL]
  | cons k ks ih =>
    have h3 := valid_len k
    simp only [PT.rulesL, PT.sizeL, List.length_append]
    omega
set_option maxRecDepth 100000 in
set_option maxHeartbeats 2000000 in
theorem rtext_any {B : Nat} {g : GramD} (hbr : Brief g) (hsm : Small g) (t : PT) (hv : t.valid g = true) (hnm : t.named g) (hs : t.size ≤ 10000) {rest : List Int} {w : World} (h : GramAt w B g) (hB : B ≤ w.heap.size)
    {a : Option Addr} {cap : Nat} (hr : Ints w B a (t.rules ++ rest)) (hc : (t.rules ++ rest).length ≤ cap) (hcm : cap ≤ 9223372036854775807) :
    Calls Try.prog 12 #[GV g, .int .i64 t.sym, .slice a (t.rules ++ rest).length cap] w (RPostT (strOf (t.text g)) t.rules.length w) := by
  induction t using PT.ind generalizing rest w a cap with | h s r kids ih => ?_
  have HS := Lib.hid (boxed_start h hB)
  have HR := Lib.hid (hr.below ((Below.refl _ _).alloc hB (.cells #[.slice g.ta g.terms.length g.tc, .slice g.va g.vars.length g.vc, .slice g.ra g.rules.length g.rc] 25)))
  rw [PT.named] at hnm
  have HNM : ∀ W, GramAt W B g → B ≤ W.heap.size → Hid (Calls Try.prog 34 #[GV g, .int .i64 s] W (StrPost (nameS g s) W)) := fun W h1 h2 => rname_any h1 h2 hbr hnm.1
  have HZL := Lib.hid (text_len hbr (.node s r kids))
  rw [PT.size] at hs
  by_cases hneg : s < 0
  · have HE := Lib.hid (show strOf ((PT.node s r kids).text g) = nameS g s by rw [PT.text, if_neg (by omega)]; simp [strOf])
    obtain ⟨_, rfl, rfl⟩ := valid_leaf hv hneg
    have HE2 := Lib.hid (show (PT.node s (-1) []).rules.length = 0 by rw [PT.rules, if_neg (by omega)]; rfl)
    generalize (PT.node s (-1) []).rules ++ rest = L at *
    have HN := HNM _ HS.out.gram (by simp; omega)
    clear h hr ih hv hnm hc hcm HR
    unfold GV PT.sym
    unfold GV at HN
    go_enter Try.func12, Try.ntmps12
    go_wp2_with (first | (go_at_call 34; refine HN.out.mono ?_; rintro e w1 ⟨rfl, hbw⟩))
    go_ret2
    exact ⟨by rw [HE.out, HE2.out]; rfl, (HS.out.next hB hbw).below⟩
  · have hz : (0 : Int) ≤ s := by omega
    obtain ⟨rn, rfl, hrn, hleft, hsyms, hkv⟩ := valid_var hv hz
    have hkl : kids.length = g.rules[rn].right.length := by rw [← hsyms]; simp
    have hk8 : kids.length ≤ 8 := by rw [hkl]; exact hsm.2 rn hrn
    have HRR := Lib.hid (show (PT.node s rn kids).rules = (rn : Int) :: PT.rulesL kids by rw [PT.rules, if_pos hz]; rfl)
    rw [HRR.out] at hr hc HR
    rw [HRR.out]
    obtain ⟨ob, oo, rfl, hob, hoc⟩ := HR.out 0 (by simp)
    simp only [List.cons_append, List.getElem_cons_zero, Nat.add_zero] at hoc
    have HSY := Lib.hid hsyms
    have IH : Hid (∀ k (hk : k < kids.length) (rest : List Int) (W : World) (a : Option Addr) (cap : Nat), GramAt W B g → B ≤ W.heap.size → Ints W B a (kids[k].rules ++ rest) → (kids[k].rules ++ rest).length ≤ cap → cap ≤ 9223372036854775807 →
        Calls Try.prog 12 #[GV g, .int .i64 kids[k].sym, .slice a (kids[k].rules ++ rest).length cap] W (RPostT (strOf (kids[k].text g)) kids[k].rules.length W)) :=
      Lib.hid fun k hk rest W a cap h1 h2 h3 h4 h5 => ih _ (List.getElem_mem hk) (hkv _ (List.getElem_mem hk)) (namedL_iff.1 hnm.2 _ (List.getElem_mem hk)) (by have := PT.size_le (List.getElem_mem hk); omega) h1 h2 h3 h4 h5
    have HN := HNM _ HS.out.gram (by simp; omega)
    have hnl := name_len hbr (s := s)
    obtain ⟨rb, ro, hra, hrb, -, gR, -, hri, -⟩ := HS.out.gram.rules rn hrn
    have HRA := Lib.hid hra
    have hidx : (rn : Int) < g.rules.length := by omega
    have hidx0 : (0 : Int) ≤ rn := by omega
    have hlen0 : (0 : Int) < (((rn : Int) :: PT.rulesL kids ++ rest).length : Nat) := by simp; omega
    have HCC := Lib.hid hc
    have HSZ := Lib.hid hs
    have HBR := Lib.hid hbr
    clear h hr ih hv hnm hc hkv hsyms hri hra HNM gR
    generalize hLL : ((rn : Int) :: PT.rulesL kids ++ rest).length = LL at hlen0 ⊢
    have HLL := Lib.hid hLL
    clear hLL
    unfold GV PT.sym
    unfold GV at HN
    go_enter Try.func12, Try.ntmps12
    have hn1 : ¬ 9223372036854775807 < 1 + (nameS g s).size := by
      have : (nameS g s).size = (nameS g s).data.toList.length := rfl
      omega
    go_wp2_with (first
      | (go_at_call 34; refine HN.out.mono ?_; rintro e w1 ⟨rfl, hbw⟩
         have HB1 := Lib.hid (HS.out.next hB hbw)
         have gc2 := cell_of_block (off := 2) HB1.out.blk
         simp only [List.getElem?_toArray, List.getElem?_cons_succ, List.getElem?_cons_zero] at gc2
         rw [HRA.out] at gc2
         have hoc1 : w1.cell? ⟨ob, oo, none⟩ = some (.int .i64 rn) := (World.cell?_of_block (hbw.block ob (by simp; omega))).trans hoc
         have HR1 := Lib.hid (HR.out.below (hbw.mono (by simp; omega)))
         have hsz1 := HB1.out.size
         clear hbw HN))
    obtain ⟨rb2, ro2, hra2, -, -, gR, -, -, -⟩ := HB1.out.gram.rules rn hrn
    obtain ⟨rfl, rfl⟩ : rb2 = rb ∧ ro2 = ro := by
      have e := hra2.symm.trans HRA.out
      simp only [Option.some.injEq, Addr.mk.injEq] at e
      exact ⟨e.1, e.2.1⟩
    clear hra2
    go_quiet (fail)
    have HB2 := Lib.hid (HB1.out.drewN hB nq)
    have HR2 := Lib.hid (show Ints (w1.drewN nq) B (some ⟨ob, oo, none⟩) ((rn : Int) :: PT.rulesL kids ++ rest) from HR1.out)
    have hsz2 : w1.heap.size ≤ (w1.drewN nq).heap.size := Nat.le_refl _
    clear HB1 HR1 gc2 gR hoc1 hoc HR HS
    generalize w1.drewN nq = w2 at *
    go_wp2
    go_loopw [8, 9, 11] (fun o n i wr => ∃ k : Nat, k ≤ kids.length ∧ i = .int .i64 k ∧ n = .int .i64 ((1 + (PT.rulesL (kids.take k)).length : Nat)) ∧ o = .string (strOf (40 :: ((nameS g s).data.toList ++ PT.textL g (kids.take k)))) ∧
      Hid (Boxed w B g wr ∧ Below w2.heap.size w2 wr)) (fun _ _ i _ => kids.length - (intOf i).toNat)
    case atStart =>
      refine ⟨0, by omega, rfl, rfl, ?_, HB2.out, Below.refl _ _⟩
      rw [List.take_zero, PT.textL, List.append_nil]
      exact congrArg Value.string (app_list _ _)
    case round =>
      obtain ⟨k, hk, rfl, rfl, rfl, hh⟩ := hrel
      have hszr := hh.out.1.size
      have hBw : B ≤ w2.heap.size := by omega
      have HRw := Lib.hid (HR2.out.below (hh.out.2.mono hBw))
      have HBX := Lib.hid hh.out.1
      have gc0 := cell_of_block (off := 0) HBX.out.blk
      have gc1 := cell_of_block (off := 1) HBX.out.blk
      have gc2 := cell_of_block (off := 2) HBX.out.blk
      simp only [List.getElem?_toArray, List.getElem?_cons_succ, List.getElem?_cons_zero] at gc0 gc1 gc2
      have HG2 := Lib.hid hh.out.2
      clear hh
      have htl : (strOf (40 :: ((nameS g s).data.toList ++ PT.textL g (kids.take k)))).size ≤ 20000000000 := by
        show (40 :: ((nameS g s).data.toList ++ PT.textL g (kids.take k))).toArray.size ≤ _
        rw [List.size_toArray, List.length_cons, List.length_append]
        have h1 := textL_len g HBR.out (kids.take k)
        have h2 := sizeL_take_le kids k
        have := HSZ.out
        omega
      by_cases hlt : k < kids.length
      · have hri : Ints wr B g.rules[rn].ra g.rules[rn].right := by
          obtain ⟨_, _, _, _, _, _, _, hri, _⟩ := HBX.out.gram.rules rn hrn
          exact hri
        obtain ⟨xb, xo, hxa, hxb, hxc⟩ := hri k (by omega)
        have hxs : g.rules[rn].right[k]'(by omega) = kids[k].sym := by
          have := List.getElem_of_eq HSY.out (i := k) (by simpa using hlt)
          rw [List.getElem_map] at this
          exact this.symm
        rw [hxs] at hxc
        have hki : (k : Int) < g.rules[rn].right.length := by omega
        have HT1 := Lib.hid (rulesL_take kids k hlt)
        have HT2 := Lib.hid (textL_take g kids k hlt)
        have hsp := rules_split kids k hlt rest
        have hNle : 1 + (PT.rulesL (kids.take k)).length ≤ LL := by
          have := HLL.out
          have h1 := congrArg List.length hsp
          simp only [List.length_drop, List.length_append, List.length_cons, List.cons_append] at this h1
          have h2 := PT.rulesL_append (kids.take k) (kids.drop k)
          rw [List.take_append_drop] at h2
          have h3 := congrArg List.length h2
          simp only [List.length_append] at h3
          omega
        have hM : LL - (1 + (PT.rulesL (kids.take k)).length) = (kids[k].rules ++ (PT.rulesL (kids.drop (k + 1)) ++ rest)).length := by
          rw [← hsp, List.length_drop, ← HLL.out]
          simp only [List.cons_append, List.length_cons]
          omega
        have hdr : ((rn : Int) :: PT.rulesL kids ++ rest).drop (1 + (PT.rulesL (kids.take k)).length) = kids[k].rules ++ (PT.rulesL (kids.drop (k + 1)) ++ rest) := by
          rw [← hsp, Nat.add_comm]
          rfl
        have hLc : LL ≤ cap := by have := HCC.out; have := HLL.out; omega
        have hkr : kids[k].rules.length ≤ 100000 := by
          have h1 := valid_len kids[k]
          have := PT.size_le (List.getElem_mem hlt)
          omega
        have hkt : (strOf (kids[k].text g)).size ≤ 20000000000 := by
          show (kids[k].text g).toArray.size ≤ _
          rw [List.size_toArray]
          have h1 := text_len HBR.out kids[k]
          have := PT.size_le (List.getElem_mem hlt)
          have := HSZ.out
          omega
        have hrl : (PT.rulesL (kids.take k)).length ≤ 100000 := by
          have h1 := rulesL_len (kids.take k)
          have h2 := sizeL_take_le kids k
          have := HSZ.out
          omega
        have HI1 : ∀ (A : Option Addr) (C : Nat), Ints wr B A (kids[k].rules ++ (PT.rulesL (kids.drop (k + 1)) ++ rest)) → LL - (1 + (PT.rulesL (kids.take k)).length) ≤ C → C ≤ 9223372036854775807 →
            Hid (Calls Try.prog 12 #[GV g, .int .i64 kids[k].sym, .slice A (LL - (1 + (PT.rulesL (kids.take k)).length)) C] wr.drew (RPostT (strOf (kids[k].text g)) kids[k].rules.length wr.drew)) := fun A C h1 h2 h3 => by
          rw [hM] at h2 ⊢
          exact Lib.hid (IH.out k hlt _ wr.drew A C (HBX.out.drewN hB 1).gram (by show B ≤ wr.heap.size; omega) h1 h2 h3)
        rw [hxa]
        have HDR := Lib.hid hdr
        have HTL := Lib.hid (show ByteArray.append (ByteArray.append (strOf (40 :: ((nameS g s).data.toList ++ PT.textL g (kids.take k)))) ⟨#[32]⟩) (strOf (kids[k].text g)) = strOf (40 :: ((nameS g s).data.toList ++ PT.textL g (kids.take (k + 1)))) by
          rw [HT2.out, app_list, app_list]
          simp [strOf])
        have HNN := Lib.hid (show 1 + (PT.rulesL (kids.take (k + 1))).length = 1 + (PT.rulesL (kids.take k)).length + kids[k].rules.length by rw [HT1.out, List.length_append]; omega)
        clear hri hxs hM hdr hsp hxa HT1 HT2
        generalize hN : 1 + (PT.rulesL (kids.take k)).length = N at *
        have hN1 : N ≤ 100001 := by omega
        generalize (strOf (40 :: ((nameS g s).data.toList ++ PT.textL g (kids.take k)))) = OUT at *
        have HC0 : N = cap → Hid (Calls Try.prog 12 #[GV g, .int .i64 kids[k].sym, .slice (some ⟨ob, oo, none⟩) 0 0] wr.drew (RPostT (strOf (kids[k].text g)) kids[k].rules.length wr.drew)) := fun h => by
          have e : LL - N = 0 := by omega
          have := HI1 (some ⟨ob, oo, none⟩) 0 (by
            have h5 : (kids[k].rules ++ (PT.rulesL (kids.drop (k + 1)) ++ rest)).length = 0 := by
              rw [← HDR.out, List.length_drop, HLL.out]
              exact e
            rw [List.length_eq_zero_iff.1 h5]
            exact fun i hi => by simp at hi) (by omega) (by omega)
          rw [e] at this
          exact this
        have HC1 : ¬ N = cap → Hid (Calls Try.prog 12 #[GV g, .int .i64 kids[k].sym, .slice (some ⟨ob, oo + N, none⟩) (LL - N) (cap - N)] wr.drew (RPostT (strOf (kids[k].text g)) kids[k].rules.length wr.drew)) := fun h =>
          HI1 (some ⟨ob, oo + N, none⟩) (cap - N) (by
            rw [← HDR.out]
            exact ints_drop HRw.out N) (by omega) (by omega)
        generalize strOf ((kids[k]'hlt).text g) = X at *
        generalize (kids[k]'hlt).rules.length = M at *
        generalize (kids[k]'hlt).sym = y at *
        clear HI1 HDR HRw
        have hs1 : ¬ 9223372036854775807 < OUT.size + 1 := by omega
        have hs2 : ¬ 9223372036854775807 < OUT.size + 1 + X.size := by omega
        have hNi : (N : Int) ≤ LL := by omega
        have hNi0 : (0 : Int) ≤ N := by omega
        have hNi2 : (N : Int) ≤ cap := by omega
        unfold GV at HC0 HC1
        by_cases hNC : N = cap
        · have HC := HC0 hNC
          subst hNC
          obtain rfl : LL = N := by omega
          clear HC0 HC1
          go_wp2
          go_region_law (first | (go_simp; go_at_call 12; refine HC.out.mono ?_; rintro e w5 ⟨rfl, hbw⟩))
          all_goals
            go_wp2
            go_roundw
            case rel => exact ⟨k + 1, by omega, by go_num, by rw [HNN.out]; congr 1, by rw [← HTL.out]; rfl, HBX.out.next hB (undrew hbw), HG2.out.trans ((undrew hbw).mono HG2.out.size)⟩
            case measure => simp [intOf]; omega
        · have HC := HC1 hNC
          have hNC2 : ¬ cap = N := fun h => hNC h.symm
          clear HC0 HC1
          go_wp2
          go_region_law (first | (go_simp; go_at_call 12; refine HC.out.mono ?_; rintro e w5 ⟨rfl, hbw⟩))
          all_goals
            go_wp2
            go_roundw
            case rel => exact ⟨k + 1, by omega, by go_num, by rw [HNN.out]; congr 1, by rw [← HTL.out]; rfl, HBX.out.next hB (undrew hbw), HG2.out.trans ((undrew hbw).mono HG2.out.size)⟩
            case measure => simp [intOf]; omega
      · have hki : ¬ (k : Int) < g.rules[rn].right.length := by omega
        obtain rfl : k = kids.length := by omega
        rw [List.take_length] at *
        have HTL := Lib.hid (show ByteArray.append (strOf (40 :: ((nameS g s).data.toList ++ PT.textL g kids))) ⟨#[41]⟩ = strOf ((PT.node s rn kids).text g) by
          rw [PT.text, if_pos hz, app_list]
          simp [strOf])
        generalize (strOf (40 :: ((nameS g s).data.toList ++ PT.textL g kids))) = OUT at *
        have hs1 : ¬ 9223372036854775807 < OUT.size + 1 := by omega
        go_wp2
        go_ret2
        exact ⟨by rw [← HTL.out, Nat.add_comm (PT.rulesL kids).length 1]; rfl, HBX.out.below⟩
end Go.Proofs.Ytfiafmhnmafnbaa
