/-
  TreeBends answers true, and leaves its arguments as they were, for every grammar, variable, derivation, place and rule. No conditions.
-/
import Derived.Test.YtfiafmhnmafnbaaBendsL
import Derived.Deep.AppendLies
import Derived.Test.YtfiafmhnmafnbaaRows
import Derived.WalkKit
import Derived.ProofKit
import Derived.OpenShut
import Derived.ShutString
import Derived.ChangeOld
import Derived.Below
namespace Go.Proofs.Ytfiafmhnmafnbaa.treeBends
open Go.ChangeShapes Go.WideShapes Go.ChangeAt Go.RowKit
set_option linter.unusedVariables false

theorem own : ownKnob Try.prog.godebug = none := by kernel_rfl
theorem laidOut : laidOutB Try.prog = true := by kernel_rfl

set_option maxRecDepth 100000 in
set_option maxHeartbeats 8000000 in
theorem walk {w : World} {g : GramD} (hg : GramAt w w.heap.size g) (v : Int) {a : Option Addr} {cap : Nat} {rules : List Int} (hr : Ints w w.heap.size a rules) (hc : rules.length ≤ cap) (hc2 : cap ≤ maxLen) (hcap : a = none → cap = 0) (aa to : Int) :
    Calls Try.prog 5 #[GV g, .int .i64 v, .slice a rules.length cap, .int .i64 aa, .int .i64 to] w fun e w' => e = .returned (.bool true) ∧ Below w.heap.size w w' := by
  have HR := Lib.hid (show Lst w a rules from hr)
  clear hr
  have HS := Lib.hid (box_start hg)
  unfold GV
  go_enter Try.func5, Try.ntmps5
  go_wp2_with fail
  refine (alive_any _).mono ?_
  rintro e w1 ⟨rfl, hb⟩
  have H1 := Lib.hid (HS.out.go hb)
  have g0 := H1.out.c0
  have g1 := H1.out.c1
  have g2 := H1.out.c2
  clear hb HS
  go_wp2_with fail
  refine (few_bx H1.out).mono ?_
  rintro e w2 ⟨b, rfl, hb, hsm⟩
  have H2 := Lib.hid (H1.out.go hb)
  clear hb g0 g1 g2 H1
  cases b
  · go_wp2
    go_ret
    exact ⟨rfl, H2.out.grow⟩
  have HSM := Lib.hid (hsm rfl)
  clear hsm
  by_cases hlong_rules : (60 : Int) < rules.length
  · go_wp2
    go_ret
    exact ⟨rfl, H2.out.grow⟩
  by_cases hlz : rules.length = 0
  · have hlz' : ((rules.length : Int) == 0) = true := by simp [hlz]
    go_wp2
    go_ret
    exact ⟨rfl, H2.out.grow⟩
  have hlz' : ((rules.length : Int) == 0) = false := by rw [beq_eq_false_iff_ne]; omega
  have g0 := H2.out.c0
  have g1 := H2.out.c1
  have g2 := H2.out.c2
  go_wp2_with fail
  refine (right_bx H2.out).mono ?_
  rintro e w3 ⟨b, rfl, hb, hok⟩
  have H3 := Lib.hid (H2.out.go hb)
  clear hb g0 g1 g2 H2
  cases b
  · go_wp2
    go_ret
    exact ⟨rfl, H3.out.grow⟩
  have HOK := Lib.hid (hok rfl)
  clear hok
  have g0 := H3.out.c0
  have g1 := H3.out.c1
  have g2 := H3.out.c2
  by_cases hv0 : v < 0
  · go_wp2
    go_ret
    exact ⟨rfl, H3.out.grow⟩
  by_cases hv1 : (g.vars.length : Int) ≤ v
  · go_wp2
    go_ret
    exact ⟨rfl, H3.out.grow⟩

  go_wp2_with fail
  refine (of_bx H3.out HSM.out HOK.out (HR.out.go H3.out.grow) hc hc2 (by omega) (by omega)).mono ?_
  rintro e w4 ⟨hb, ⟨hz, t, he, ht1, ht2, ht3, ht4, ht5, ht6⟩ | ⟨hz, he⟩⟩
  rotate_left
  · subst he
    have H4 := Lib.hid (H3.out.go hb)
    generalize hY : yieldS g [v] rules = Y at *
    clear hY
    have hz' : (Y.2 != 0) = true := by simp [hz]
    clear hz
    go_wp2
    go_ret
    exact ⟨rfl, H4.out.grow⟩
  unfold MT.ptr at he
  subst he
  have H4 := Lib.hid (H3.out.go hb)
  have hlo := H3.out.size
  have HT := Lib.hid (show Tre w3.heap.size w4 t from ht5)
  have HV := Lib.hid ht4
  have HND := Lib.hid ht6
  have hsz : t.pt.size ≤ 1000 := by
    have := valid_size HSM.out _ ht4
    rw [ht2] at this
    omega
  have HSZ := Lib.hid hsz
  clear hb ht1 ht2 ht3 ht4 ht5 ht6 hz H3 hsz HR hg
  obtain ⟨tb, htb⟩ : ∃ tb, t.blk = tb := ⟨_, rfl⟩
  have HTB := Lib.hid htb
  rw [htb]
  clear htb g0 g1 g2
  go_wp2
  go_loopw [3, 13] (fun av xv wr => ∃ (m n : Nat) (x : MT), m ≤ 65535 ∧ av = .int .i64 m ∧ xv = .pointer (some ⟨x.blk, 0, none⟩) ∧ wr = w4.drewN n ∧ Hid (x ∈ t.subs)) (fun av _ _ => (intOf av).toNat)
  case atStart =>
    obtain ⟨m, hm, hm2⟩ := and_val aa
    exact ⟨m, 0, t, hm2, by rw [← hm], by rw [HTB.out], rfl, MT.self_subs t⟩
  case round =>
    obtain ⟨m, n, x, hm, rfl, rfl, rfl, hx⟩ := hrel
    obtain ⟨xb, xv, xs, xr, xk⟩ := x
    have hat := (show MT.At w4 w3.heap.size t from HT.out).sub hx.out
    obtain ⟨ka, kc, rfl, -, hkc1, hkc2, hkc⟩ := hat.reads
    have HKC := Lib.hid hkc
    have h0 : w4.cell? ⟨xb, 0, none⟩ = some (.int .i64 xs) := cell_of_block hat.2.1
    have h1 : w4.cell? ⟨xb, 1, none⟩ = some (.int .i64 xr) := cell_of_block hat.2.1
    have h2 : w4.cell? ⟨xb, 2, none⟩ = some (.slice ka xk.length kc) := cell_of_block hat.2.1
    have hxlo := hat.1
    have hxb := lt_of_block hat.2.1
    have HAT := Lib.hid hat
    clear hat hkc
    dsimp only [MT.blk]
    by_cases hgo : 0 < m ∧ 0 < xk.length
    · have hi1 : (0 : Int) < m := by omega
      have hi2 : (0 : Int) < xk.length := by omega
      have hmod : m % xk.length < xk.length := Nat.mod_lt _ (by omega)
      obtain ⟨gb, rfl, hcp⟩ := HKC.out (m % xk.length) hmod
      have hcp2 : w4.cell? ⟨gb, m % xk.length, none⟩ = some xk[m % xk.length].ptr := hcp
      have HKS := Lib.hid (MT.kid_subs hx.out (List.getElem_mem hmod))
      dsimp only [MT.ptr] at hcp2
      have hq0 : ((xk.length : Int) == 0) = false := by rw [beq_eq_false_iff_ne]; omega
      have hdv := div_run m hm
      have hrr := rem_run m xk.length (by omega)
      have hrm : (m : Int).tmod (xk.length : Int) = ((m % xk.length : Nat) : Int) := by rw [Int.ofNat_tmod]
      have hql : ((m % xk.length : Nat) : Int) < xk.length := by omega
      go_wp2
      go_quiet (fail)
      go_wp2
      go_roundw
      case rel => exact ⟨m / 2, n + nq, xk[m % xk.length], by omega, by congr 1, rfl, rfl, HKS.out⟩
      case measure => simp [intOf]; omega
    · have HXW := Lib.hid (H4.out.go (grow_n w4 n))
      have HTW := Lib.hid (show Tre w3.heap.size (w4.drewN n) t from HT.out.go (grow_n w4 n))
      have q0 : (w4.drewN n).cell? ⟨xb, 0, none⟩ = some (.int .i64 xs) := h0
      have q1 : (w4.drewN n).cell? ⟨xb, 1, none⟩ = some (.int .i64 xr) := h1
      have q2 : (w4.drewN n).cell? ⟨xb, 2, none⟩ = some (.slice ka xk.length kc) := h2
      have hxW : xb < (w4.drewN n).heap.size := hxb
      have hsW : w3.heap.size ≤ (w4.drewN n).heap.size := by show w3.heap.size ≤ w4.heap.size; omega
      clear h0 h1 h2 HKC HAT hxb HT H4
      generalize w4.drewN n = W at *
      have f1 : W.frozen? ⟨xb, 1, none⟩ = false := free_of_block ((show MT.At W w3.heap.size t from HTW.out).sub hx.out).2.1
      have HX1 := Lib.hid (box_set (xb := xb) (k := 1) HXW.out (by omega) (.int .i64 to))
      have HT1 := Lib.hid (tre_set HTW.out hx.out to)
      have gW0 := HX1.out.c0
      have gW1 := HX1.out.c1
      have gW2 := HX1.out.c2
      have hsW1 : w3.heap.size ≤ (W.setCell ⟨xb, 1, none⟩ (.int .i64 to)).heap.size := by simpa [World.setCell] using hsW
      have hxW1 : xb < (W.setCell ⟨xb, 1, none⟩ (.int .i64 to)).heap.size := by simpa [World.setCell] using hxW
      have hcs : (W.setCell ⟨xb, 1, none⟩ (.int .i64 to)).cell? ⟨xb, 1, none⟩ = some (.int .i64 to) := World.cell?_setCell_same' _ _ _ (by rw [q1]; rfl)
      have hfs : (W.setCell ⟨xb, 1, none⟩ (.int .i64 to)).frozen? ⟨xb, 1, none⟩ = false := by rw [World.frozen?_setCell]; exact f1
      obtain ⟨i0, hi0, hz0, hz1, hz2⟩ := info_parts info29
      have hex : ¬ (0 : Int) < m ∨ ((0 : Int) < m ∧ ¬ (0 : Int) < xk.length) := by omega
      have hxk : xk.length ≤ 1000 := by
        have h5 := sub_size hx.out
        have := HSZ.out
        rw [MT.pt_node, PT.size] at h5
        have := PT.len_le (xk.map MT.pt)
        simp at this
        omega
      rcases hex with he1 | ⟨he1, he2⟩
      all_goals
        by_cases c1 : xs < 0
        · have c2 : ¬ (0 : Int) ≤ xs := by omega
          have c3 : decide ((0 : Int) ≤ xs) = false := decide_eq_false c2
          generalize hp : (to == (-1 : Int)) = p at *
          have HF := Lib.hid (show fitsB g xs xr to = p by unfold fitsB; rw [if_pos c1, ← hp]; rfl)
          have hpp : (p != p) = false := by cases p <;> rfl
          have HVA := fun n => Lib.hid (valid_bx (HX1.out.go (grow_n _ n)) HSM.out (HT1.out.go (grow_n _ n)) (by rw [MT.setR_size]; have := HSZ.out; omega))
          rw [bent_val HOK.out HND.out hx.out HV.out, HF.out, MT.setR_blk, HTB.out] at HVA
          go_wp2
          go_quiet (fail)
          go_wp2_with fail
          refine (HVA _).out.mono ?_
          rintro e w5 ⟨rfl, hg5⟩
          have hg5' : Grow (W.setCell ⟨xb, 1, none⟩ (.int .i64 to)) w5 := (grow_n _ _).trans hg5
          have HX5 := Lib.hid (HX1.out.go hg5')
          have HT5 := Lib.hid (HT1.out.go hg5')
          have hs5 : w3.heap.size ≤ w5.heap.size := Nat.le_trans hsW1 hg5'.size
          have q1 : w5.cell? ⟨xb, 1, none⟩ = some (.int .i64 to) := (World.cell?_of_block (hg5'.block xb hxW1)).trans hcs
          have f1 : w5.frozen? ⟨xb, 1, none⟩ = false := (World.frozen?_of_block (hg5'.block xb hxW1)).trans hfs
          have HT6 := Lib.hid (tre_restore HT5.out HND.out hx.out)
          have HX6 := Lib.hid (box_set (xb := xb) (k := 1) HX5.out (by omega) (.int .i64 xr))
          have HVB := Lib.hid (valid_bx HX6.out HSM.out HT6.out (by have := HSZ.out; omega))
          rw [HV.out, HTB.out] at HVB
          have hs6 : w3.heap.size ≤ (w5.setCell ⟨xb, 1, none⟩ (.int .i64 xr)).heap.size := by simpa [World.setCell] using hs5
          have gc0 := HX6.out.c0
          have gc1 := HX6.out.c1
          have gc2 := HX6.out.c2
          have gd0 := HX5.out.c0
          have gd1 := HX5.out.c1
          have gd2 := HX5.out.c2
          clear hg5 hg5' HVA hcs hfs
          go_wp2_with fail
          refine HVB.out.mono ?_
          rintro e w6 ⟨rfl, hg6⟩
          have HX7 := Lib.hid (HX6.out.go hg6)
          have HT7 := Lib.hid (HT6.out.go hg6)
          have hs7 : w3.heap.size ≤ w6.heap.size := Nat.le_trans hs6 hg6.size
          have hxa := (show MT.At w6 w3.heap.size t from HT7.out).sub hx.out
          have q2 : w6.cell? ⟨xb, 2, none⟩ = some (.slice ka xk.length kc) := cell_of_block hxa.2.1
          have f2 : w6.frozen? ⟨xb, 2, none⟩ = false := free_of_block hxa.2.1
          have hx6 := lt_of_block hxa.2.1
          have HRW : Hid (((w6.alloc (.cells #[.int .i64 0, .int .i64 (-1), .slice none 0 0] 45)).alloc (.cells #[.pointer (some ⟨w6.heap.size, 0, none⟩)] 29)).ownsRow w3.heap.size 29 1 (.slice ka xk.length kc) xk.length (xk.map MT.ptr)) := row_kept hxa.2.2.1 fun k hk => by
            have := (row_lt hxa.2.2.1 hk).2
            exact (Below.heap_alloc _ _ _ (by simp; omega)).trans (Below.heap_alloc _ _ _ this)
          have HNO : Hid (∀ k, (Value.slice ka xk.length kc).ownBlock = some k → k ≠ xb) := Lib.hid (row_not hxa.2.1 hxa.2.2.1)
          clear hxa q1 f1 gc0 gc1 gc2 gd0 gd1 gd2 hg6 HVB HX6 HT6 HT5 HX5
          go_wp2_with (first
            | (at_builtin; (refine wpList_append_lies _ rfl (.tmp 152) (.tmp 155) 43 rfl w3.heap.size 29 i0 _ 1 8 Try.underlying43 hi0 hz0 hz1 hz2 rfl (by decide) (.slice ka xk.length kc) xk.length _ (by rfl) HRW.out ⟨w6.heap.size + 1, 0, none⟩ 1 1 [.pointer (some ⟨w6.heap.size, 0, none⟩)] (by rfl) (by rfl) (World.news_of_block (cs := #[.pointer (some ⟨w6.heap.size, 0, none⟩)]) (t := 29) (fr := (0, 0)) (by have := heap_alloc_this (w6.alloc (.cells #[.int .i64 0, .int .i64 (-1), .slice none 0 0] 45)) (.cells #[.pointer (some ⟨w6.heap.size, 0, none⟩)] 29); rw [World.size_alloc] at this; exact this)) (by simp [Value.oneCell']) (by omega) (by simp only [maxLen]; omega) (by omega) (by simp; omega) (w6.heap.size + 2) (by simp) ?_); intro gg cap' w7 hown1 hgrow hat hlt2
               have q3 : w7.cell? ⟨xb, 2, none⟩ = some (.slice ka xk.length kc) := (hgrow.cell ((World.cell?_alloc_past _ _ _ (by simp; omega)).trans ((World.cell?_alloc_past _ _ _ hx6).trans q2)) (fun e => HNO.out _ e.symm rfl))
               have f3 : w7.frozen? ⟨xb, 2, none⟩ = false := ((hgrow.frozen_far _ (by simp; omega) (fun e => HNO.out _ e.symm rfl)).trans ((World.frozen?_alloc_past _ _ _ (by simp; omega)).trans ((World.frozen?_alloc_past _ _ _ hx6).trans f2)))
               have HT8 := Lib.hid (tre_add HT7.out HND.out hx.out hs7 hgrow hown1 hat)
               have hb8 : Below w3.heap.size w6 w7 := (((Below.refl _ _).alloc hs7 _).alloc (by simp; omega) _).trans ((Below.refl _ _).grown hgrow (by simp; omega) fun j ej => (row_lt HRW.out ej).1)
               have HX8 := Lib.hid (box_set (xb := xb) (k := 2) (show Box w g w7 from Boxed.next1 HX7.out (Nat.le_refl _) (hb8.mono (by omega))) (by omega : w.heap.size < xb) (.slice (some ⟨gg, 0, none⟩) (xk.length + 1) cap'))
               have HVC := Lib.hid (valid_bx HX8.out HSM.out HT8.out (by have := MT.addK_size xb (.slice (some ⟨gg, 0, none⟩) (xk.length + 1) cap') (.node w6.heap.size (.slice none 0 0) 0 (-1) []) t rfl; have := HSZ.out; omega))
               rw [add_val hx.out, MT.addK_blk, HTB.out] at HVC
               have gc0 := HX8.out.c0
               have gc1 := HX8.out.c1
               have gc2 := HX8.out.c2)
            | (go_at_call 20; refine HVC.out.mono ?_; rintro e w9 ⟨rfl, hg9⟩))
          go_ret
          exact ⟨rfl, (HX8.out.go hg9).grow⟩
        have c2 : (0 : Int) ≤ xs := by omega
        have c3 : decide ((0 : Int) ≤ xs) = true := decide_eq_true c2
        by_cases d1 : to < 0
        · have d2 : decide ((0 : Int) ≤ to) = false := decide_eq_false (by omega)
          have HF := Lib.hid (show fitsB g xs xr to = false by unfold fitsB getR; rw [if_neg c1, if_neg (by omega)])
          have HVA := fun n => Lib.hid (valid_bx (HX1.out.go (grow_n _ n)) HSM.out (HT1.out.go (grow_n _ n)) (by rw [MT.setR_size]; have := HSZ.out; omega))
          rw [bent_val HOK.out HND.out hx.out HV.out, HF.out, MT.setR_blk, HTB.out] at HVA
          go_wp2
          go_quiet (fail)
          go_wp2_with fail
          refine (HVA _).out.mono ?_
          rintro e w5 ⟨rfl, hg5⟩
          have hg5' : Grow (W.setCell ⟨xb, 1, none⟩ (.int .i64 to)) w5 := (grow_n _ _).trans hg5
          have HX5 := Lib.hid (HX1.out.go hg5')
          have HT5 := Lib.hid (HT1.out.go hg5')
          have hs5 : w3.heap.size ≤ w5.heap.size := Nat.le_trans hsW1 hg5'.size
          have q1 : w5.cell? ⟨xb, 1, none⟩ = some (.int .i64 to) := (World.cell?_of_block (hg5'.block xb hxW1)).trans hcs
          have f1 : w5.frozen? ⟨xb, 1, none⟩ = false := (World.frozen?_of_block (hg5'.block xb hxW1)).trans hfs
          have HT6 := Lib.hid (tre_restore HT5.out HND.out hx.out)
          have HX6 := Lib.hid (box_set (xb := xb) (k := 1) HX5.out (by omega) (.int .i64 xr))
          have HVB := Lib.hid (valid_bx HX6.out HSM.out HT6.out (by have := HSZ.out; omega))
          rw [HV.out, HTB.out] at HVB
          have hs6 : w3.heap.size ≤ (w5.setCell ⟨xb, 1, none⟩ (.int .i64 xr)).heap.size := by simpa [World.setCell] using hs5
          have gc0 := HX6.out.c0
          have gc1 := HX6.out.c1
          have gc2 := HX6.out.c2
          have gd0 := HX5.out.c0
          have gd1 := HX5.out.c1
          have gd2 := HX5.out.c2
          clear hg5 hg5' HVA hcs hfs
          go_wp2_with fail
          refine HVB.out.mono ?_
          rintro e w6 ⟨rfl, hg6⟩
          have HX7 := Lib.hid (HX6.out.go hg6)
          have HT7 := Lib.hid (HT6.out.go hg6)
          have hs7 : w3.heap.size ≤ w6.heap.size := Nat.le_trans hs6 hg6.size
          have hxa := (show MT.At w6 w3.heap.size t from HT7.out).sub hx.out
          have q2 : w6.cell? ⟨xb, 2, none⟩ = some (.slice ka xk.length kc) := cell_of_block hxa.2.1
          have f2 : w6.frozen? ⟨xb, 2, none⟩ = false := free_of_block hxa.2.1
          have hx6 := lt_of_block hxa.2.1
          have HRW : Hid (((w6.alloc (.cells #[.int .i64 0, .int .i64 (-1), .slice none 0 0] 45)).alloc (.cells #[.pointer (some ⟨w6.heap.size, 0, none⟩)] 29)).ownsRow w3.heap.size 29 1 (.slice ka xk.length kc) xk.length (xk.map MT.ptr)) := row_kept hxa.2.2.1 fun k hk => by
            have := (row_lt hxa.2.2.1 hk).2
            exact (Below.heap_alloc _ _ _ (by simp; omega)).trans (Below.heap_alloc _ _ _ this)
          have HNO : Hid (∀ k, (Value.slice ka xk.length kc).ownBlock = some k → k ≠ xb) := Lib.hid (row_not hxa.2.1 hxa.2.2.1)
          clear hxa q1 f1 gc0 gc1 gc2 gd0 gd1 gd2 hg6 HVB HX6 HT6 HT5 HX5
          go_wp2_with (first
            | (at_builtin; (refine wpList_append_lies _ rfl (.tmp 152) (.tmp 155) 43 rfl w3.heap.size 29 i0 _ 1 8 Try.underlying43 hi0 hz0 hz1 hz2 rfl (by decide) (.slice ka xk.length kc) xk.length _ (by rfl) HRW.out ⟨w6.heap.size + 1, 0, none⟩ 1 1 [.pointer (some ⟨w6.heap.size, 0, none⟩)] (by rfl) (by rfl) (World.news_of_block (cs := #[.pointer (some ⟨w6.heap.size, 0, none⟩)]) (t := 29) (fr := (0, 0)) (by have := heap_alloc_this (w6.alloc (.cells #[.int .i64 0, .int .i64 (-1), .slice none 0 0] 45)) (.cells #[.pointer (some ⟨w6.heap.size, 0, none⟩)] 29); rw [World.size_alloc] at this; exact this)) (by simp [Value.oneCell']) (by omega) (by simp only [maxLen]; omega) (by omega) (by simp; omega) (w6.heap.size + 2) (by simp) ?_); intro gg cap' w7 hown1 hgrow hat hlt2
               have q3 : w7.cell? ⟨xb, 2, none⟩ = some (.slice ka xk.length kc) := (hgrow.cell ((World.cell?_alloc_past _ _ _ (by simp; omega)).trans ((World.cell?_alloc_past _ _ _ hx6).trans q2)) (fun e => HNO.out _ e.symm rfl))
               have f3 : w7.frozen? ⟨xb, 2, none⟩ = false := ((hgrow.frozen_far _ (by simp; omega) (fun e => HNO.out _ e.symm rfl)).trans ((World.frozen?_alloc_past _ _ _ (by simp; omega)).trans ((World.frozen?_alloc_past _ _ _ hx6).trans f2)))
               have HT8 := Lib.hid (tre_add HT7.out HND.out hx.out hs7 hgrow hown1 hat)
               have hb8 : Below w3.heap.size w6 w7 := (((Below.refl _ _).alloc hs7 _).alloc (by simp; omega) _).trans ((Below.refl _ _).grown hgrow (by simp; omega) fun j ej => (row_lt HRW.out ej).1)
               have HX8 := Lib.hid (box_set (xb := xb) (k := 2) (show Box w g w7 from Boxed.next1 HX7.out (Nat.le_refl _) (hb8.mono (by omega))) (by omega : w.heap.size < xb) (.slice (some ⟨gg, 0, none⟩) (xk.length + 1) cap'))
               have HVC := Lib.hid (valid_bx HX8.out HSM.out HT8.out (by have := MT.addK_size xb (.slice (some ⟨gg, 0, none⟩) (xk.length + 1) cap') (.node w6.heap.size (.slice none 0 0) 0 (-1) []) t rfl; have := HSZ.out; omega))
               rw [add_val hx.out, MT.addK_blk, HTB.out] at HVC
               have gc0 := HX8.out.c0
               have gc1 := HX8.out.c1
               have gc2 := HX8.out.c2)
            | (go_at_call 20; refine HVC.out.mono ?_; rintro e w9 ⟨rfl, hg9⟩))
          go_ret
          exact ⟨rfl, (HX8.out.go hg9).grow⟩
        have d2 : decide ((0 : Int) ≤ to) = true := decide_eq_true (by omega)
        by_cases d3 : to < (g.rules.length : Int)
        rotate_left
        · have d4 : decide (to < (g.rules.length : Int)) = false := decide_eq_false d3
          have HF := Lib.hid (show fitsB g xs xr to = false by unfold fitsB getR; rw [if_neg c1, if_pos (by omega), List.getElem?_eq_none (by omega)])
          have HVA := fun n => Lib.hid (valid_bx (HX1.out.go (grow_n _ n)) HSM.out (HT1.out.go (grow_n _ n)) (by rw [MT.setR_size]; have := HSZ.out; omega))
          rw [bent_val HOK.out HND.out hx.out HV.out, HF.out, MT.setR_blk, HTB.out] at HVA
          go_wp2
          go_quiet (fail)
          go_wp2_with fail
          refine (HVA _).out.mono ?_
          rintro e w5 ⟨rfl, hg5⟩
          have hg5' : Grow (W.setCell ⟨xb, 1, none⟩ (.int .i64 to)) w5 := (grow_n _ _).trans hg5
          have HX5 := Lib.hid (HX1.out.go hg5')
          have HT5 := Lib.hid (HT1.out.go hg5')
          have hs5 : w3.heap.size ≤ w5.heap.size := Nat.le_trans hsW1 hg5'.size
          have q1 : w5.cell? ⟨xb, 1, none⟩ = some (.int .i64 to) := (World.cell?_of_block (hg5'.block xb hxW1)).trans hcs
          have f1 : w5.frozen? ⟨xb, 1, none⟩ = false := (World.frozen?_of_block (hg5'.block xb hxW1)).trans hfs
          have HT6 := Lib.hid (tre_restore HT5.out HND.out hx.out)
          have HX6 := Lib.hid (box_set (xb := xb) (k := 1) HX5.out (by omega) (.int .i64 xr))
          have HVB := Lib.hid (valid_bx HX6.out HSM.out HT6.out (by have := HSZ.out; omega))
          rw [HV.out, HTB.out] at HVB
          have hs6 : w3.heap.size ≤ (w5.setCell ⟨xb, 1, none⟩ (.int .i64 xr)).heap.size := by simpa [World.setCell] using hs5
          have gc0 := HX6.out.c0
          have gc1 := HX6.out.c1
          have gc2 := HX6.out.c2
          have gd0 := HX5.out.c0
          have gd1 := HX5.out.c1
          have gd2 := HX5.out.c2
          clear hg5 hg5' HVA hcs hfs
          go_wp2_with fail
          refine HVB.out.mono ?_
          rintro e w6 ⟨rfl, hg6⟩
          have HX7 := Lib.hid (HX6.out.go hg6)
          have HT7 := Lib.hid (HT6.out.go hg6)
          have hs7 : w3.heap.size ≤ w6.heap.size := Nat.le_trans hs6 hg6.size
          have hxa := (show MT.At w6 w3.heap.size t from HT7.out).sub hx.out
          have q2 : w6.cell? ⟨xb, 2, none⟩ = some (.slice ka xk.length kc) := cell_of_block hxa.2.1
          have f2 : w6.frozen? ⟨xb, 2, none⟩ = false := free_of_block hxa.2.1
          have hx6 := lt_of_block hxa.2.1
          have HRW : Hid (((w6.alloc (.cells #[.int .i64 0, .int .i64 (-1), .slice none 0 0] 45)).alloc (.cells #[.pointer (some ⟨w6.heap.size, 0, none⟩)] 29)).ownsRow w3.heap.size 29 1 (.slice ka xk.length kc) xk.length (xk.map MT.ptr)) := row_kept hxa.2.2.1 fun k hk => by
            have := (row_lt hxa.2.2.1 hk).2
            exact (Below.heap_alloc _ _ _ (by simp; omega)).trans (Below.heap_alloc _ _ _ this)
          have HNO : Hid (∀ k, (Value.slice ka xk.length kc).ownBlock = some k → k ≠ xb) := Lib.hid (row_not hxa.2.1 hxa.2.2.1)
          clear hxa q1 f1 gc0 gc1 gc2 gd0 gd1 gd2 hg6 HVB HX6 HT6 HT5 HX5
          go_wp2_with (first
            | (at_builtin; (refine wpList_append_lies _ rfl (.tmp 152) (.tmp 155) 43 rfl w3.heap.size 29 i0 _ 1 8 Try.underlying43 hi0 hz0 hz1 hz2 rfl (by decide) (.slice ka xk.length kc) xk.length _ (by rfl) HRW.out ⟨w6.heap.size + 1, 0, none⟩ 1 1 [.pointer (some ⟨w6.heap.size, 0, none⟩)] (by rfl) (by rfl) (World.news_of_block (cs := #[.pointer (some ⟨w6.heap.size, 0, none⟩)]) (t := 29) (fr := (0, 0)) (by have := heap_alloc_this (w6.alloc (.cells #[.int .i64 0, .int .i64 (-1), .slice none 0 0] 45)) (.cells #[.pointer (some ⟨w6.heap.size, 0, none⟩)] 29); rw [World.size_alloc] at this; exact this)) (by simp [Value.oneCell']) (by omega) (by simp only [maxLen]; omega) (by omega) (by simp; omega) (w6.heap.size + 2) (by simp) ?_); intro gg cap' w7 hown1 hgrow hat hlt2
               have q3 : w7.cell? ⟨xb, 2, none⟩ = some (.slice ka xk.length kc) := (hgrow.cell ((World.cell?_alloc_past _ _ _ (by simp; omega)).trans ((World.cell?_alloc_past _ _ _ hx6).trans q2)) (fun e => HNO.out _ e.symm rfl))
               have f3 : w7.frozen? ⟨xb, 2, none⟩ = false := ((hgrow.frozen_far _ (by simp; omega) (fun e => HNO.out _ e.symm rfl)).trans ((World.frozen?_alloc_past _ _ _ (by simp; omega)).trans ((World.frozen?_alloc_past _ _ _ hx6).trans f2)))
               have HT8 := Lib.hid (tre_add HT7.out HND.out hx.out hs7 hgrow hown1 hat)
               have hb8 : Below w3.heap.size w6 w7 := (((Below.refl _ _).alloc hs7 _).alloc (by simp; omega) _).trans ((Below.refl _ _).grown hgrow (by simp; omega) fun j ej => (row_lt HRW.out ej).1)
               have HX8 := Lib.hid (box_set (xb := xb) (k := 2) (show Box w g w7 from Boxed.next1 HX7.out (Nat.le_refl _) (hb8.mono (by omega))) (by omega : w.heap.size < xb) (.slice (some ⟨gg, 0, none⟩) (xk.length + 1) cap'))
               have HVC := Lib.hid (valid_bx HX8.out HSM.out HT8.out (by have := MT.addK_size xb (.slice (some ⟨gg, 0, none⟩) (xk.length + 1) cap') (.node w6.heap.size (.slice none 0 0) 0 (-1) []) t rfl; have := HSZ.out; omega))
               rw [add_val hx.out, MT.addK_blk, HTB.out] at HVC
               have gc0 := HX8.out.c0
               have gc1 := HX8.out.c1
               have gc2 := HX8.out.c2)
            | (go_at_call 20; refine HVC.out.mono ?_; rintro e w9 ⟨rfl, hg9⟩))
          go_ret
          exact ⟨rfl, (HX8.out.go hg9).grow⟩
        have d4 : decide (to < (g.rules.length : Int)) = true := decide_eq_true d3
        have hri0 : (0 : Int) ≤ to := by omega
        obtain ⟨rn, rfl⟩ : ∃ rn : Nat, to = rn := ⟨to.toNat, by omega⟩
        have hrn : rn < g.rules.length := by omega
        obtain ⟨rb, ro, hra, hrb, k0, -⟩ := HX1.out.gram'.rules rn hrn
        rw [hra] at gW2
        have HGR := Lib.hid (getR_lt (g := g) hrn)
        by_cases d5 : g.rules[rn].left = xs
        · have d6 : (g.rules[rn].left == xs) = true := by simp [d5]
          generalize hp : ((rn : Int) == xr) = p at *
          have HF := Lib.hid (show fitsB g xs xr rn = p by unfold fitsB; rw [if_neg c1, HGR.out, ← hp]; simp [d5]; rfl)
          have hpp : (p != p) = false := by cases p <;> rfl
          have HRA := Lib.hid hra
          clear hra d5
          have HVA := fun n => Lib.hid (valid_bx (HX1.out.go (grow_n _ n)) HSM.out (HT1.out.go (grow_n _ n)) (by rw [MT.setR_size]; have := HSZ.out; omega))
          rw [bent_val HOK.out HND.out hx.out HV.out, HF.out, MT.setR_blk, HTB.out] at HVA
          go_wp2
          go_quiet (fail)
          rw [← HRA.out] at gW2
          go_wp2_with fail
          refine (HVA _).out.mono ?_
          rintro e w5 ⟨rfl, hg5⟩
          have hg5' : Grow (W.setCell ⟨xb, 1, none⟩ (.int .i64 (rn : Int))) w5 := (grow_n _ _).trans hg5
          have HX5 := Lib.hid (HX1.out.go hg5')
          have HT5 := Lib.hid (HT1.out.go hg5')
          have hs5 : w3.heap.size ≤ w5.heap.size := Nat.le_trans hsW1 hg5'.size
          have q1 : w5.cell? ⟨xb, 1, none⟩ = some (.int .i64 (rn : Int)) := (World.cell?_of_block (hg5'.block xb hxW1)).trans hcs
          have f1 : w5.frozen? ⟨xb, 1, none⟩ = false := (World.frozen?_of_block (hg5'.block xb hxW1)).trans hfs
          have HT6 := Lib.hid (tre_restore HT5.out HND.out hx.out)
          have HX6 := Lib.hid (box_set (xb := xb) (k := 1) HX5.out (by omega) (.int .i64 xr))
          have HVB := Lib.hid (valid_bx HX6.out HSM.out HT6.out (by have := HSZ.out; omega))
          rw [HV.out, HTB.out] at HVB
          have hs6 : w3.heap.size ≤ (w5.setCell ⟨xb, 1, none⟩ (.int .i64 xr)).heap.size := by simpa [World.setCell] using hs5
          have gc0 := HX6.out.c0
          have gc1 := HX6.out.c1
          have gc2 := HX6.out.c2
          have gd0 := HX5.out.c0
          have gd1 := HX5.out.c1
          have gd2 := HX5.out.c2
          clear hg5 hg5' HVA hcs hfs
          go_wp2_with fail
          refine HVB.out.mono ?_
          rintro e w6 ⟨rfl, hg6⟩
          have HX7 := Lib.hid (HX6.out.go hg6)
          have HT7 := Lib.hid (HT6.out.go hg6)
          have hs7 : w3.heap.size ≤ w6.heap.size := Nat.le_trans hs6 hg6.size
          have hxa := (show MT.At w6 w3.heap.size t from HT7.out).sub hx.out
          have q2 : w6.cell? ⟨xb, 2, none⟩ = some (.slice ka xk.length kc) := cell_of_block hxa.2.1
          have f2 : w6.frozen? ⟨xb, 2, none⟩ = false := free_of_block hxa.2.1
          have hx6 := lt_of_block hxa.2.1
          have HRW : Hid (((w6.alloc (.cells #[.int .i64 0, .int .i64 (-1), .slice none 0 0] 45)).alloc (.cells #[.pointer (some ⟨w6.heap.size, 0, none⟩)] 29)).ownsRow w3.heap.size 29 1 (.slice ka xk.length kc) xk.length (xk.map MT.ptr)) := row_kept hxa.2.2.1 fun k hk => by
            have := (row_lt hxa.2.2.1 hk).2
            exact (Below.heap_alloc _ _ _ (by simp; omega)).trans (Below.heap_alloc _ _ _ this)
          have HNO : Hid (∀ k, (Value.slice ka xk.length kc).ownBlock = some k → k ≠ xb) := Lib.hid (row_not hxa.2.1 hxa.2.2.1)
          clear hxa q1 f1 gc0 gc1 gc2 gd0 gd1 gd2 hg6 HVB HX6 HT6 HT5 HX5
          go_wp2_with (first
            | (at_builtin; (refine wpList_append_lies _ rfl (.tmp 152) (.tmp 155) 43 rfl w3.heap.size 29 i0 _ 1 8 Try.underlying43 hi0 hz0 hz1 hz2 rfl (by decide) (.slice ka xk.length kc) xk.length _ (by rfl) HRW.out ⟨w6.heap.size + 1, 0, none⟩ 1 1 [.pointer (some ⟨w6.heap.size, 0, none⟩)] (by rfl) (by rfl) (World.news_of_block (cs := #[.pointer (some ⟨w6.heap.size, 0, none⟩)]) (t := 29) (fr := (0, 0)) (by have := heap_alloc_this (w6.alloc (.cells #[.int .i64 0, .int .i64 (-1), .slice none 0 0] 45)) (.cells #[.pointer (some ⟨w6.heap.size, 0, none⟩)] 29); rw [World.size_alloc] at this; exact this)) (by simp [Value.oneCell']) (by omega) (by simp only [maxLen]; omega) (by omega) (by simp; omega) (w6.heap.size + 2) (by simp) ?_); intro gg cap' w7 hown1 hgrow hat hlt2
               have q3 : w7.cell? ⟨xb, 2, none⟩ = some (.slice ka xk.length kc) := (hgrow.cell ((World.cell?_alloc_past _ _ _ (by simp; omega)).trans ((World.cell?_alloc_past _ _ _ hx6).trans q2)) (fun e => HNO.out _ e.symm rfl))
               have f3 : w7.frozen? ⟨xb, 2, none⟩ = false := ((hgrow.frozen_far _ (by simp; omega) (fun e => HNO.out _ e.symm rfl)).trans ((World.frozen?_alloc_past _ _ _ (by simp; omega)).trans ((World.frozen?_alloc_past _ _ _ hx6).trans f2)))
               have HT8 := Lib.hid (tre_add HT7.out HND.out hx.out hs7 hgrow hown1 hat)
               have hb8 : Below w3.heap.size w6 w7 := (((Below.refl _ _).alloc hs7 _).alloc (by simp; omega) _).trans ((Below.refl _ _).grown hgrow (by simp; omega) fun j ej => (row_lt HRW.out ej).1)
               have HX8 := Lib.hid (box_set (xb := xb) (k := 2) (show Box w g w7 from Boxed.next1 HX7.out (Nat.le_refl _) (hb8.mono (by omega))) (by omega : w.heap.size < xb) (.slice (some ⟨gg, 0, none⟩) (xk.length + 1) cap'))
               have HVC := Lib.hid (valid_bx HX8.out HSM.out HT8.out (by have := MT.addK_size xb (.slice (some ⟨gg, 0, none⟩) (xk.length + 1) cap') (.node w6.heap.size (.slice none 0 0) 0 (-1) []) t rfl; have := HSZ.out; omega))
               rw [add_val hx.out, MT.addK_blk, HTB.out] at HVC
               have gc0 := HX8.out.c0
               have gc1 := HX8.out.c1
               have gc2 := HX8.out.c2)
            | (go_at_call 20; refine HVC.out.mono ?_; rintro e w9 ⟨rfl, hg9⟩))
          go_ret
          exact ⟨rfl, (HX8.out.go hg9).grow⟩
        · have d6 : (g.rules[rn].left == xs) = false := by simp [d5]
          have HF := Lib.hid (show fitsB g xs xr rn = false by unfold fitsB; rw [if_neg c1, HGR.out]; simp [d5])
          have HRA := Lib.hid hra
          clear hra d5
          have HVA := fun n => Lib.hid (valid_bx (HX1.out.go (grow_n _ n)) HSM.out (HT1.out.go (grow_n _ n)) (by rw [MT.setR_size]; have := HSZ.out; omega))
          rw [bent_val HOK.out HND.out hx.out HV.out, HF.out, MT.setR_blk, HTB.out] at HVA
          go_wp2
          go_quiet (fail)
          rw [← HRA.out] at gW2
          go_wp2_with fail
          refine (HVA _).out.mono ?_
          rintro e w5 ⟨rfl, hg5⟩
          have hg5' : Grow (W.setCell ⟨xb, 1, none⟩ (.int .i64 (rn : Int))) w5 := (grow_n _ _).trans hg5
          have HX5 := Lib.hid (HX1.out.go hg5')
          have HT5 := Lib.hid (HT1.out.go hg5')
          have hs5 : w3.heap.size ≤ w5.heap.size := Nat.le_trans hsW1 hg5'.size
          have q1 : w5.cell? ⟨xb, 1, none⟩ = some (.int .i64 (rn : Int)) := (World.cell?_of_block (hg5'.block xb hxW1)).trans hcs
          have f1 : w5.frozen? ⟨xb, 1, none⟩ = false := (World.frozen?_of_block (hg5'.block xb hxW1)).trans hfs
          have HT6 := Lib.hid (tre_restore HT5.out HND.out hx.out)
          have HX6 := Lib.hid (box_set (xb := xb) (k := 1) HX5.out (by omega) (.int .i64 xr))
          have HVB := Lib.hid (valid_bx HX6.out HSM.out HT6.out (by have := HSZ.out; omega))
          rw [HV.out, HTB.out] at HVB
          have hs6 : w3.heap.size ≤ (w5.setCell ⟨xb, 1, none⟩ (.int .i64 xr)).heap.size := by simpa [World.setCell] using hs5
          have gc0 := HX6.out.c0
          have gc1 := HX6.out.c1
          have gc2 := HX6.out.c2
          have gd0 := HX5.out.c0
          have gd1 := HX5.out.c1
          have gd2 := HX5.out.c2
          clear hg5 hg5' HVA hcs hfs
          go_wp2_with fail
          refine HVB.out.mono ?_
          rintro e w6 ⟨rfl, hg6⟩
          have HX7 := Lib.hid (HX6.out.go hg6)
          have HT7 := Lib.hid (HT6.out.go hg6)
          have hs7 : w3.heap.size ≤ w6.heap.size := Nat.le_trans hs6 hg6.size
          have hxa := (show MT.At w6 w3.heap.size t from HT7.out).sub hx.out
          have q2 : w6.cell? ⟨xb, 2, none⟩ = some (.slice ka xk.length kc) := cell_of_block hxa.2.1
          have f2 : w6.frozen? ⟨xb, 2, none⟩ = false := free_of_block hxa.2.1
          have hx6 := lt_of_block hxa.2.1
          have HRW : Hid (((w6.alloc (.cells #[.int .i64 0, .int .i64 (-1), .slice none 0 0] 45)).alloc (.cells #[.pointer (some ⟨w6.heap.size, 0, none⟩)] 29)).ownsRow w3.heap.size 29 1 (.slice ka xk.length kc) xk.length (xk.map MT.ptr)) := row_kept hxa.2.2.1 fun k hk => by
            have := (row_lt hxa.2.2.1 hk).2
            exact (Below.heap_alloc _ _ _ (by simp; omega)).trans (Below.heap_alloc _ _ _ this)
          have HNO : Hid (∀ k, (Value.slice ka xk.length kc).ownBlock = some k → k ≠ xb) := Lib.hid (row_not hxa.2.1 hxa.2.2.1)
          clear hxa q1 f1 gc0 gc1 gc2 gd0 gd1 gd2 hg6 HVB HX6 HT6 HT5 HX5
          go_wp2_with (first
            | (at_builtin; (refine wpList_append_lies _ rfl (.tmp 152) (.tmp 155) 43 rfl w3.heap.size 29 i0 _ 1 8 Try.underlying43 hi0 hz0 hz1 hz2 rfl (by decide) (.slice ka xk.length kc) xk.length _ (by rfl) HRW.out ⟨w6.heap.size + 1, 0, none⟩ 1 1 [.pointer (some ⟨w6.heap.size, 0, none⟩)] (by rfl) (by rfl) (World.news_of_block (cs := #[.pointer (some ⟨w6.heap.size, 0, none⟩)]) (t := 29) (fr := (0, 0)) (by have := heap_alloc_this (w6.alloc (.cells #[.int .i64 0, .int .i64 (-1), .slice none 0 0] 45)) (.cells #[.pointer (some ⟨w6.heap.size, 0, none⟩)] 29); rw [World.size_alloc] at this; exact this)) (by simp [Value.oneCell']) (by omega) (by simp only [maxLen]; omega) (by omega) (by simp; omega) (w6.heap.size + 2) (by simp) ?_); intro gg cap' w7 hown1 hgrow hat hlt2
               have q3 : w7.cell? ⟨xb, 2, none⟩ = some (.slice ka xk.length kc) := (hgrow.cell ((World.cell?_alloc_past _ _ _ (by simp; omega)).trans ((World.cell?_alloc_past _ _ _ hx6).trans q2)) (fun e => HNO.out _ e.symm rfl))
               have f3 : w7.frozen? ⟨xb, 2, none⟩ = false := ((hgrow.frozen_far _ (by simp; omega) (fun e => HNO.out _ e.symm rfl)).trans ((World.frozen?_alloc_past _ _ _ (by simp; omega)).trans ((World.frozen?_alloc_past _ _ _ hx6).trans f2)))
               have HT8 := Lib.hid (tre_add HT7.out HND.out hx.out hs7 hgrow hown1 hat)
               have hb8 : Below w3.heap.size w6 w7 := (((Below.refl _ _).alloc hs7 _).alloc (by simp; omega) _).trans ((Below.refl _ _).grown hgrow (by simp; omega) fun j ej => (row_lt HRW.out ej).1)
               have HX8 := Lib.hid (box_set (xb := xb) (k := 2) (show Box w g w7 from Boxed.next1 HX7.out (Nat.le_refl _) (hb8.mono (by omega))) (by omega : w.heap.size < xb) (.slice (some ⟨gg, 0, none⟩) (xk.length + 1) cap'))
               have HVC := Lib.hid (valid_bx HX8.out HSM.out HT8.out (by have := MT.addK_size xb (.slice (some ⟨gg, 0, none⟩) (xk.length + 1) cap') (.node w6.heap.size (.slice none 0 0) 0 (-1) []) t rfl; have := HSZ.out; omega))
               rw [add_val hx.out, MT.addK_blk, HTB.out] at HVC
               have gc0 := HX8.out.c0
               have gc1 := HX8.out.c1
               have gc2 := HX8.out.c2)
            | (go_at_call 20; refine HVC.out.mono ?_; rintro e w9 ⟨rfl, hg9⟩))
          go_ret
          exact ⟨rfl, (HX8.out.go hg9).grow⟩


set_option maxRecDepth 100000 in
theorem lifted (os : Os) (started : os.Started) (H : Type) (enc : TypeId × Value → H) :
    ReturnsInHanded {} Try.checked os 5 .any (Rows.treeBendsSpec.pre6 enc Try.prog Try.f5 Rows.treeBendsRow.domain false) (Rows.treeBendsSpec.post enc Try.prog Try.f5 false true false false) := by
  refine returnsInHanded_of_change (C := Try.checked) own started (by kernel_rfl) Try.func5
    (ChangeSpec.witness6 (enc := enc) (C := Try.checked) false ⟨#[], #[.agg #[.slice none 0 0, .slice none 0 0, .slice none 0 0], .int .i64 0, .slice none 0 0, .int .i64 0, .int .i64 0], []⟩ 8 (by kernel_rfl) (by kernel_rfl) (by kernel_rfl) (by kernel_rfl)) ?_
  intro W base args ds gs before hval0 hW hcnd _
  have hval : ∀ (j : Nat) t v, Try.f5.params[j]? = some t → args[j]? = some v → Value.okWide Try.prog W .any base t v := hval0
  have hW' := hW
  obtain ⟨p, q, hA0, hV, rfl, hfz, hnd⟩ := hW
  have hA : DataW.TrodAll enc Try.prog W 0 (fun _ => true) true Try.f5.params.toList args.toList ds p := hA0
  rw [Try.params5] at hA hval
  obtain ⟨v0, vs0, d0, ds0, p0, q0, hargs, rfl, rfl, h0, r0⟩ := trodAll_cons hA
  obtain ⟨v1, vs1, d1, ds1, p1, q1, rfl, rfl, rfl, h1, r1⟩ := trodAll_cons r0
  obtain ⟨v2, vs2, d2, ds2, p2, q2, rfl, rfl, rfl, h2, r2⟩ := trodAll_cons r1
  obtain ⟨v3, vs3, d3, ds3, p3, q3, rfl, rfl, rfl, h3, r3⟩ := trodAll_cons r2
  obtain ⟨v4, vs4, d4, ds4, p4, q4, rfl, rfl, rfl, h4, r4⟩ := trodAll_cons r3
  obtain ⟨rfl, rfl, rfl⟩ := trodAll_nil r4
  obtain rfl : args = #[v0, v1, v2, v3, v4] := by cases args; simp_all
  obtain ⟨rfl, rfl⟩ := trodVars_none hV
  have k0 := h0
  have lt0 : ∀ x ∈ p0, x.block < W.heap.size := by obtain ⟨m, hm⟩ := k0; exact DataW.trod_lt m _ _ _ hm
  obtain ⟨g, rfl, hgr⟩ := gram_of_trod (hval 0 25 v0 rfl rfl) h0
  obtain ⟨a1, rfl, rfl, rfl, w1⟩ := open_int Try.underlying3 (hval 1 3 v1 rfl rfl) h1
  have k2 := h2
  have lt2 : ∀ x ∈ p2, x.block < W.heap.size := by obtain ⟨m, hm⟩ := k2; exact DataW.trod_lt m _ _ _ hm
  obtain ⟨a2, xs2, cap2, rfl, hi2, hl2, hm2, hn2⟩ := ints_of_val (hval 2 26 v2 rfl rfl) h2
  obtain ⟨a3, rfl, rfl, rfl, w3⟩ := open_int Try.underlying3 (hval 3 3 v3 rfl rfl) h3
  obtain ⟨a4, rfl, rfl, rfl, w4⟩ := open_int Try.underlying3 (hval 4 3 v4 rfl rfl) h4
  clear hA0 hval0
  refine (walk hgr a1 hi2 hl2 hm2 hn2 a3 a4).mono fun e W' ⟨he, bel⟩ => ?_
  subst he
  exact ⟨_, rfl, _, _, _, [], _, [], hW', trodAll_mk1 (shut_bool Try.underlying4 _), (trodAll_cons_mk (Below.trod laidOut (by kernel_rfl) (of_decide_eq_true (by kernel_rfl)) k0 bel lt0) (trodAll_cons_mk (shut_int Try.underlying3 w1) (trodAll_cons_mk (Below.trod laidOut (by kernel_rfl) (of_decide_eq_true (by kernel_rfl)) k2 bel lt2) (trodAll_cons_mk (shut_int Try.underlying3 w3) (trodAll_cons_mk (shut_int Try.underlying3 w4) trodAll_mk0))))), rfl, bel.frame _, fun h => by cases h⟩

theorem over : Rows.treeBendsRow.holds Try.pinned (OpenSpec.ofChange Rows.treeBendsSpec) :=
  OpenClaim.holds_of_wide 5 Try.f5 rfl rfl rfl rfl rfl rfl rfl ⟨rfl, rfl, rfl, rfl, rfl⟩ rfl rfl rfl rfl rfl (by kernel_rfl) Try.func5 (by kernel_rfl)
    (of_decide_eq_true (by kernel_rfl)) (by unfold Func.isWrapper; first | (rw [if_pos (by decide +kernel)]; kernel_rfl) | (rw [if_neg (by decide +kernel)]; exact ⟨rfl, rfl⟩))
    (fun os started H enc _ => lifted os started H enc)

theorem proved : Rows.TreeBendsSaid := over
#print axioms proved
end Go.Proofs.Ytfiafmhnmafnbaa.treeBends
