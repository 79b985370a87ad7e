/- The reference's reader: an alternative. -/
import Derived.Test.YticdihfjnmjkmaaRr4
import Derived.Deep.DeepCutAuto
namespace Go.Proofs.Yticdihfjnmjkmaa
open Go.RowKit
attribute [local go_sem] run_store_float
theorem four_made (w : World) (o0 o1 o2 o3 : Obj) : ((((w.alloc o0).alloc o1).alloc o2).alloc o3).heap[w.heap.size]? = some o0 ∧ ((((w.alloc o0).alloc o1).alloc o2).alloc o3).heap[w.heap.size + 1]? = some o1 ∧ ((((w.alloc o0).alloc o1).alloc o2).alloc o3).heap[w.heap.size + 1 + 1]? = some o2 ∧ ((((w.alloc o0).alloc o1).alloc o2).alloc o3).heap[w.heap.size + 1 + 1 + 1]? = some o3 := by
  have h := five_made w o0 o1 o2 o3 o3
  have g : ∀ j oj, (((((w.alloc o0).alloc o1).alloc o2).alloc o3).alloc o3).heap[j]? = some oj → j < w.heap.size + 4 → ((((w.alloc o0).alloc o1).alloc o2).alloc o3).heap[j]? = some oj := fun j oj hj hl => (Below.heap_alloc _ _ _ (by simp only [World.size_alloc]; omega)).symm.trans hj
  exact ⟨g _ _ h.b0 (by omega), g _ _ h.b1 (by omega), g _ _ h.b2 (by omega), g _ _ h.b3 (by omega)⟩
theorem below_4a (w : World) (o0 o1 o2 o3 : Obj) : Below w.heap.size w ((((w.alloc o0).alloc o1).alloc o2).alloc o3) :=
  (below_two w o0 o1).trans ((below_two ((w.alloc o0).alloc o1) o2 o3).mono (by simp only [World.size_alloc]; omega))
theorem info83 : (Try.prog.info? 83).map (fun i => (i.zero, i.size, i.bytes)) = some (some (.agg #[.int .i64 0, .int .i64 0, .string ⟨#[]⟩, .slice none 0 0, .int .u8 0]), 5, 64) := by kernel_rfl
theorem tok_alloc4 {w : World} {b : Nat} (hb : b < w.heap.size) {k : Nat} {v : Value} (h : w.cell? ⟨b, k, none⟩ = some v) (o0 o1 o2 o3 : Obj) : ((((w.alloc o0).alloc o1).alloc o2).alloc o3).cell? ⟨b, k, none⟩ = some v :=
  cell_alloc_keep (by simp only [World.size_alloc]; omega) (tok_alloc hb h o0 o1 o2)
theorem news_at (X : World) (g : Nat) (hg : g = X.heap.size) (cs : Array Value) : ∀ j u, cs.toList[j]? = some u → (X.alloc (.cells cs 83)).cell? ((⟨g, 0, none⟩ : Addr).add j) = some u := by
  subst hg
  exact World.news_of_block (t := 83) (fr := (0, 0)) (heap_alloc_this _ _)
set_option maxRecDepth 100000 in
set_option maxHeartbeats 8000000 in
theorem qalt_n {a : Option Addr} {c : Nat} {ts : List Tok} {n : Nat} (hl : ts.length ≤ 100000) (HI : QItemAny a c ts n) {w : World} {p d : Nat} (hd : d ≤ 16) (hT : ToksAt w w.heap.size a ts) (hp : p < ts.length) (hk : (ts[p]).kind ≠ 3) {o : Out} (hps : Ps .items d (ts.drop p) o) (he : Ends (ts.drop p)) (hn : (ts.drop p).length ≤ n) :
    Calls Try.prog 59 #[.agg #[.slice a ts.length c, .int .i64 p, .int .i64 d, .int .i64 0]] w (QAltPost a c ts d (o.alt ts[p]) w) := by
  have HT := Lib.hid hT
  have HII := Lib.hid HI
  obtain ⟨i0, hi0, hz0, hz1, hz2⟩ := info_parts info83
  obtain ⟨b, of, rfl, hb, x0, x1, x2, x3⟩ := hT.cells0 (p := p) (by omega)
  have hpi : (p : Int) < ts.length := by omega
  have hne : b ≠ w.heap.size := by omega
  have y0 := fun o0 o1 o2 o3 => tok_alloc4 hb x0 o0 o1 o2 o3
  have y1 := fun o0 o1 o2 => tok_alloc hb x1 o0 o1 o2
  clear hT HI
  have hif : (if (ts[p]).kind = 3 then (ts[p]).wt else 0) = 0 := if_neg hk
  have HIF := Lib.hid hif
  have hk1 : ((ts[p]).kind == 3) = false := by simpa using hk
  have HPS := Lib.hid (show (ts[p]).pos = (ts[p]).pos from rfl)
  have hA : QAltInv (some ⟨b, of, none⟩) c ts d n w.heap.size (ts[p]).pos 0 o w ((((w.alloc (.cells #[.slice (some ⟨b, of, none⟩) ts.length c, .int .i64 p, .int .i64 d, .int .i64 0] 75)).alloc (.cells #[.slice none 0 0, .int .i64 0, .int .i64 0, .int .i64 0] 75)).alloc (.cells #[.int .i64 0, .float .f64 0, .slice none 0 0] 81)).alloc (.cells #[.int .i64 (ts[p]).pos, .float .f64 0, .slice none 0 0] 81)) (ts.drop p).length p [] none 0 o := by
    obtain ⟨m0, m1, m2, m3⟩ := four_made w (.cells #[.slice (some ⟨b, of, none⟩) ts.length c, .int .i64 p, .int .i64 d, .int .i64 0] 75) (.cells #[.slice none 0 0, .int .i64 0, .int .i64 0, .int .i64 0] 75) (.cells #[.int .i64 0, .float .f64 0, .slice none 0 0] 81) (.cells #[.int .i64 (ts[p]).pos, .float .f64 0, .slice none 0 0] 81)
    exact ⟨hp, rfl, hn, by simp only [List.length_nil, List.length_drop]; omega, he, m0, m1, m2, m3, RowOf.nil _ _ _ _ _ _, below_4a _ _ _ _ _, hps, (Out.pres_nil _).symm, rfl⟩
  have HAI := Lib.hid hA
  have hO : QAltPost (some ⟨b, of, none⟩) c ts d (o.alt ts[p]) w = QAltPost (some ⟨b, of, none⟩) c ts d (o.alt ts[p]) w := rfl
  clear hA hk hif hps he hn hO
  generalize hpp : (ts[p]).pos = ps at *
  have HPP := Lib.hid hpp
  generalize hkd : (ts[p]).kind = kd at *
  have HKD := Lib.hid hkd
  clear hkd
  clear hpp
  go_enter Try.func59, Try.ntmps59
  go_wp2_with fail
  go_loopg [] (ts.drop p).length (fun m wr => Hid (QAltRel (some ⟨b, of, none⟩) c ts d n w.heap.size ps 0 o w m wr))
  case atStart => exact .inl ⟨p, [], none, 0, o, HAI.out⟩
  case round =>
    rcases hrel.out with ⟨q, is, x, k, ok, hI⟩ | ⟨hm0, q, er, x, n', k, hE⟩
    · have hqh := hI.hq
      have hIb := hI.below
      obtain ⟨b', of', hbo, hb', t0, t1, t2, t3⟩ := (HT.out.go hIb hIb.size).cells0 hqh
      obtain ⟨rfl, rfl⟩ : b = b' ∧ of = of' := by simpa using hbo
      have HI0 := Lib.hid hI
      have HDR := Lib.hid (show ts.drop q = ts[q] :: ts.drop (q + 1) from List.drop_eq_getElem_cons hqh)
      obtain ⟨c0, c1, c2, c3⟩ := blk4 hI.st
      have hl0 := lt_of_some hI.st
      have hqi : (q : Int) < ts.length := by omega
      clear hI hrel hIb hbo x0 x1 x2 x3 y0 y1 HAI t1 t2 t3
      by_cases h1 : (ts[q]).kind = 1
      · have hst : startB ts[q] = true := by unfold startB; simp [h1]
        have HST := Lib.hid hst
        rw [h1] at t0
        clear hst h1
        go_upto_region 6 with fail
        rcases items_inv (by rw [← HDR.out]; exact HI0.out.ps) with ⟨hs0, _⟩ | ⟨_, ⟨ns, l1, o1, hpi, hpm, hok⟩ | ⟨er, ep, hpi, hok⟩⟩
        · rw [HST.out] at hs0; cases hs0
        · rw [← HDR.out] at hpi
          have HC := Lib.hid (HII.out d q _ hqh hd HST.out hpi HI0.out.ends HI0.out.le wr (HT.out.go HI0.out.below HI0.out.below.size))
          have HPI := Lib.hid hpi
          have HPM := Lib.hid hpm
          have HOK := Lib.hid hok
          clear hpi hpm hok
          go_cut [5, 6] (fun v5 v6 wx => ∃ (gA gB q2 at2 : Nat) (kd2 op2 : Int) (tx2 : ByteArray) (x2 : Option Addr) (k2 : Nat) (ms : List MN), v5 = .pointer (some ⟨gA, 0, none⟩) ∧ v6 = .pointer (some ⟨gB, 0, none⟩) ∧ Hid (Q6 wr gA gB (some ⟨b, of, none⟩) ts.length c q2 d 0 #[.int .i64 at2, .int .i64 kd2, .string tx2, .slice x2 ms.length k2, .int .u8 op2] wx ∧ ts.drop q2 = l1 ∧ [.node [.int .i64 at2, .int .i64 kd2, .string tx2] [.int .u8 op2] (ms.map MN.pn)] = ns ∧ RowOf wx wr.heap.size 81 3 83 5 (.slice x2 ms.length k2) ms))
          case first =>
            go_wp2_with fail
            refine HC.out.mono ?_
            rintro e w3 ⟨q2, at2, kd2, op2, tx2, x2, k2, ms, hqd, rfl, hns, hrow, hb3⟩
            have HQD := Lib.hid hqd
            have HNS := Lib.hid hns
            have HROW := Lib.hid hrow
            have HB3 := Lib.hid hb3
            clear hqd hns hrow hb3
            go_wp2_with fail
            go_meet
            exact ⟨_, _, q2, at2, kd2, op2, tx2, x2, k2, ms, rfl, rfl, q6_made HB3.out _ _, HQD.out, HNS.out, (HROW.out.go ((Kept.refl (fun _ => False) _).alloc _) (fun _ h => h.elim)).go ((Kept.refl (fun _ => False) _).alloc _) (fun _ h => h.elim)⟩
          case rest =>
            obtain ⟨gA, gB, q2, at2, kd2, op2, tx2, x2, k2, ms, rfl, rfl, H6⟩ := hcut
            obtain ⟨cA, cB, hbW, hgA, hgB⟩ := H6.out.1
            have hs3 := hbW.size
            have HB3 := Lib.hid hbW
            have hfew := HI0.out.few
            obtain ⟨a0, a1, a2, a3⟩ := blk4 cA
            obtain ⟨b0, b1, b2, b3, b4⟩ := blk5 cB
            obtain ⟨c0, c1, c2, c3⟩ := blk4 ((hbW.block _ (lt_of_some HI0.out.st)).trans HI0.out.st)
            obtain ⟨f0, f1, f2, f3, _⟩ := blk5f ((hbW.block _ (lt_of_some HI0.out.st)).trans HI0.out.st)
            obtain ⟨g0, g1, g2⟩ := blk3 ((hbW.block _ (lt_of_some HI0.out.blk)).trans HI0.out.blk)
            have hblw := lt_of_some HI0.out.blk
            have hl0 : w.heap.size < wc.heap.size := by omega
            have hl3 : w.heap.size + 1 + 1 + 1 < wc.heap.size := by omega
            have hlA := lt_of_some cA
            have hlB := lt_of_some cB
            have hnA : gA ≠ w.heap.size := by omega
            have hnB : gB ≠ w.heap.size := by omega
            have hsW := HI0.out.below.size
            have HOWN := Lib.hid (fun oc s0 s1 s2 s3 => HI0.out.own hbW (oc := oc) (s0 := s0) (s1 := s1) (s2 := s2) (s3 := s3))
            clear hbW cA cB
            go_wp2_with (first
              | (at_builtin; go_loud (refine wpList_append_lies _ rfl (.tmp 69) (.tmp 71) 79 rfl (w.heap.size + 4) 83 i0 _ 5 64 Try.underlying79 hi0 hz0 hz1 hz2 rfl (by decide) (.slice x is.length k) is.length _ (by rfl) (HOWN.out _ _ _ _ _) ⟨wc.heap.size, 0, none⟩ 1 1 [.int .i64 at2, .int .i64 kd2, .string tx2, .slice x2 ms.length k2, .int .u8 op2] (by rfl) (by rfl) (news_at _ wc.heap.size (by simp) #[.int .i64 at2, .int .i64 kd2, .string tx2, .slice x2 ms.length k2, .int .u8 op2]) (by simp [Value.oneCell']) (by omega) (by simp only [maxLen]; omega) (by omega) (by simp; omega) (wc.heap.size + 1) (by simp) ?_); intro g cap w4 hown1 hgrow hat hlt4
                 have hQ : QStep w.heap.size wr wc w4 _ _ _ _ (.slice x is.length k) #[.int .i64 at2, .int .i64 kd2, .string tx2, .slice x2 ms.length k2, .int .u8 op2] := ⟨HB3.out, hgrow⟩
                 have HQ := Lib.hid hQ
                 have hvl := HI0.out.vlo
                 have hbb := hQ.far HI0.out.blk (by omega) (fun e => by have := hvl _ e; omega)
                 have b7 := cell_of_block (off := 2) hbb
                 have f7 := free_of_block (off := 2) hbb
                 simp only [List.getElem?_toArray, List.getElem?_cons_succ, List.getElem?_cons_zero] at b7
                 have HOW := Lib.hid hown1
                 have HAT := Lib.hid hat
                 clear hgrow hown1 hat hQ hbb hvl))
            obtain ⟨hF, hlt1⟩ := HI0.out.next HPI.out HPM.out HOK.out H6.out.2.1 H6.out.2.2.1 H6.out.2.2.2 HQ.out HOW.out (by simpa using HAT.out)
            go_roundg (ts.drop q2).length
            case measure => exact hlt1
            case rel => exact .inl ⟨_, _, _, _, _, hF⟩
        · rw [← HDR.out] at hpi
          have HC := Lib.hid (HII.out d q _ hqh hd HST.out hpi HI0.out.ends HI0.out.le wr (HT.out.go HI0.out.below HI0.out.below.size))
          have her0 : er ≠ 0 := by rcases hpi.err56 _ _ rfl with h | h <;> omega
          have HER := Lib.hid her0
          have HOK := Lib.hid hok
          clear hpi hok her0
          go_cut [5, 6] (fun v5 v6 wx => ∃ (gA gB q2 at2 : Nat) (kd2 op2 : Int) (tx2 : ByteArray) (x2 : Option Addr) (n2 k2 : Nat), v5 = .pointer (some ⟨gA, 0, none⟩) ∧ v6 = .pointer (some ⟨gB, 0, none⟩) ∧ Hid (Q6 wr gA gB (some ⟨b, of, none⟩) ts.length c q2 d er #[.int .i64 at2, .int .i64 kd2, .string tx2, .slice x2 n2 k2, .int .u8 op2] wx ∧ ∃ hq2 : q2 < ts.length, (ts[q2]).pos = ep))
          case first =>
            go_wp2_with fail
            refine HC.out.mono ?_
            rintro e w3 ⟨q2, hq2, at2, kd2, op2, tx2, x2, n2, k2, hqp, rfl, hb3⟩
            have HQP := Lib.hid hqp
            have HB3 := Lib.hid hb3
            clear hqp hb3
            go_wp2_with fail
            go_meet
            exact ⟨_, _, q2, at2, kd2, op2, tx2, x2, n2, k2, rfl, rfl, q6_made HB3.out _ _, hq2, HQP.out⟩
          case rest =>
            obtain ⟨gA, gB, q2, at2, kd2, op2, tx2, x2, n2, k2, rfl, rfl, H6⟩ := hcut
            obtain ⟨cA, cB, hbW, hgA, hgB⟩ := H6.out.1
            have hs3 := hbW.size
            have HB3 := Lib.hid hbW
            have hfew := HI0.out.few
            obtain ⟨a0, a1, a2, a3⟩ := blk4 cA
            obtain ⟨b0, b1, b2, b3, b4⟩ := blk5 cB
            obtain ⟨c0, c1, c2, c3⟩ := blk4 ((hbW.block _ (lt_of_some HI0.out.st)).trans HI0.out.st)
            obtain ⟨f0, f1, f2, f3, _⟩ := blk5f ((hbW.block _ (lt_of_some HI0.out.st)).trans HI0.out.st)
            obtain ⟨g0, g1, g2⟩ := blk3 ((hbW.block _ (lt_of_some HI0.out.blk)).trans HI0.out.blk)
            have hblw := lt_of_some HI0.out.blk
            have hl0 : w.heap.size < wc.heap.size := by omega
            have hl3 : w.heap.size + 1 + 1 + 1 < wc.heap.size := by omega
            have hlA := lt_of_some cA
            have hlB := lt_of_some cB
            have hnA : gA ≠ w.heap.size := by omega
            have hnB : gB ≠ w.heap.size := by omega
            have hsW := HI0.out.below.size
            have HOWN := Lib.hid (fun oc s0 s1 s2 s3 => HI0.out.own hbW (oc := oc) (s0 := s0) (s1 := s1) (s2 := s2) (s3 := s3))
            clear hbW cA cB
            go_wp2_with (first
              | (at_builtin; go_loud (refine wpList_append_lies _ rfl (.tmp 69) (.tmp 71) 79 rfl (w.heap.size + 4) 83 i0 _ 5 64 Try.underlying79 hi0 hz0 hz1 hz2 rfl (by decide) (.slice x is.length k) is.length _ (by rfl) (HOWN.out _ _ _ _ _) ⟨wc.heap.size, 0, none⟩ 1 1 [.int .i64 at2, .int .i64 kd2, .string tx2, .slice x2 n2 k2, .int .u8 op2] (by rfl) (by rfl) (news_at _ wc.heap.size (by simp) #[.int .i64 at2, .int .i64 kd2, .string tx2, .slice x2 n2 k2, .int .u8 op2]) (by simp [Value.oneCell']) (by omega) (by simp only [maxLen]; omega) (by omega) (by simp; omega) (wc.heap.size + 1) (by simp) ?_); intro g cap w4 hown1 hgrow hat hlt4
                 have hQ : QStep w.heap.size wr wc w4 _ _ _ _ (.slice x is.length k) #[.int .i64 at2, .int .i64 kd2, .string tx2, .slice x2 n2 k2, .int .u8 op2] := ⟨HB3.out, hgrow⟩
                 have HQ := Lib.hid hQ
                 have hvl := HI0.out.vlo
                 have hbb := hQ.far HI0.out.blk (by omega) (fun e => by have := hvl _ e; omega)
                 have b7 := cell_of_block (off := 2) hbb
                 have f7 := free_of_block (off := 2) hbb
                 simp only [List.getElem?_toArray, List.getElem?_cons_succ, List.getElem?_cons_zero] at b7
                 have HOW := Lib.hid hown1
                 have HAT := Lib.hid hat
                 clear hgrow hown1 hat hQ hbb hvl))
            obtain ⟨hq2, hqp⟩ := H6.out.2
            have hF := HI0.out.fail hq2 HER.out (by rw [HOK.out, hqp]) HQ.out g cap
            go_roundg 0
            case measure => have := HI0.out.len; have := HI0.out.hq; simp only [List.length_drop] at *; omega
            case rel => exact .inr ⟨rfl, _, _, _, _, _, hF⟩
      by_cases h2 : (ts[q]).kind = 2
      · have hst : startB ts[q] = true := by unfold startB; simp [h2]
        have HST := Lib.hid hst
        rw [h2] at t0
        clear hst h1 h2
        go_upto_region 6 with fail
        rcases items_inv (by rw [← HDR.out]; exact HI0.out.ps) with ⟨hs0, _⟩ | ⟨_, ⟨ns, l1, o1, hpi, hpm, hok⟩ | ⟨er, ep, hpi, hok⟩⟩
        · rw [HST.out] at hs0; cases hs0
        · rw [← HDR.out] at hpi
          have HC := Lib.hid (HII.out d q _ hqh hd HST.out hpi HI0.out.ends HI0.out.le wr (HT.out.go HI0.out.below HI0.out.below.size))
          have HPI := Lib.hid hpi
          have HPM := Lib.hid hpm
          have HOK := Lib.hid hok
          clear hpi hpm hok
          go_cut [5, 6] (fun v5 v6 wx => ∃ (gA gB q2 at2 : Nat) (kd2 op2 : Int) (tx2 : ByteArray) (x2 : Option Addr) (k2 : Nat) (ms : List MN), v5 = .pointer (some ⟨gA, 0, none⟩) ∧ v6 = .pointer (some ⟨gB, 0, none⟩) ∧ Hid (Q6 wr gA gB (some ⟨b, of, none⟩) ts.length c q2 d 0 #[.int .i64 at2, .int .i64 kd2, .string tx2, .slice x2 ms.length k2, .int .u8 op2] wx ∧ ts.drop q2 = l1 ∧ [.node [.int .i64 at2, .int .i64 kd2, .string tx2] [.int .u8 op2] (ms.map MN.pn)] = ns ∧ RowOf wx wr.heap.size 81 3 83 5 (.slice x2 ms.length k2) ms))
          case first =>
            go_wp2_with fail
            refine HC.out.mono ?_
            rintro e w3 ⟨q2, at2, kd2, op2, tx2, x2, k2, ms, hqd, rfl, hns, hrow, hb3⟩
            have HQD := Lib.hid hqd
            have HNS := Lib.hid hns
            have HROW := Lib.hid hrow
            have HB3 := Lib.hid hb3
            clear hqd hns hrow hb3
            go_wp2_with fail
            go_meet
            exact ⟨_, _, q2, at2, kd2, op2, tx2, x2, k2, ms, rfl, rfl, q6_made HB3.out _ _, HQD.out, HNS.out, (HROW.out.go ((Kept.refl (fun _ => False) _).alloc _) (fun _ h => h.elim)).go ((Kept.refl (fun _ => False) _).alloc _) (fun _ h => h.elim)⟩
          case rest =>
            obtain ⟨gA, gB, q2, at2, kd2, op2, tx2, x2, k2, ms, rfl, rfl, H6⟩ := hcut
            obtain ⟨cA, cB, hbW, hgA, hgB⟩ := H6.out.1
            have hs3 := hbW.size
            have HB3 := Lib.hid hbW
            have hfew := HI0.out.few
            obtain ⟨a0, a1, a2, a3⟩ := blk4 cA
            obtain ⟨b0, b1, b2, b3, b4⟩ := blk5 cB
            obtain ⟨c0, c1, c2, c3⟩ := blk4 ((hbW.block _ (lt_of_some HI0.out.st)).trans HI0.out.st)
            obtain ⟨f0, f1, f2, f3, _⟩ := blk5f ((hbW.block _ (lt_of_some HI0.out.st)).trans HI0.out.st)
            obtain ⟨g0, g1, g2⟩ := blk3 ((hbW.block _ (lt_of_some HI0.out.blk)).trans HI0.out.blk)
            have hblw := lt_of_some HI0.out.blk
            have hl0 : w.heap.size < wc.heap.size := by omega
            have hl3 : w.heap.size + 1 + 1 + 1 < wc.heap.size := by omega
            have hlA := lt_of_some cA
            have hlB := lt_of_some cB
            have hnA : gA ≠ w.heap.size := by omega
            have hnB : gB ≠ w.heap.size := by omega
            have hsW := HI0.out.below.size
            have HOWN := Lib.hid (fun oc s0 s1 s2 s3 => HI0.out.own hbW (oc := oc) (s0 := s0) (s1 := s1) (s2 := s2) (s3 := s3))
            clear hbW cA cB
            go_wp2_with (first
              | (at_builtin; go_loud (refine wpList_append_lies _ rfl (.tmp 69) (.tmp 71) 79 rfl (w.heap.size + 4) 83 i0 _ 5 64 Try.underlying79 hi0 hz0 hz1 hz2 rfl (by decide) (.slice x is.length k) is.length _ (by rfl) (HOWN.out _ _ _ _ _) ⟨wc.heap.size, 0, none⟩ 1 1 [.int .i64 at2, .int .i64 kd2, .string tx2, .slice x2 ms.length k2, .int .u8 op2] (by rfl) (by rfl) (news_at _ wc.heap.size (by simp) #[.int .i64 at2, .int .i64 kd2, .string tx2, .slice x2 ms.length k2, .int .u8 op2]) (by simp [Value.oneCell']) (by omega) (by simp only [maxLen]; omega) (by omega) (by simp; omega) (wc.heap.size + 1) (by simp) ?_); intro g cap w4 hown1 hgrow hat hlt4
                 have hQ : QStep w.heap.size wr wc w4 _ _ _ _ (.slice x is.length k) #[.int .i64 at2, .int .i64 kd2, .string tx2, .slice x2 ms.length k2, .int .u8 op2] := ⟨HB3.out, hgrow⟩
                 have HQ := Lib.hid hQ
                 have hvl := HI0.out.vlo
                 have hbb := hQ.far HI0.out.blk (by omega) (fun e => by have := hvl _ e; omega)
                 have b7 := cell_of_block (off := 2) hbb
                 have f7 := free_of_block (off := 2) hbb
                 simp only [List.getElem?_toArray, List.getElem?_cons_succ, List.getElem?_cons_zero] at b7
                 have HOW := Lib.hid hown1
                 have HAT := Lib.hid hat
                 clear hgrow hown1 hat hQ hbb hvl))
            obtain ⟨hF, hlt1⟩ := HI0.out.next HPI.out HPM.out HOK.out H6.out.2.1 H6.out.2.2.1 H6.out.2.2.2 HQ.out HOW.out (by simpa using HAT.out)
            go_roundg (ts.drop q2).length
            case measure => exact hlt1
            case rel => exact .inl ⟨_, _, _, _, _, hF⟩
        · rw [← HDR.out] at hpi
          have HC := Lib.hid (HII.out d q _ hqh hd HST.out hpi HI0.out.ends HI0.out.le wr (HT.out.go HI0.out.below HI0.out.below.size))
          have her0 : er ≠ 0 := by rcases hpi.err56 _ _ rfl with h | h <;> omega
          have HER := Lib.hid her0
          have HOK := Lib.hid hok
          clear hpi hok her0
          go_cut [5, 6] (fun v5 v6 wx => ∃ (gA gB q2 at2 : Nat) (kd2 op2 : Int) (tx2 : ByteArray) (x2 : Option Addr) (n2 k2 : Nat), v5 = .pointer (some ⟨gA, 0, none⟩) ∧ v6 = .pointer (some ⟨gB, 0, none⟩) ∧ Hid (Q6 wr gA gB (some ⟨b, of, none⟩) ts.length c q2 d er #[.int .i64 at2, .int .i64 kd2, .string tx2, .slice x2 n2 k2, .int .u8 op2] wx ∧ ∃ hq2 : q2 < ts.length, (ts[q2]).pos = ep))
          case first =>
            go_wp2_with fail
            refine HC.out.mono ?_
            rintro e w3 ⟨q2, hq2, at2, kd2, op2, tx2, x2, n2, k2, hqp, rfl, hb3⟩
            have HQP := Lib.hid hqp
            have HB3 := Lib.hid hb3
            clear hqp hb3
            go_wp2_with fail
            go_meet
            exact ⟨_, _, q2, at2, kd2, op2, tx2, x2, n2, k2, rfl, rfl, q6_made HB3.out _ _, hq2, HQP.out⟩
          case rest =>
            obtain ⟨gA, gB, q2, at2, kd2, op2, tx2, x2, n2, k2, rfl, rfl, H6⟩ := hcut
            obtain ⟨cA, cB, hbW, hgA, hgB⟩ := H6.out.1
            have hs3 := hbW.size
            have HB3 := Lib.hid hbW
            have hfew := HI0.out.few
            obtain ⟨a0, a1, a2, a3⟩ := blk4 cA
            obtain ⟨b0, b1, b2, b3, b4⟩ := blk5 cB
            obtain ⟨c0, c1, c2, c3⟩ := blk4 ((hbW.block _ (lt_of_some HI0.out.st)).trans HI0.out.st)
            obtain ⟨f0, f1, f2, f3, _⟩ := blk5f ((hbW.block _ (lt_of_some HI0.out.st)).trans HI0.out.st)
            obtain ⟨g0, g1, g2⟩ := blk3 ((hbW.block _ (lt_of_some HI0.out.blk)).trans HI0.out.blk)
            have hblw := lt_of_some HI0.out.blk
            have hl0 : w.heap.size < wc.heap.size := by omega
            have hl3 : w.heap.size + 1 + 1 + 1 < wc.heap.size := by omega
            have hlA := lt_of_some cA
            have hlB := lt_of_some cB
            have hnA : gA ≠ w.heap.size := by omega
            have hnB : gB ≠ w.heap.size := by omega
            have hsW := HI0.out.below.size
            have HOWN := Lib.hid (fun oc s0 s1 s2 s3 => HI0.out.own hbW (oc := oc) (s0 := s0) (s1 := s1) (s2 := s2) (s3 := s3))
            clear hbW cA cB
            go_wp2_with (first
              | (at_builtin; go_loud (refine wpList_append_lies _ rfl (.tmp 69) (.tmp 71) 79 rfl (w.heap.size + 4) 83 i0 _ 5 64 Try.underlying79 hi0 hz0 hz1 hz2 rfl (by decide) (.slice x is.length k) is.length _ (by rfl) (HOWN.out _ _ _ _ _) ⟨wc.heap.size, 0, none⟩ 1 1 [.int .i64 at2, .int .i64 kd2, .string tx2, .slice x2 n2 k2, .int .u8 op2] (by rfl) (by rfl) (news_at _ wc.heap.size (by simp) #[.int .i64 at2, .int .i64 kd2, .string tx2, .slice x2 n2 k2, .int .u8 op2]) (by simp [Value.oneCell']) (by omega) (by simp only [maxLen]; omega) (by omega) (by simp; omega) (wc.heap.size + 1) (by simp) ?_); intro g cap w4 hown1 hgrow hat hlt4
                 have hQ : QStep w.heap.size wr wc w4 _ _ _ _ (.slice x is.length k) #[.int .i64 at2, .int .i64 kd2, .string tx2, .slice x2 n2 k2, .int .u8 op2] := ⟨HB3.out, hgrow⟩
                 have HQ := Lib.hid hQ
                 have hvl := HI0.out.vlo
                 have hbb := hQ.far HI0.out.blk (by omega) (fun e => by have := hvl _ e; omega)
                 have b7 := cell_of_block (off := 2) hbb
                 have f7 := free_of_block (off := 2) hbb
                 simp only [List.getElem?_toArray, List.getElem?_cons_succ, List.getElem?_cons_zero] at b7
                 have HOW := Lib.hid hown1
                 have HAT := Lib.hid hat
                 clear hgrow hown1 hat hQ hbb hvl))
            obtain ⟨hq2, hqp⟩ := H6.out.2
            have hF := HI0.out.fail hq2 HER.out (by rw [HOK.out, hqp]) HQ.out g cap
            go_roundg 0
            case measure => have := HI0.out.len; have := HI0.out.hq; simp only [List.length_drop] at *; omega
            case rel => exact .inr ⟨rfl, _, _, _, _, _, hF⟩
      have k1 : ((ts[q]).kind == 1) = false := by simpa using h1
      have k2 : ((ts[q]).kind == 2) = false := by simpa using h2
      have HSB := Lib.hid (show startB ts[q] = sgnB ts[q] [40] by unfold startB; simp [h1, h2])
      have HS := Lib.hid (qsign_any (c := c) (d := d) (e := 0) (HT.out.go HI0.out.below HI0.out.below.size) hqh [40])
      generalize (ts[q]).kind = kq at *
      clear h1 h2
      go_wp2_with fail
      refine HS.out.mono ?_
      cases hs : sgnB ts[q] [40]
      · rintro e w2 ⟨rfl, hb2⟩
        have HI1 := Lib.hid (HI0.out.go hb2)
        have HSG := Lib.hid hs
        rcases items_inv (by rw [← HDR.out]; exact HI0.out.ps) with ⟨_, hok⟩ | ⟨hs0, _⟩
        rotate_left
        · rw [HSB.out, hs] at hs0; cases hs0
        have HOK := Lib.hid hok
        obtain ⟨c0, c1, c2, c3⟩ := blk4 HI1.out.st
        obtain ⟨d0, d1, d2, d3⟩ := blk4 HI1.out.z1
        obtain ⟨e0, e1, e2⟩ := blk3 HI1.out.z2
        obtain ⟨g0, g1, g2⟩ := blk3 HI1.out.blk
        obtain ⟨u0, u1, u2, u3, _⟩ := blk5f HI1.out.z1
        obtain ⟨v0, v1, v2, _, _⟩ := blk5f HI1.out.z2
        have hl0 := lt_of_some HI1.out.st
        have hl1 := lt_of_some HI1.out.z1
        have hl2 := lt_of_some HI1.out.z2
        have hl3 := lt_of_some HI1.out.blk
        clear hb2 hs hok
        go_wp2_with fail
        go_region
        all_goals go_wp2
        all_goals refine bodyPost_ret (v := .tuple #[.agg #[.slice (some ⟨b, of, none⟩) ts.length c, .int .i64 q, .int .i64 d, .int .i64 0], .agg #[.int .i64 ps, .float .f64 0, .slice x is.length k]]) (by simp [results, Try.results59, go_sem, *]) rfl ?_
        all_goals rw [HI1.out.out, HOK.out, ← HDR.out]
        all_goals refine ⟨q, ps, 0, x, k, is, rfl, rfl, by simp only [HKD.out, HIF.out, HPP.out, List.append_nil], ?_, ?_⟩
        any_goals refine Below.drew ?_
        any_goals repeat refine Below.setCell ?_ (by dsimp only; omega) _
        any_goals exact HI1.out.below
        all_goals refine RowOf.low2 (lo := w.heap.size + 4) (by omega) (RowOf.go (S := fun k => k < w.heap.size + 4) HI1.out.row ?_ (fun k hk => hk))
        all_goals refine Kept.drew ?_
        all_goals repeat refine Kept.setCell (S := fun k => k < w.heap.size + 4) ?_ (.inl (by dsimp only; omega)) _
        all_goals exact Kept.refl _ _
      · rintro e w2 ⟨rfl, hb2⟩
        have HI1 := Lib.hid (HI0.out.go hb2)
        have HST := Lib.hid (show startB ts[q] = true by rw [HSB.out, hs])
        obtain ⟨c0, c1, c2, c3⟩ := blk4 HI1.out.st
        have hl0 := lt_of_some HI1.out.st
        clear hb2 hs
        go_upto_region 6 with fail
        rcases items_inv (by rw [← HDR.out]; exact HI1.out.ps) with ⟨hs0, _⟩ | ⟨_, ⟨ns, l1, o1, hpi, hpm, hok⟩ | ⟨er, ep, hpi, hok⟩⟩
        · rw [HST.out] at hs0; cases hs0
        · rw [← HDR.out] at hpi
          have HC := Lib.hid (HII.out d q _ hqh hd HST.out hpi HI1.out.ends HI1.out.le w2 (HT.out.go HI1.out.below HI1.out.below.size))
          have HPI := Lib.hid hpi
          have HPM := Lib.hid hpm
          have HOK := Lib.hid hok
          clear hpi hpm hok
          go_cut [5, 6] (fun v5 v6 wx => ∃ (gA gB q2 at2 : Nat) (kd2 op2 : Int) (tx2 : ByteArray) (x2 : Option Addr) (k2 : Nat) (ms : List MN), v5 = .pointer (some ⟨gA, 0, none⟩) ∧ v6 = .pointer (some ⟨gB, 0, none⟩) ∧ Hid (Q6 w2 gA gB (some ⟨b, of, none⟩) ts.length c q2 d 0 #[.int .i64 at2, .int .i64 kd2, .string tx2, .slice x2 ms.length k2, .int .u8 op2] wx ∧ ts.drop q2 = l1 ∧ [.node [.int .i64 at2, .int .i64 kd2, .string tx2] [.int .u8 op2] (ms.map MN.pn)] = ns ∧ RowOf wx w2.heap.size 81 3 83 5 (.slice x2 ms.length k2) ms))
          case first =>
            go_wp2_with fail
            refine HC.out.mono ?_
            rintro e w3 ⟨q2, at2, kd2, op2, tx2, x2, k2, ms, hqd, rfl, hns, hrow, hb3⟩
            have HQD := Lib.hid hqd
            have HNS := Lib.hid hns
            have HROW := Lib.hid hrow
            have HB3 := Lib.hid hb3
            clear hqd hns hrow hb3
            go_wp2_with fail
            go_meet
            exact ⟨_, _, q2, at2, kd2, op2, tx2, x2, k2, ms, rfl, rfl, q6_made HB3.out _ _, HQD.out, HNS.out, (HROW.out.go ((Kept.refl (fun _ => False) _).alloc _) (fun _ h => h.elim)).go ((Kept.refl (fun _ => False) _).alloc _) (fun _ h => h.elim)⟩
          case rest =>
            obtain ⟨gA, gB, q2, at2, kd2, op2, tx2, x2, k2, ms, rfl, rfl, H6⟩ := hcut
            obtain ⟨cA, cB, hbW, hgA, hgB⟩ := H6.out.1
            have hs3 := hbW.size
            have HB3 := Lib.hid hbW
            have hfew := HI1.out.few
            obtain ⟨a0, a1, a2, a3⟩ := blk4 cA
            obtain ⟨b0, b1, b2, b3, b4⟩ := blk5 cB
            obtain ⟨c0, c1, c2, c3⟩ := blk4 ((hbW.block _ (lt_of_some HI1.out.st)).trans HI1.out.st)
            obtain ⟨f0, f1, f2, f3, _⟩ := blk5f ((hbW.block _ (lt_of_some HI1.out.st)).trans HI1.out.st)
            obtain ⟨g0, g1, g2⟩ := blk3 ((hbW.block _ (lt_of_some HI1.out.blk)).trans HI1.out.blk)
            have hblw := lt_of_some HI1.out.blk
            have hl0 : w.heap.size < wc.heap.size := by omega
            have hl3 : w.heap.size + 1 + 1 + 1 < wc.heap.size := by omega
            have hlA := lt_of_some cA
            have hlB := lt_of_some cB
            have hnA : gA ≠ w.heap.size := by omega
            have hnB : gB ≠ w.heap.size := by omega
            have hsW := HI1.out.below.size
            have HOWN := Lib.hid (fun oc s0 s1 s2 s3 => HI1.out.own hbW (oc := oc) (s0 := s0) (s1 := s1) (s2 := s2) (s3 := s3))
            clear hbW cA cB
            go_wp2_with (first
              | (at_builtin; go_loud (refine wpList_append_lies _ rfl (.tmp 69) (.tmp 71) 79 rfl (w.heap.size + 4) 83 i0 _ 5 64 Try.underlying79 hi0 hz0 hz1 hz2 rfl (by decide) (.slice x is.length k) is.length _ (by rfl) (HOWN.out _ _ _ _ _) ⟨wc.heap.size, 0, none⟩ 1 1 [.int .i64 at2, .int .i64 kd2, .string tx2, .slice x2 ms.length k2, .int .u8 op2] (by rfl) (by rfl) (news_at _ wc.heap.size (by simp) #[.int .i64 at2, .int .i64 kd2, .string tx2, .slice x2 ms.length k2, .int .u8 op2]) (by simp [Value.oneCell']) (by omega) (by simp only [maxLen]; omega) (by omega) (by simp; omega) (wc.heap.size + 1) (by simp) ?_); intro g cap w4 hown1 hgrow hat hlt4
                 have hQ : QStep w.heap.size w2 wc w4 _ _ _ _ (.slice x is.length k) #[.int .i64 at2, .int .i64 kd2, .string tx2, .slice x2 ms.length k2, .int .u8 op2] := ⟨HB3.out, hgrow⟩
                 have HQ := Lib.hid hQ
                 have hvl := HI1.out.vlo
                 have hbb := hQ.far HI1.out.blk (by omega) (fun e => by have := hvl _ e; omega)
                 have b7 := cell_of_block (off := 2) hbb
                 have f7 := free_of_block (off := 2) hbb
                 simp only [List.getElem?_toArray, List.getElem?_cons_succ, List.getElem?_cons_zero] at b7
                 have HOW := Lib.hid hown1
                 have HAT := Lib.hid hat
                 clear hgrow hown1 hat hQ hbb hvl))
            obtain ⟨hF, hlt1⟩ := HI1.out.next HPI.out HPM.out HOK.out H6.out.2.1 H6.out.2.2.1 H6.out.2.2.2 HQ.out HOW.out (by simpa using HAT.out)
            go_roundg (ts.drop q2).length
            case measure => exact hlt1
            case rel => exact .inl ⟨_, _, _, _, _, hF⟩
        · rw [← HDR.out] at hpi
          have HC := Lib.hid (HII.out d q _ hqh hd HST.out hpi HI1.out.ends HI1.out.le w2 (HT.out.go HI1.out.below HI1.out.below.size))
          have her0 : er ≠ 0 := by rcases hpi.err56 _ _ rfl with h | h <;> omega
          have HER := Lib.hid her0
          have HOK := Lib.hid hok
          clear hpi hok her0
          go_cut [5, 6] (fun v5 v6 wx => ∃ (gA gB q2 at2 : Nat) (kd2 op2 : Int) (tx2 : ByteArray) (x2 : Option Addr) (n2 k2 : Nat), v5 = .pointer (some ⟨gA, 0, none⟩) ∧ v6 = .pointer (some ⟨gB, 0, none⟩) ∧ Hid (Q6 w2 gA gB (some ⟨b, of, none⟩) ts.length c q2 d er #[.int .i64 at2, .int .i64 kd2, .string tx2, .slice x2 n2 k2, .int .u8 op2] wx ∧ ∃ hq2 : q2 < ts.length, (ts[q2]).pos = ep))
          case first =>
            go_wp2_with fail
            refine HC.out.mono ?_
            rintro e w3 ⟨q2, hq2, at2, kd2, op2, tx2, x2, n2, k2, hqp, rfl, hb3⟩
            have HQP := Lib.hid hqp
            have HB3 := Lib.hid hb3
            clear hqp hb3
            go_wp2_with fail
            go_meet
            exact ⟨_, _, q2, at2, kd2, op2, tx2, x2, n2, k2, rfl, rfl, q6_made HB3.out _ _, hq2, HQP.out⟩
          case rest =>
            obtain ⟨gA, gB, q2, at2, kd2, op2, tx2, x2, n2, k2, rfl, rfl, H6⟩ := hcut
            obtain ⟨cA, cB, hbW, hgA, hgB⟩ := H6.out.1
            have hs3 := hbW.size
            have HB3 := Lib.hid hbW
            have hfew := HI1.out.few
            obtain ⟨a0, a1, a2, a3⟩ := blk4 cA
            obtain ⟨b0, b1, b2, b3, b4⟩ := blk5 cB
            obtain ⟨c0, c1, c2, c3⟩ := blk4 ((hbW.block _ (lt_of_some HI1.out.st)).trans HI1.out.st)
            obtain ⟨f0, f1, f2, f3, _⟩ := blk5f ((hbW.block _ (lt_of_some HI1.out.st)).trans HI1.out.st)
            obtain ⟨g0, g1, g2⟩ := blk3 ((hbW.block _ (lt_of_some HI1.out.blk)).trans HI1.out.blk)
            have hblw := lt_of_some HI1.out.blk
            have hl0 : w.heap.size < wc.heap.size := by omega
            have hl3 : w.heap.size + 1 + 1 + 1 < wc.heap.size := by omega
            have hlA := lt_of_some cA
            have hlB := lt_of_some cB
            have hnA : gA ≠ w.heap.size := by omega
            have hnB : gB ≠ w.heap.size := by omega
            have hsW := HI1.out.below.size
            have HOWN := Lib.hid (fun oc s0 s1 s2 s3 => HI1.out.own hbW (oc := oc) (s0 := s0) (s1 := s1) (s2 := s2) (s3 := s3))
            clear hbW cA cB
            go_wp2_with (first
              | (at_builtin; go_loud (refine wpList_append_lies _ rfl (.tmp 69) (.tmp 71) 79 rfl (w.heap.size + 4) 83 i0 _ 5 64 Try.underlying79 hi0 hz0 hz1 hz2 rfl (by decide) (.slice x is.length k) is.length _ (by rfl) (HOWN.out _ _ _ _ _) ⟨wc.heap.size, 0, none⟩ 1 1 [.int .i64 at2, .int .i64 kd2, .string tx2, .slice x2 n2 k2, .int .u8 op2] (by rfl) (by rfl) (news_at _ wc.heap.size (by simp) #[.int .i64 at2, .int .i64 kd2, .string tx2, .slice x2 n2 k2, .int .u8 op2]) (by simp [Value.oneCell']) (by omega) (by simp only [maxLen]; omega) (by omega) (by simp; omega) (wc.heap.size + 1) (by simp) ?_); intro g cap w4 hown1 hgrow hat hlt4
                 have hQ : QStep w.heap.size w2 wc w4 _ _ _ _ (.slice x is.length k) #[.int .i64 at2, .int .i64 kd2, .string tx2, .slice x2 n2 k2, .int .u8 op2] := ⟨HB3.out, hgrow⟩
                 have HQ := Lib.hid hQ
                 have hvl := HI1.out.vlo
                 have hbb := hQ.far HI1.out.blk (by omega) (fun e => by have := hvl _ e; omega)
                 have b7 := cell_of_block (off := 2) hbb
                 have f7 := free_of_block (off := 2) hbb
                 simp only [List.getElem?_toArray, List.getElem?_cons_succ, List.getElem?_cons_zero] at b7
                 have HOW := Lib.hid hown1
                 have HAT := Lib.hid hat
                 clear hgrow hown1 hat hQ hbb hvl))
            obtain ⟨hq2, hqp⟩ := H6.out.2
            have hF := HI1.out.fail hq2 HER.out (by rw [HOK.out, hqp]) HQ.out g cap
            go_roundg 0
            case measure => have := HI1.out.len; have := HI1.out.hq; simp only [List.length_drop] at *; omega
            case rel => exact .inr ⟨rfl, _, _, _, _, _, hF⟩
    · subst hm0
      have HEv := Lib.hid hE
      obtain ⟨c0, c1, c2, c3⟩ := blk4 hE.st
      obtain ⟨d0, d1, d2, d3⟩ := blk4 hE.z1
      obtain ⟨e0, e1, e2⟩ := blk3 hE.z2
      obtain ⟨g0, g1, g2⟩ := blk3 hE.blk
      obtain ⟨u0, u1, u2, u3, _⟩ := blk5f hE.z1
      obtain ⟨v0, v1, v2, _, _⟩ := blk5f hE.z2
      have hl0 := lt_of_some hE.st
      have hl1 := lt_of_some hE.z1
      have hl2 := lt_of_some hE.z2
      have hl3 := lt_of_some hE.blk
      have her : (er == 0) = false := by simpa using hE.er0
      clear hE hrel x0 x1 x2 x3 y0 y1 HAI
      go_wp2_with fail
      go_region
      all_goals go_wp2
      all_goals refine bodyPost_ret (v := .tuple #[.agg #[.slice (some ⟨b, of, none⟩) ts.length c, .int .i64 q, .int .i64 d, .int .i64 er], .agg #[.int .i64 ps, .float .f64 0, .slice x n' k]]) (by simp [results, Try.results59, go_sem, *]) rfl ?_
      all_goals rw [HEv.out.out]
      all_goals refine ⟨q, HEv.out.hq, ps, 0, x, n', k, rfl, rfl, ?_⟩
      all_goals refine Below.drew ?_
      all_goals repeat refine Below.setCell ?_ (by dsimp only; omega) _
      all_goals exact HEv.out.below
end Go.Proofs.Yticdihfjnmjkmaa
namespace Go.Proofs.Yticdihfjnmjkmaa
open Go.RowKit
attribute [local go_sem] run_store_float
set_option maxRecDepth 100000 in
set_option maxHeartbeats 8000000 in
theorem qalt_w {a : Option Addr} {c : Nat} {ts : List Tok} {n : Nat} (hl : ts.length ≤ 100000) (HI : QItemAny a c ts n) {w : World} {p d : Nat} (hd : d ≤ 16) (hT : ToksAt w w.heap.size a ts) (hp : p < ts.length) (hk : (ts[p]).kind = 3) (hp1 : p + 1 < ts.length) {o : Out} (hps : Ps .items d (ts.drop (p + 1)) o) (he : Ends (ts.drop (p + 1))) (hn : (ts.drop (p + 1)).length ≤ n) :
    Calls Try.prog 59 #[.agg #[.slice a ts.length c, .int .i64 p, .int .i64 d, .int .i64 0]] w (QAltPost a c ts d (o.alt ts[p]) w) := by
  have HT := Lib.hid hT
  have HII := Lib.hid HI
  obtain ⟨i0, hi0, hz0, hz1, hz2⟩ := info_parts info83
  obtain ⟨b, of, rfl, hb, x0, x1, x2, x3⟩ := hT.cells0 (p := p) (by omega)
  have hpi : (p : Int) < ts.length := by omega
  have hne : b ≠ w.heap.size := by omega
  have y0 := fun o0 o1 o2 o3 => tok_alloc4 hb x0 o0 o1 o2 o3
  have y1 := fun o0 o1 o2 => tok_alloc hb x1 o0 o1 o2
  have y3 := fun o0 o1 o2 o3 => tok_alloc4 hb x3 o0 o1 o2 o3
  clear hT HI
  have hif : (if (ts[p]).kind = 3 then (ts[p]).wt else 0) = (ts[p]).wt := if_pos hk
  have HIF := Lib.hid hif
  have hk1 : ((ts[p]).kind == 3) = true := by simpa using hk
  have HPS := Lib.hid (show (ts[p]).pos = (ts[p]).pos from rfl)
  have hA : QAltInv (some ⟨b, of, none⟩) c ts d n w.heap.size (ts[p]).pos (ts[p]).wt o w ((((w.alloc (.cells #[.slice (some ⟨b, of, none⟩) ts.length c, .int .i64 (p + 1), .int .i64 d, .int .i64 0] 75)).alloc (.cells #[.slice none 0 0, .int .i64 0, .int .i64 0, .int .i64 0] 75)).alloc (.cells #[.int .i64 0, .float .f64 0, .slice none 0 0] 81)).alloc (.cells #[.int .i64 (ts[p]).pos, .float .f64 (ts[p]).wt, .slice none 0 0] 81)) (ts.drop (p + 1)).length (p + 1) [] none 0 o := by
    obtain ⟨m0, m1, m2, m3⟩ := four_made w (.cells #[.slice (some ⟨b, of, none⟩) ts.length c, .int .i64 (p + 1), .int .i64 d, .int .i64 0] 75) (.cells #[.slice none 0 0, .int .i64 0, .int .i64 0, .int .i64 0] 75) (.cells #[.int .i64 0, .float .f64 0, .slice none 0 0] 81) (.cells #[.int .i64 (ts[p]).pos, .float .f64 (ts[p]).wt, .slice none 0 0] 81)
    exact ⟨hp1, rfl, hn, by simp only [List.length_nil, List.length_drop]; omega, he, m0, m1, m2, m3, RowOf.nil _ _ _ _ _ _, below_4a _ _ _ _ _, hps, (Out.pres_nil _).symm, rfl⟩
  have HAI := Lib.hid hA
  have hO : QAltPost (some ⟨b, of, none⟩) c ts d (o.alt ts[p]) w = QAltPost (some ⟨b, of, none⟩) c ts d (o.alt ts[p]) w := rfl
  clear hA hk hif hps he hn hO
  generalize hpp : (ts[p]).pos = ps at *
  have HPP := Lib.hid hpp
  generalize hkd : (ts[p]).kind = kd at *
  have HKD := Lib.hid hkd
  clear hkd
  clear hpp
  generalize hww : (ts[p]).wt = wt at *
  have HWW := Lib.hid hww
  clear hww
  go_enter Try.func59, Try.ntmps59
  go_wp2_with fail
  go_loopg [] (ts.drop (p + 1)).length (fun m wr => Hid (QAltRel (some ⟨b, of, none⟩) c ts d n w.heap.size ps wt o w m wr))
  case atStart => exact .inl ⟨p + 1, [], none, 0, o, HAI.out⟩
  case round =>
    rcases hrel.out with ⟨q, is, x, k, ok, hI⟩ | ⟨hm0, q, er, x, n', k, hE⟩
    · have hqh := hI.hq
      have hIb := hI.below
      obtain ⟨b', of', hbo, hb', t0, t1, t2, t3⟩ := (HT.out.go hIb hIb.size).cells0 hqh
      obtain ⟨rfl, rfl⟩ : b = b' ∧ of = of' := by simpa using hbo
      have HI0 := Lib.hid hI
      have HDR := Lib.hid (show ts.drop q = ts[q] :: ts.drop (q + 1) from List.drop_eq_getElem_cons hqh)
      obtain ⟨c0, c1, c2, c3⟩ := blk4 hI.st
      have hl0 := lt_of_some hI.st
      have hqi : (q : Int) < ts.length := by omega
      clear hI hrel hIb hbo x0 x1 x2 x3 y0 y1 y3 HAI t1 t2 t3
      by_cases h1 : (ts[q]).kind = 1
      · have hst : startB ts[q] = true := by unfold startB; simp [h1]
        have HST := Lib.hid hst
        rw [h1] at t0
        clear hst h1
        go_upto_region 6 with fail
        rcases items_inv (by rw [← HDR.out]; exact HI0.out.ps) with ⟨hs0, _⟩ | ⟨_, ⟨ns, l1, o1, hpi, hpm, hok⟩ | ⟨er, ep, hpi, hok⟩⟩
        · rw [HST.out] at hs0; cases hs0
        · rw [← HDR.out] at hpi
          have HC := Lib.hid (HII.out d q _ hqh hd HST.out hpi HI0.out.ends HI0.out.le wr (HT.out.go HI0.out.below HI0.out.below.size))
          have HPI := Lib.hid hpi
          have HPM := Lib.hid hpm
          have HOK := Lib.hid hok
          clear hpi hpm hok
          go_cut [5, 6] (fun v5 v6 wx => ∃ (gA gB q2 at2 : Nat) (kd2 op2 : Int) (tx2 : ByteArray) (x2 : Option Addr) (k2 : Nat) (ms : List MN), v5 = .pointer (some ⟨gA, 0, none⟩) ∧ v6 = .pointer (some ⟨gB, 0, none⟩) ∧ Hid (Q6 wr gA gB (some ⟨b, of, none⟩) ts.length c q2 d 0 #[.int .i64 at2, .int .i64 kd2, .string tx2, .slice x2 ms.length k2, .int .u8 op2] wx ∧ ts.drop q2 = l1 ∧ [.node [.int .i64 at2, .int .i64 kd2, .string tx2] [.int .u8 op2] (ms.map MN.pn)] = ns ∧ RowOf wx wr.heap.size 81 3 83 5 (.slice x2 ms.length k2) ms))
          case first =>
            go_wp2_with fail
            refine HC.out.mono ?_
            rintro e w3 ⟨q2, at2, kd2, op2, tx2, x2, k2, ms, hqd, rfl, hns, hrow, hb3⟩
            have HQD := Lib.hid hqd
            have HNS := Lib.hid hns
            have HROW := Lib.hid hrow
            have HB3 := Lib.hid hb3
            clear hqd hns hrow hb3
            go_wp2_with fail
            go_meet
            exact ⟨_, _, q2, at2, kd2, op2, tx2, x2, k2, ms, rfl, rfl, q6_made HB3.out _ _, HQD.out, HNS.out, (HROW.out.go ((Kept.refl (fun _ => False) _).alloc _) (fun _ h => h.elim)).go ((Kept.refl (fun _ => False) _).alloc _) (fun _ h => h.elim)⟩
          case rest =>
            obtain ⟨gA, gB, q2, at2, kd2, op2, tx2, x2, k2, ms, rfl, rfl, H6⟩ := hcut
            obtain ⟨cA, cB, hbW, hgA, hgB⟩ := H6.out.1
            have hs3 := hbW.size
            have HB3 := Lib.hid hbW
            have hfew := HI0.out.few
            obtain ⟨a0, a1, a2, a3⟩ := blk4 cA
            obtain ⟨b0, b1, b2, b3, b4⟩ := blk5 cB
            obtain ⟨c0, c1, c2, c3⟩ := blk4 ((hbW.block _ (lt_of_some HI0.out.st)).trans HI0.out.st)
            obtain ⟨f0, f1, f2, f3, _⟩ := blk5f ((hbW.block _ (lt_of_some HI0.out.st)).trans HI0.out.st)
            obtain ⟨g0, g1, g2⟩ := blk3 ((hbW.block _ (lt_of_some HI0.out.blk)).trans HI0.out.blk)
            have hblw := lt_of_some HI0.out.blk
            have hl0 : w.heap.size < wc.heap.size := by omega
            have hl3 : w.heap.size + 1 + 1 + 1 < wc.heap.size := by omega
            have hlA := lt_of_some cA
            have hlB := lt_of_some cB
            have hnA : gA ≠ w.heap.size := by omega
            have hnB : gB ≠ w.heap.size := by omega
            have hsW := HI0.out.below.size
            have HOWN := Lib.hid (fun oc s0 s1 s2 s3 => HI0.out.own hbW (oc := oc) (s0 := s0) (s1 := s1) (s2 := s2) (s3 := s3))
            clear hbW cA cB
            go_wp2_with (first
              | (at_builtin; go_loud (refine wpList_append_lies _ rfl (.tmp 69) (.tmp 71) 79 rfl (w.heap.size + 4) 83 i0 _ 5 64 Try.underlying79 hi0 hz0 hz1 hz2 rfl (by decide) (.slice x is.length k) is.length _ (by rfl) (HOWN.out _ _ _ _ _) ⟨wc.heap.size, 0, none⟩ 1 1 [.int .i64 at2, .int .i64 kd2, .string tx2, .slice x2 ms.length k2, .int .u8 op2] (by rfl) (by rfl) (news_at _ wc.heap.size (by simp) #[.int .i64 at2, .int .i64 kd2, .string tx2, .slice x2 ms.length k2, .int .u8 op2]) (by simp [Value.oneCell']) (by omega) (by simp only [maxLen]; omega) (by omega) (by simp; omega) (wc.heap.size + 1) (by simp) ?_); intro g cap w4 hown1 hgrow hat hlt4
                 have hQ : QStep w.heap.size wr wc w4 _ _ _ _ (.slice x is.length k) #[.int .i64 at2, .int .i64 kd2, .string tx2, .slice x2 ms.length k2, .int .u8 op2] := ⟨HB3.out, hgrow⟩
                 have HQ := Lib.hid hQ
                 have hvl := HI0.out.vlo
                 have hbb := hQ.far HI0.out.blk (by omega) (fun e => by have := hvl _ e; omega)
                 have b7 := cell_of_block (off := 2) hbb
                 have f7 := free_of_block (off := 2) hbb
                 simp only [List.getElem?_toArray, List.getElem?_cons_succ, List.getElem?_cons_zero] at b7
                 have HOW := Lib.hid hown1
                 have HAT := Lib.hid hat
                 clear hgrow hown1 hat hQ hbb hvl))
            obtain ⟨hF, hlt1⟩ := HI0.out.next HPI.out HPM.out HOK.out H6.out.2.1 H6.out.2.2.1 H6.out.2.2.2 HQ.out HOW.out (by simpa using HAT.out)
            go_roundg (ts.drop q2).length
            case measure => exact hlt1
            case rel => exact .inl ⟨_, _, _, _, _, hF⟩
        · rw [← HDR.out] at hpi
          have HC := Lib.hid (HII.out d q _ hqh hd HST.out hpi HI0.out.ends HI0.out.le wr (HT.out.go HI0.out.below HI0.out.below.size))
          have her0 : er ≠ 0 := by rcases hpi.err56 _ _ rfl with h | h <;> omega
          have HER := Lib.hid her0
          have HOK := Lib.hid hok
          clear hpi hok her0
          go_cut [5, 6] (fun v5 v6 wx => ∃ (gA gB q2 at2 : Nat) (kd2 op2 : Int) (tx2 : ByteArray) (x2 : Option Addr) (n2 k2 : Nat), v5 = .pointer (some ⟨gA, 0, none⟩) ∧ v6 = .pointer (some ⟨gB, 0, none⟩) ∧ Hid (Q6 wr gA gB (some ⟨b, of, none⟩) ts.length c q2 d er #[.int .i64 at2, .int .i64 kd2, .string tx2, .slice x2 n2 k2, .int .u8 op2] wx ∧ ∃ hq2 : q2 < ts.length, (ts[q2]).pos = ep))
          case first =>
            go_wp2_with fail
            refine HC.out.mono ?_
            rintro e w3 ⟨q2, hq2, at2, kd2, op2, tx2, x2, n2, k2, hqp, rfl, hb3⟩
            have HQP := Lib.hid hqp
            have HB3 := Lib.hid hb3
            clear hqp hb3
            go_wp2_with fail
            go_meet
            exact ⟨_, _, q2, at2, kd2, op2, tx2, x2, n2, k2, rfl, rfl, q6_made HB3.out _ _, hq2, HQP.out⟩
          case rest =>
            obtain ⟨gA, gB, q2, at2, kd2, op2, tx2, x2, n2, k2, rfl, rfl, H6⟩ := hcut
            obtain ⟨cA, cB, hbW, hgA, hgB⟩ := H6.out.1
            have hs3 := hbW.size
            have HB3 := Lib.hid hbW
            have hfew := HI0.out.few
            obtain ⟨a0, a1, a2, a3⟩ := blk4 cA
            obtain ⟨b0, b1, b2, b3, b4⟩ := blk5 cB
            obtain ⟨c0, c1, c2, c3⟩ := blk4 ((hbW.block _ (lt_of_some HI0.out.st)).trans HI0.out.st)
            obtain ⟨f0, f1, f2, f3, _⟩ := blk5f ((hbW.block _ (lt_of_some HI0.out.st)).trans HI0.out.st)
            obtain ⟨g0, g1, g2⟩ := blk3 ((hbW.block _ (lt_of_some HI0.out.blk)).trans HI0.out.blk)
            have hblw := lt_of_some HI0.out.blk
            have hl0 : w.heap.size < wc.heap.size := by omega
            have hl3 : w.heap.size + 1 + 1 + 1 < wc.heap.size := by omega
            have hlA := lt_of_some cA
            have hlB := lt_of_some cB
            have hnA : gA ≠ w.heap.size := by omega
            have hnB : gB ≠ w.heap.size := by omega
            have hsW := HI0.out.below.size
            have HOWN := Lib.hid (fun oc s0 s1 s2 s3 => HI0.out.own hbW (oc := oc) (s0 := s0) (s1 := s1) (s2 := s2) (s3 := s3))
            clear hbW cA cB
            go_wp2_with (first
              | (at_builtin; go_loud (refine wpList_append_lies _ rfl (.tmp 69) (.tmp 71) 79 rfl (w.heap.size + 4) 83 i0 _ 5 64 Try.underlying79 hi0 hz0 hz1 hz2 rfl (by decide) (.slice x is.length k) is.length _ (by rfl) (HOWN.out _ _ _ _ _) ⟨wc.heap.size, 0, none⟩ 1 1 [.int .i64 at2, .int .i64 kd2, .string tx2, .slice x2 n2 k2, .int .u8 op2] (by rfl) (by rfl) (news_at _ wc.heap.size (by simp) #[.int .i64 at2, .int .i64 kd2, .string tx2, .slice x2 n2 k2, .int .u8 op2]) (by simp [Value.oneCell']) (by omega) (by simp only [maxLen]; omega) (by omega) (by simp; omega) (wc.heap.size + 1) (by simp) ?_); intro g cap w4 hown1 hgrow hat hlt4
                 have hQ : QStep w.heap.size wr wc w4 _ _ _ _ (.slice x is.length k) #[.int .i64 at2, .int .i64 kd2, .string tx2, .slice x2 n2 k2, .int .u8 op2] := ⟨HB3.out, hgrow⟩
                 have HQ := Lib.hid hQ
                 have hvl := HI0.out.vlo
                 have hbb := hQ.far HI0.out.blk (by omega) (fun e => by have := hvl _ e; omega)
                 have b7 := cell_of_block (off := 2) hbb
                 have f7 := free_of_block (off := 2) hbb
                 simp only [List.getElem?_toArray, List.getElem?_cons_succ, List.getElem?_cons_zero] at b7
                 have HOW := Lib.hid hown1
                 have HAT := Lib.hid hat
                 clear hgrow hown1 hat hQ hbb hvl))
            obtain ⟨hq2, hqp⟩ := H6.out.2
            have hF := HI0.out.fail hq2 HER.out (by rw [HOK.out, hqp]) HQ.out g cap
            go_roundg 0
            case measure => have := HI0.out.len; have := HI0.out.hq; simp only [List.length_drop] at *; omega
            case rel => exact .inr ⟨rfl, _, _, _, _, _, hF⟩
      by_cases h2 : (ts[q]).kind = 2
      · have hst : startB ts[q] = true := by unfold startB; simp [h2]
        have HST := Lib.hid hst
        rw [h2] at t0
        clear hst h1 h2
        go_upto_region 6 with fail
        rcases items_inv (by rw [← HDR.out]; exact HI0.out.ps) with ⟨hs0, _⟩ | ⟨_, ⟨ns, l1, o1, hpi, hpm, hok⟩ | ⟨er, ep, hpi, hok⟩⟩
        · rw [HST.out] at hs0; cases hs0
        · rw [← HDR.out] at hpi
          have HC := Lib.hid (HII.out d q _ hqh hd HST.out hpi HI0.out.ends HI0.out.le wr (HT.out.go HI0.out.below HI0.out.below.size))
          have HPI := Lib.hid hpi
          have HPM := Lib.hid hpm
          have HOK := Lib.hid hok
          clear hpi hpm hok
          go_cut [5, 6] (fun v5 v6 wx => ∃ (gA gB q2 at2 : Nat) (kd2 op2 : Int) (tx2 : ByteArray) (x2 : Option Addr) (k2 : Nat) (ms : List MN), v5 = .pointer (some ⟨gA, 0, none⟩) ∧ v6 = .pointer (some ⟨gB, 0, none⟩) ∧ Hid (Q6 wr gA gB (some ⟨b, of, none⟩) ts.length c q2 d 0 #[.int .i64 at2, .int .i64 kd2, .string tx2, .slice x2 ms.length k2, .int .u8 op2] wx ∧ ts.drop q2 = l1 ∧ [.node [.int .i64 at2, .int .i64 kd2, .string tx2] [.int .u8 op2] (ms.map MN.pn)] = ns ∧ RowOf wx wr.heap.size 81 3 83 5 (.slice x2 ms.length k2) ms))
          case first =>
            go_wp2_with fail
            refine HC.out.mono ?_
            rintro e w3 ⟨q2, at2, kd2, op2, tx2, x2, k2, ms, hqd, rfl, hns, hrow, hb3⟩
            have HQD := Lib.hid hqd
            have HNS := Lib.hid hns
            have HROW := Lib.hid hrow
            have HB3 := Lib.hid hb3
            clear hqd hns hrow hb3
            go_wp2_with fail
            go_meet
            exact ⟨_, _, q2, at2, kd2, op2, tx2, x2, k2, ms, rfl, rfl, q6_made HB3.out _ _, HQD.out, HNS.out, (HROW.out.go ((Kept.refl (fun _ => False) _).alloc _) (fun _ h => h.elim)).go ((Kept.refl (fun _ => False) _).alloc _) (fun _ h => h.elim)⟩
          case rest =>
            obtain ⟨gA, gB, q2, at2, kd2, op2, tx2, x2, k2, ms, rfl, rfl, H6⟩ := hcut
            obtain ⟨cA, cB, hbW, hgA, hgB⟩ := H6.out.1
            have hs3 := hbW.size
            have HB3 := Lib.hid hbW
            have hfew := HI0.out.few
            obtain ⟨a0, a1, a2, a3⟩ := blk4 cA
            obtain ⟨b0, b1, b2, b3, b4⟩ := blk5 cB
            obtain ⟨c0, c1, c2, c3⟩ := blk4 ((hbW.block _ (lt_of_some HI0.out.st)).trans HI0.out.st)
            obtain ⟨f0, f1, f2, f3, _⟩ := blk5f ((hbW.block _ (lt_of_some HI0.out.st)).trans HI0.out.st)
            obtain ⟨g0, g1, g2⟩ := blk3 ((hbW.block _ (lt_of_some HI0.out.blk)).trans HI0.out.blk)
            have hblw := lt_of_some HI0.out.blk
            have hl0 : w.heap.size < wc.heap.size := by omega
            have hl3 : w.heap.size + 1 + 1 + 1 < wc.heap.size := by omega
            have hlA := lt_of_some cA
            have hlB := lt_of_some cB
            have hnA : gA ≠ w.heap.size := by omega
            have hnB : gB ≠ w.heap.size := by omega
            have hsW := HI0.out.below.size
            have HOWN := Lib.hid (fun oc s0 s1 s2 s3 => HI0.out.own hbW (oc := oc) (s0 := s0) (s1 := s1) (s2 := s2) (s3 := s3))
            clear hbW cA cB
            go_wp2_with (first
              | (at_builtin; go_loud (refine wpList_append_lies _ rfl (.tmp 69) (.tmp 71) 79 rfl (w.heap.size + 4) 83 i0 _ 5 64 Try.underlying79 hi0 hz0 hz1 hz2 rfl (by decide) (.slice x is.length k) is.length _ (by rfl) (HOWN.out _ _ _ _ _) ⟨wc.heap.size, 0, none⟩ 1 1 [.int .i64 at2, .int .i64 kd2, .string tx2, .slice x2 ms.length k2, .int .u8 op2] (by rfl) (by rfl) (news_at _ wc.heap.size (by simp) #[.int .i64 at2, .int .i64 kd2, .string tx2, .slice x2 ms.length k2, .int .u8 op2]) (by simp [Value.oneCell']) (by omega) (by simp only [maxLen]; omega) (by omega) (by simp; omega) (wc.heap.size + 1) (by simp) ?_); intro g cap w4 hown1 hgrow hat hlt4
                 have hQ : QStep w.heap.size wr wc w4 _ _ _ _ (.slice x is.length k) #[.int .i64 at2, .int .i64 kd2, .string tx2, .slice x2 ms.length k2, .int .u8 op2] := ⟨HB3.out, hgrow⟩
                 have HQ := Lib.hid hQ
                 have hvl := HI0.out.vlo
                 have hbb := hQ.far HI0.out.blk (by omega) (fun e => by have := hvl _ e; omega)
                 have b7 := cell_of_block (off := 2) hbb
                 have f7 := free_of_block (off := 2) hbb
                 simp only [List.getElem?_toArray, List.getElem?_cons_succ, List.getElem?_cons_zero] at b7
                 have HOW := Lib.hid hown1
                 have HAT := Lib.hid hat
                 clear hgrow hown1 hat hQ hbb hvl))
            obtain ⟨hF, hlt1⟩ := HI0.out.next HPI.out HPM.out HOK.out H6.out.2.1 H6.out.2.2.1 H6.out.2.2.2 HQ.out HOW.out (by simpa using HAT.out)
            go_roundg (ts.drop q2).length
            case measure => exact hlt1
            case rel => exact .inl ⟨_, _, _, _, _, hF⟩
        · rw [← HDR.out] at hpi
          have HC := Lib.hid (HII.out d q _ hqh hd HST.out hpi HI0.out.ends HI0.out.le wr (HT.out.go HI0.out.below HI0.out.below.size))
          have her0 : er ≠ 0 := by rcases hpi.err56 _ _ rfl with h | h <;> omega
          have HER := Lib.hid her0
          have HOK := Lib.hid hok
          clear hpi hok her0
          go_cut [5, 6] (fun v5 v6 wx => ∃ (gA gB q2 at2 : Nat) (kd2 op2 : Int) (tx2 : ByteArray) (x2 : Option Addr) (n2 k2 : Nat), v5 = .pointer (some ⟨gA, 0, none⟩) ∧ v6 = .pointer (some ⟨gB, 0, none⟩) ∧ Hid (Q6 wr gA gB (some ⟨b, of, none⟩) ts.length c q2 d er #[.int .i64 at2, .int .i64 kd2, .string tx2, .slice x2 n2 k2, .int .u8 op2] wx ∧ ∃ hq2 : q2 < ts.length, (ts[q2]).pos = ep))
          case first =>
            go_wp2_with fail
            refine HC.out.mono ?_
            rintro e w3 ⟨q2, hq2, at2, kd2, op2, tx2, x2, n2, k2, hqp, rfl, hb3⟩
            have HQP := Lib.hid hqp
            have HB3 := Lib.hid hb3
            clear hqp hb3
            go_wp2_with fail
            go_meet
            exact ⟨_, _, q2, at2, kd2, op2, tx2, x2, n2, k2, rfl, rfl, q6_made HB3.out _ _, hq2, HQP.out⟩
          case rest =>
            obtain ⟨gA, gB, q2, at2, kd2, op2, tx2, x2, n2, k2, rfl, rfl, H6⟩ := hcut
            obtain ⟨cA, cB, hbW, hgA, hgB⟩ := H6.out.1
            have hs3 := hbW.size
            have HB3 := Lib.hid hbW
            have hfew := HI0.out.few
            obtain ⟨a0, a1, a2, a3⟩ := blk4 cA
            obtain ⟨b0, b1, b2, b3, b4⟩ := blk5 cB
            obtain ⟨c0, c1, c2, c3⟩ := blk4 ((hbW.block _ (lt_of_some HI0.out.st)).trans HI0.out.st)
            obtain ⟨f0, f1, f2, f3, _⟩ := blk5f ((hbW.block _ (lt_of_some HI0.out.st)).trans HI0.out.st)
            obtain ⟨g0, g1, g2⟩ := blk3 ((hbW.block _ (lt_of_some HI0.out.blk)).trans HI0.out.blk)
            have hblw := lt_of_some HI0.out.blk
            have hl0 : w.heap.size < wc.heap.size := by omega
            have hl3 : w.heap.size + 1 + 1 + 1 < wc.heap.size := by omega
            have hlA := lt_of_some cA
            have hlB := lt_of_some cB
            have hnA : gA ≠ w.heap.size := by omega
            have hnB : gB ≠ w.heap.size := by omega
            have hsW := HI0.out.below.size
            have HOWN := Lib.hid (fun oc s0 s1 s2 s3 => HI0.out.own hbW (oc := oc) (s0 := s0) (s1 := s1) (s2 := s2) (s3 := s3))
            clear hbW cA cB
            go_wp2_with (first
              | (at_builtin; go_loud (refine wpList_append_lies _ rfl (.tmp 69) (.tmp 71) 79 rfl (w.heap.size + 4) 83 i0 _ 5 64 Try.underlying79 hi0 hz0 hz1 hz2 rfl (by decide) (.slice x is.length k) is.length _ (by rfl) (HOWN.out _ _ _ _ _) ⟨wc.heap.size, 0, none⟩ 1 1 [.int .i64 at2, .int .i64 kd2, .string tx2, .slice x2 n2 k2, .int .u8 op2] (by rfl) (by rfl) (news_at _ wc.heap.size (by simp) #[.int .i64 at2, .int .i64 kd2, .string tx2, .slice x2 n2 k2, .int .u8 op2]) (by simp [Value.oneCell']) (by omega) (by simp only [maxLen]; omega) (by omega) (by simp; omega) (wc.heap.size + 1) (by simp) ?_); intro g cap w4 hown1 hgrow hat hlt4
                 have hQ : QStep w.heap.size wr wc w4 _ _ _ _ (.slice x is.length k) #[.int .i64 at2, .int .i64 kd2, .string tx2, .slice x2 n2 k2, .int .u8 op2] := ⟨HB3.out, hgrow⟩
                 have HQ := Lib.hid hQ
                 have hvl := HI0.out.vlo
                 have hbb := hQ.far HI0.out.blk (by omega) (fun e => by have := hvl _ e; omega)
                 have b7 := cell_of_block (off := 2) hbb
                 have f7 := free_of_block (off := 2) hbb
                 simp only [List.getElem?_toArray, List.getElem?_cons_succ, List.getElem?_cons_zero] at b7
                 have HOW := Lib.hid hown1
                 have HAT := Lib.hid hat
                 clear hgrow hown1 hat hQ hbb hvl))
            obtain ⟨hq2, hqp⟩ := H6.out.2
            have hF := HI0.out.fail hq2 HER.out (by rw [HOK.out, hqp]) HQ.out g cap
            go_roundg 0
            case measure => have := HI0.out.len; have := HI0.out.hq; simp only [List.length_drop] at *; omega
            case rel => exact .inr ⟨rfl, _, _, _, _, _, hF⟩
      have k1 : ((ts[q]).kind == 1) = false := by simpa using h1
      have k2 : ((ts[q]).kind == 2) = false := by simpa using h2
      have HSB := Lib.hid (show startB ts[q] = sgnB ts[q] [40] by unfold startB; simp [h1, h2])
      have HS := Lib.hid (qsign_any (c := c) (d := d) (e := 0) (HT.out.go HI0.out.below HI0.out.below.size) hqh [40])
      generalize (ts[q]).kind = kq at *
      clear h1 h2
      go_wp2_with fail
      refine HS.out.mono ?_
      cases hs : sgnB ts[q] [40]
      · rintro e w2 ⟨rfl, hb2⟩
        have HI1 := Lib.hid (HI0.out.go hb2)
        have HSG := Lib.hid hs
        rcases items_inv (by rw [← HDR.out]; exact HI0.out.ps) with ⟨_, hok⟩ | ⟨hs0, _⟩
        rotate_left
        · rw [HSB.out, hs] at hs0; cases hs0
        have HOK := Lib.hid hok
        obtain ⟨c0, c1, c2, c3⟩ := blk4 HI1.out.st
        obtain ⟨d0, d1, d2, d3⟩ := blk4 HI1.out.z1
        obtain ⟨e0, e1, e2⟩ := blk3 HI1.out.z2
        obtain ⟨g0, g1, g2⟩ := blk3 HI1.out.blk
        obtain ⟨u0, u1, u2, u3, _⟩ := blk5f HI1.out.z1
        obtain ⟨v0, v1, v2, _, _⟩ := blk5f HI1.out.z2
        have hl0 := lt_of_some HI1.out.st
        have hl1 := lt_of_some HI1.out.z1
        have hl2 := lt_of_some HI1.out.z2
        have hl3 := lt_of_some HI1.out.blk
        clear hb2 hs hok
        go_wp2_with fail
        go_region
        all_goals go_wp2
        all_goals refine bodyPost_ret (v := .tuple #[.agg #[.slice (some ⟨b, of, none⟩) ts.length c, .int .i64 q, .int .i64 d, .int .i64 0], .agg #[.int .i64 ps, .float .f64 wt, .slice x is.length k]]) (by simp [results, Try.results59, go_sem, *]) rfl ?_
        all_goals rw [HI1.out.out, HOK.out, ← HDR.out]
        all_goals refine ⟨q, ps, wt, x, k, is, rfl, rfl, by simp only [HKD.out, HWW.out, HIF.out, HPP.out, List.append_nil], ?_, ?_⟩
        any_goals refine Below.drew ?_
        any_goals repeat refine Below.setCell ?_ (by dsimp only; omega) _
        any_goals exact HI1.out.below
        all_goals refine RowOf.low2 (lo := w.heap.size + 4) (by omega) (RowOf.go (S := fun k => k < w.heap.size + 4) HI1.out.row ?_ (fun k hk => hk))
        all_goals refine Kept.drew ?_
        all_goals repeat refine Kept.setCell (S := fun k => k < w.heap.size + 4) ?_ (.inl (by dsimp only; omega)) _
        all_goals exact Kept.refl _ _
      · rintro e w2 ⟨rfl, hb2⟩
        have HI1 := Lib.hid (HI0.out.go hb2)
        have HST := Lib.hid (show startB ts[q] = true by rw [HSB.out, hs])
        obtain ⟨c0, c1, c2, c3⟩ := blk4 HI1.out.st
        have hl0 := lt_of_some HI1.out.st
        clear hb2 hs
        go_upto_region 6 with fail
        rcases items_inv (by rw [← HDR.out]; exact HI1.out.ps) with ⟨hs0, _⟩ | ⟨_, ⟨ns, l1, o1, hpi, hpm, hok⟩ | ⟨er, ep, hpi, hok⟩⟩
        · rw [HST.out] at hs0; cases hs0
        · rw [← HDR.out] at hpi
          have HC := Lib.hid (HII.out d q _ hqh hd HST.out hpi HI1.out.ends HI1.out.le w2 (HT.out.go HI1.out.below HI1.out.below.size))
          have HPI := Lib.hid hpi
          have HPM := Lib.hid hpm
          have HOK := Lib.hid hok
          clear hpi hpm hok
          go_cut [5, 6] (fun v5 v6 wx => ∃ (gA gB q2 at2 : Nat) (kd2 op2 : Int) (tx2 : ByteArray) (x2 : Option Addr) (k2 : Nat) (ms : List MN), v5 = .pointer (some ⟨gA, 0, none⟩) ∧ v6 = .pointer (some ⟨gB, 0, none⟩) ∧ Hid (Q6 w2 gA gB (some ⟨b, of, none⟩) ts.length c q2 d 0 #[.int .i64 at2, .int .i64 kd2, .string tx2, .slice x2 ms.length k2, .int .u8 op2] wx ∧ ts.drop q2 = l1 ∧ [.node [.int .i64 at2, .int .i64 kd2, .string tx2] [.int .u8 op2] (ms.map MN.pn)] = ns ∧ RowOf wx w2.heap.size 81 3 83 5 (.slice x2 ms.length k2) ms))
          case first =>
            go_wp2_with fail
            refine HC.out.mono ?_
            rintro e w3 ⟨q2, at2, kd2, op2, tx2, x2, k2, ms, hqd, rfl, hns, hrow, hb3⟩
            have HQD := Lib.hid hqd
            have HNS := Lib.hid hns
            have HROW := Lib.hid hrow
            have HB3 := Lib.hid hb3
            clear hqd hns hrow hb3
            go_wp2_with fail
            go_meet
            exact ⟨_, _, q2, at2, kd2, op2, tx2, x2, k2, ms, rfl, rfl, q6_made HB3.out _ _, HQD.out, HNS.out, (HROW.out.go ((Kept.refl (fun _ => False) _).alloc _) (fun _ h => h.elim)).go ((Kept.refl (fun _ => False) _).alloc _) (fun _ h => h.elim)⟩
          case rest =>
            obtain ⟨gA, gB, q2, at2, kd2, op2, tx2, x2, k2, ms, rfl, rfl, H6⟩ := hcut
            obtain ⟨cA, cB, hbW, hgA, hgB⟩ := H6.out.1
            have hs3 := hbW.size
            have HB3 := Lib.hid hbW
            have hfew := HI1.out.few
            obtain ⟨a0, a1, a2, a3⟩ := blk4 cA
            obtain ⟨b0, b1, b2, b3, b4⟩ := blk5 cB
            obtain ⟨c0, c1, c2, c3⟩ := blk4 ((hbW.block _ (lt_of_some HI1.out.st)).trans HI1.out.st)
            obtain ⟨f0, f1, f2, f3, _⟩ := blk5f ((hbW.block _ (lt_of_some HI1.out.st)).trans HI1.out.st)
            obtain ⟨g0, g1, g2⟩ := blk3 ((hbW.block _ (lt_of_some HI1.out.blk)).trans HI1.out.blk)
            have hblw := lt_of_some HI1.out.blk
            have hl0 : w.heap.size < wc.heap.size := by omega
            have hl3 : w.heap.size + 1 + 1 + 1 < wc.heap.size := by omega
            have hlA := lt_of_some cA
            have hlB := lt_of_some cB
            have hnA : gA ≠ w.heap.size := by omega
            have hnB : gB ≠ w.heap.size := by omega
            have hsW := HI1.out.below.size
            have HOWN := Lib.hid (fun oc s0 s1 s2 s3 => HI1.out.own hbW (oc := oc) (s0 := s0) (s1 := s1) (s2 := s2) (s3 := s3))
            clear hbW cA cB
            go_wp2_with (first
              | (at_builtin; go_loud (refine wpList_append_lies _ rfl (.tmp 69) (.tmp 71) 79 rfl (w.heap.size + 4) 83 i0 _ 5 64 Try.underlying79 hi0 hz0 hz1 hz2 rfl (by decide) (.slice x is.length k) is.length _ (by rfl) (HOWN.out _ _ _ _ _) ⟨wc.heap.size, 0, none⟩ 1 1 [.int .i64 at2, .int .i64 kd2, .string tx2, .slice x2 ms.length k2, .int .u8 op2] (by rfl) (by rfl) (news_at _ wc.heap.size (by simp) #[.int .i64 at2, .int .i64 kd2, .string tx2, .slice x2 ms.length k2, .int .u8 op2]) (by simp [Value.oneCell']) (by omega) (by simp only [maxLen]; omega) (by omega) (by simp; omega) (wc.heap.size + 1) (by simp) ?_); intro g cap w4 hown1 hgrow hat hlt4
                 have hQ : QStep w.heap.size w2 wc w4 _ _ _ _ (.slice x is.length k) #[.int .i64 at2, .int .i64 kd2, .string tx2, .slice x2 ms.length k2, .int .u8 op2] := ⟨HB3.out, hgrow⟩
                 have HQ := Lib.hid hQ
                 have hvl := HI1.out.vlo
                 have hbb := hQ.far HI1.out.blk (by omega) (fun e => by have := hvl _ e; omega)
                 have b7 := cell_of_block (off := 2) hbb
                 have f7 := free_of_block (off := 2) hbb
                 simp only [List.getElem?_toArray, List.getElem?_cons_succ, List.getElem?_cons_zero] at b7
                 have HOW := Lib.hid hown1
                 have HAT := Lib.hid hat
                 clear hgrow hown1 hat hQ hbb hvl))
            obtain ⟨hF, hlt1⟩ := HI1.out.next HPI.out HPM.out HOK.out H6.out.2.1 H6.out.2.2.1 H6.out.2.2.2 HQ.out HOW.out (by simpa using HAT.out)
            go_roundg (ts.drop q2).length
            case measure => exact hlt1
            case rel => exact .inl ⟨_, _, _, _, _, hF⟩
        · rw [← HDR.out] at hpi
          have HC := Lib.hid (HII.out d q _ hqh hd HST.out hpi HI1.out.ends HI1.out.le w2 (HT.out.go HI1.out.below HI1.out.below.size))
          have her0 : er ≠ 0 := by rcases hpi.err56 _ _ rfl with h | h <;> omega
          have HER := Lib.hid her0
          have HOK := Lib.hid hok
          clear hpi hok her0
          go_cut [5, 6] (fun v5 v6 wx => ∃ (gA gB q2 at2 : Nat) (kd2 op2 : Int) (tx2 : ByteArray) (x2 : Option Addr) (n2 k2 : Nat), v5 = .pointer (some ⟨gA, 0, none⟩) ∧ v6 = .pointer (some ⟨gB, 0, none⟩) ∧ Hid (Q6 w2 gA gB (some ⟨b, of, none⟩) ts.length c q2 d er #[.int .i64 at2, .int .i64 kd2, .string tx2, .slice x2 n2 k2, .int .u8 op2] wx ∧ ∃ hq2 : q2 < ts.length, (ts[q2]).pos = ep))
          case first =>
            go_wp2_with fail
            refine HC.out.mono ?_
            rintro e w3 ⟨q2, hq2, at2, kd2, op2, tx2, x2, n2, k2, hqp, rfl, hb3⟩
            have HQP := Lib.hid hqp
            have HB3 := Lib.hid hb3
            clear hqp hb3
            go_wp2_with fail
            go_meet
            exact ⟨_, _, q2, at2, kd2, op2, tx2, x2, n2, k2, rfl, rfl, q6_made HB3.out _ _, hq2, HQP.out⟩
          case rest =>
            obtain ⟨gA, gB, q2, at2, kd2, op2, tx2, x2, n2, k2, rfl, rfl, H6⟩ := hcut
            obtain ⟨cA, cB, hbW, hgA, hgB⟩ := H6.out.1
            have hs3 := hbW.size
            have HB3 := Lib.hid hbW
            have hfew := HI1.out.few
            obtain ⟨a0, a1, a2, a3⟩ := blk4 cA
            obtain ⟨b0, b1, b2, b3, b4⟩ := blk5 cB
            obtain ⟨c0, c1, c2, c3⟩ := blk4 ((hbW.block _ (lt_of_some HI1.out.st)).trans HI1.out.st)
            obtain ⟨f0, f1, f2, f3, _⟩ := blk5f ((hbW.block _ (lt_of_some HI1.out.st)).trans HI1.out.st)
            obtain ⟨g0, g1, g2⟩ := blk3 ((hbW.block _ (lt_of_some HI1.out.blk)).trans HI1.out.blk)
            have hblw := lt_of_some HI1.out.blk
            have hl0 : w.heap.size < wc.heap.size := by omega
            have hl3 : w.heap.size + 1 + 1 + 1 < wc.heap.size := by omega
            have hlA := lt_of_some cA
            have hlB := lt_of_some cB
            have hnA : gA ≠ w.heap.size := by omega
            have hnB : gB ≠ w.heap.size := by omega
            have hsW := HI1.out.below.size
            have HOWN := Lib.hid (fun oc s0 s1 s2 s3 => HI1.out.own hbW (oc := oc) (s0 := s0) (s1 := s1) (s2 := s2) (s3 := s3))
            clear hbW cA cB
            go_wp2_with (first
              | (at_builtin; go_loud (refine wpList_append_lies _ rfl (.tmp 69) (.tmp 71) 79 rfl (w.heap.size + 4) 83 i0 _ 5 64 Try.underlying79 hi0 hz0 hz1 hz2 rfl (by decide) (.slice x is.length k) is.length _ (by rfl) (HOWN.out _ _ _ _ _) ⟨wc.heap.size, 0, none⟩ 1 1 [.int .i64 at2, .int .i64 kd2, .string tx2, .slice x2 n2 k2, .int .u8 op2] (by rfl) (by rfl) (news_at _ wc.heap.size (by simp) #[.int .i64 at2, .int .i64 kd2, .string tx2, .slice x2 n2 k2, .int .u8 op2]) (by simp [Value.oneCell']) (by omega) (by simp only [maxLen]; omega) (by omega) (by simp; omega) (wc.heap.size + 1) (by simp) ?_); intro g cap w4 hown1 hgrow hat hlt4
                 have hQ : QStep w.heap.size w2 wc w4 _ _ _ _ (.slice x is.length k) #[.int .i64 at2, .int .i64 kd2, .string tx2, .slice x2 n2 k2, .int .u8 op2] := ⟨HB3.out, hgrow⟩
                 have HQ := Lib.hid hQ
                 have hvl := HI1.out.vlo
                 have hbb := hQ.far HI1.out.blk (by omega) (fun e => by have := hvl _ e; omega)
                 have b7 := cell_of_block (off := 2) hbb
                 have f7 := free_of_block (off := 2) hbb
                 simp only [List.getElem?_toArray, List.getElem?_cons_succ, List.getElem?_cons_zero] at b7
                 have HOW := Lib.hid hown1
                 have HAT := Lib.hid hat
                 clear hgrow hown1 hat hQ hbb hvl))
            obtain ⟨hq2, hqp⟩ := H6.out.2
            have hF := HI1.out.fail hq2 HER.out (by rw [HOK.out, hqp]) HQ.out g cap
            go_roundg 0
            case measure => have := HI1.out.len; have := HI1.out.hq; simp only [List.length_drop] at *; omega
            case rel => exact .inr ⟨rfl, _, _, _, _, _, hF⟩
    · subst hm0
      have HEv := Lib.hid hE
      obtain ⟨c0, c1, c2, c3⟩ := blk4 hE.st
      obtain ⟨d0, d1, d2, d3⟩ := blk4 hE.z1
      obtain ⟨e0, e1, e2⟩ := blk3 hE.z2
      obtain ⟨g0, g1, g2⟩ := blk3 hE.blk
      obtain ⟨u0, u1, u2, u3, _⟩ := blk5f hE.z1
      obtain ⟨v0, v1, v2, _, _⟩ := blk5f hE.z2
      have hl0 := lt_of_some hE.st
      have hl1 := lt_of_some hE.z1
      have hl2 := lt_of_some hE.z2
      have hl3 := lt_of_some hE.blk
      have her : (er == 0) = false := by simpa using hE.er0
      clear hE hrel x0 x1 x2 x3 y0 y1 y3 HAI
      go_wp2_with fail
      go_region
      all_goals go_wp2
      all_goals refine bodyPost_ret (v := .tuple #[.agg #[.slice (some ⟨b, of, none⟩) ts.length c, .int .i64 q, .int .i64 d, .int .i64 er], .agg #[.int .i64 ps, .float .f64 wt, .slice x n' k]]) (by simp [results, Try.results59, go_sem, *]) rfl ?_
      all_goals rw [HEv.out.out]
      all_goals refine ⟨q, HEv.out.hq, ps, wt, x, n', k, rfl, rfl, ?_⟩
      all_goals refine Below.drew ?_
      all_goals repeat refine Below.setCell ?_ (by dsimp only; omega) _
      all_goals exact HEv.out.below
end Go.Proofs.Yticdihfjnmjkmaa
