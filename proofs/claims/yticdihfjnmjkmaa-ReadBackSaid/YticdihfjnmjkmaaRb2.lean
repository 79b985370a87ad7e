/- ReadBack answers true, and leaves its argument as it was, for every text. No conditions. -/
import Derived.Test.YticdihfjnmjkmaaShapeA
import Derived.Test.YticdihfjnmjkmaaWriteW
import Derived.Test.YticdihfjnmjkmaaBackA
import Derived.Deep.RegionHeld3
import Derived.Test.YticdihfjnmjkmaaRows
import Derived.WalkKit
import Derived.ProofKit
import Derived.OpenShut
import Derived.ShutString
import Derived.ChangeOld
import Derived.ChangeMaps5
import Derived.Below
namespace Go.Proofs.Yticdihfjnmjkmaa
open Go.RowKit
theorem form_nf : ∀ (n : PN) (b : Bool), PN.Form b n → PN.Form b (PN.nf b n) := by
  intro n
  induction n using PN.ind with | h pre post kids ih => ?_
  intro b h
  have hk : ∀ c, PN.FormL c kids → PN.FormL c (PN.nfL c kids) := fun c hc => by
    rw [nfL_map, PN.formL_iff] at *
    intro k hk
    obtain ⟨k0, hk0, rfl⟩ := List.mem_map.1 hk
    exact ih k0 hk0 c (hc k0 hk0)
  cases b with
  | true =>
    obtain ⟨⟨a, f, rfl, rfl⟩, h2⟩ := h
    exact ⟨⟨0, numW f, rfl, rfl⟩, hk _ h2⟩
  | false =>
    obtain ⟨⟨a, kd, op, tx, rfl, rfl⟩, h2⟩ := h
    exact ⟨⟨0, kd, op, tx, rfl, rfl⟩, hk _ h2⟩
theorem formL_nf {b : Bool} {l : List PN} (h : PN.FormL b l) : PN.FormL b (PN.nfL b l) := by
  rw [nfL_map, PN.formL_iff] at *
  intro k hk
  obtain ⟨k0, hk0, rfl⟩ := List.mem_map.1 hk
  exact form_nf _ _ (h k0 hk0)
theorem few_nf (N : Nat) : ∀ (n : PN) (b : Bool), PN.Few N n → PN.Few N (PN.nf b n) := by
  intro n
  induction n using PN.ind with | h pre post kids ih => ?_
  intro b h
  obtain ⟨h1, h2⟩ := h
  have hk : ∀ c, (PN.nfL c kids).length ≤ N ∧ PN.FewL N (PN.nfL c kids) := fun c => by
    rw [nfL_map]
    refine ⟨by simpa using h1, PN.fewL_iff.2 fun k hk => ?_⟩
    obtain ⟨k0, hk0, rfl⟩ := List.mem_map.1 hk
    exact ih k0 hk0 c (PN.fewL_iff.1 h2 k0 hk0)
  cases b with
  | true => exact hk false
  | false => exact hk true
theorem fewL_nf {N : Nat} {b : Bool} {l : List PN} (h : PN.FewL N l) : PN.FewL N (PN.nfL b l) := by
  rw [nfL_map]
  refine PN.fewL_iff.2 fun k hk => ?_
  obtain ⟨k0, hk0, rfl⟩ := List.mem_map.1 hk
  exact few_nf _ _ _ (PN.fewL_iff.1 h k0 hk0)
theorem shape_all : ∀ n, ShapeAny n
  | 0 => fun t h => absurd h (by have : 0 < _root_.SizeOf.sizeOf t := by cases t; simp only [MN.node.sizeOf_spec]; omega
                                 omega)
  | n + 1 => shape_step (shape_all n)
theorem same_all2 : ∀ n, SameAny n
  | 0 => fun t _ h => absurd h (by have : 0 < _root_.SizeOf.sizeOf t := by cases t; simp only [MN.node.sizeOf_spec]; omega
                                   omega)
  | n + 1 => same_step (same_all2 n)
/-- Alternatives in memory whose shape is N. -/
def AltsN (N : List PN) (W : World) (a : Option Addr) (c : Nat) (als : List MN) : Prop :=
  MN.At W 0 66 3 68 5 (.node [] [] (.slice a als.length c) als) ∧ PN.FormL true (als.map MN.pn) ∧ als.length ≤ 100001 ∧ PN.FewL 100001 (als.map MN.pn) ∧ PN.nfL true (als.map MN.pn) = N
theorem AltsN.below {N : List PN} {W W' : World} {a : Option Addr} {c : Nat} {als : List MN} (h : AltsN N W a c als) (hb : Below W.heap.size W W') : AltsN N W' a c als := ⟨h.1.below hb, h.2⟩
def ShP (N : List PN) (W : World) (e : Ending) (w' : World) : Prop := ∃ a c ms, e = .returned (.slice a (List.length ms) c) ∧ ms.map MN.pn = N ∧ RowOf w' W.heap.size 81 3 83 5 (.slice a ms.length c) ms ∧ Below W.heap.size W w'
theorem shape_n {N : List PN} {W : World} {a : Option Addr} {c : Nat} {als : List MN} (h : AltsN N W a c als) : Calls Try.prog 25 #[.slice a als.length c] W (ShP N W) := by
  obtain ⟨h1, h2, h3, h4, rfl⟩ := h
  exact shape_all _ (.node [] [] (.slice a als.length c) als) (Nat.le_refl _) h2 (by simp only [MN.pn, MN.pnL_map, PN.Few]; exact ⟨by simpa using h3, h4⟩) W h1
/-- A shape in memory. -/
def ShN (N : List PN) (W : World) (a : Option Addr) (c : Nat) (ms : List MN) : Prop := ms.map MN.pn = N ∧ MN.At W 0 81 3 83 5 (.node [] [] (.slice a ms.length c) ms)
theorem ShN.below {N : List PN} {W W' : World} {a : Option Addr} {c : Nat} {ms : List MN} (h : ShN N W a c ms) (hb : Below W.heap.size W W') : ShN N W' a c ms := ⟨h.1, h.2.below hb⟩
theorem shN_of {N : List PN} {lo : Nat} {W : World} {a : Option Addr} {c : Nat} {ms : List MN} (h1 : ms.map MN.pn = N) (h2 : RowOf W lo 81 3 83 5 (.slice a ms.length c) ms) : ShN N W a c ms := ⟨h1, (h2.at [] []).low (Nat.zero_le _)⟩
theorem same_n {N : List PN} {W : World} {a a2 : Option Addr} {c c2 : Nat} {ms ms2 : List MN} (hf : PN.FormL true N) (hl : N.length ≤ 100001) (hw : PN.FewL 100001 N) (h : ShN N W a c ms) (h2 : ShN N W a2 c2 ms2) : Calls Try.prog 22 #[.slice a ms.length c, .slice a2 ms2.length c2] W fun e w' => e = .returned (.bool true) ∧ Below W.heap.size W w' := by
  obtain ⟨rfl, h1⟩ := h
  exact same_all2 _ (.node [] [] (.slice a ms.length c) ms) (.node [] [] (.slice a2 ms2.length c2) ms2) (Nat.le_refl _) h2.1.symm hf (by simp only [MN.pn, MN.pnL_map, PN.Few]; exact ⟨hl, hw⟩) W h1 h2.2
theorem write_all2 : ∀ n, WriteAny n
  | 0 => fun t h => absurd h (by have : 0 < _root_.SizeOf.sizeOf t := by cases t; simp only [MN.node.sizeOf_spec]; omega
                                 omega)
  | n + 1 => write_step (write_all2 n)
end Go.Proofs.Yticdihfjnmjkmaa
namespace Go.Proofs.Yticdihfjnmjkmaa
open Go.RowKit
attribute [local go_sem] run_store_float
theorem rowg_cells2 {w : World} {lo : Nat} {e e' e2 : TypeId} {sz sz' sz2 : Nat} {v : Value} {ms : List MN} (h : RowG w lo e sz e' sz' e2 sz2 v ms) {k : Nat} (hk : k < ms.length) :
    ∃ g cap, v = .slice (some ⟨g, 0, none⟩) ms.length cap ∧ g < w.heap.size ∧ ∀ j, j < sz → w.cell? ⟨g, k * sz + j, none⟩ = (ms[k]).cells[j]? := by
  obtain ⟨h1, h2, _, _⟩ := h
  obtain ⟨g, cap, rfl, hg, hl, hc, hr⟩ := row_cells h1 (by omega)
  refine ⟨g, cap, rfl, hl, fun j hj => ?_⟩
  rw [hr _ (by rw [rowC_lenN sz ms h2]; have := Nat.mul_le_mul_right sz (show k + 1 ≤ ms.length from hk); rw [Nat.succ_mul] at this; omega)]
  exact rowC_getN sz ms h2 k hk j hj
theorem def_form2 {m : MN} {t : Tok} {ks : List PN} (h : m.pn = defN t ks) : ∃ v kids, m = .node [.int .i64 t.pos, .string (bOf t.text)] [] v kids ∧ kids.map MN.pn = ks := by
  obtain ⟨v, kids, rfl, h2⟩ := pn_inv h
  exact ⟨v, kids, rfl, h2⟩
theorem ParseT.few2 {s : ByteArray} {ns : List PN} {r : List Tok} (h : ParseT s (.ok ns r)) : PN.FewL 100001 ns ∧ ns.length ≤ 65537 := by
  obtain ⟨ts, hl, hp⟩ := h.ok_inv
  have hlen := hl.len
  rw [size_len] at hlen
  have hs : s.size ≤ 65536 := by
    rcases h with ⟨hs, _⟩ | ⟨_, h⟩
    · exact hs
    · cases h
  exact ⟨pds_few hp (LexL.ends hl rfl) (by omega) _ _ rfl, by have := h.few.1; omega⟩
theorem few_def {N : Nat} {t : Tok} {ks : List PN} (h : PN.Few N (defN t ks)) : ks.length ≤ N ∧ PN.FewL N ks := h
theorem four_keep {w w' : World} (hb : Below w.heap.size w w') {C g : Nat} (hC : C < w.heap.size) (hg : g < w.heap.size) {i j : Nat} {b c e f : Value}
    (h : w.cell? ⟨C, 1, none⟩ = some b ∧ w.cell? ⟨C, 2, none⟩ = some c ∧ w.cell? ⟨g, i, none⟩ = some e ∧ w.cell? ⟨g, j, none⟩ = some f) :
    w'.cell? ⟨C, 1, none⟩ = some b ∧ w'.cell? ⟨C, 2, none⟩ = some c ∧ w'.cell? ⟨g, i, none⟩ = some e ∧ w'.cell? ⟨g, j, none⟩ = some f :=
  ⟨(hb.cell (p := ⟨C, 1, none⟩) hC).trans h.1, (hb.cell (p := ⟨C, 2, none⟩) hC).trans h.2.1, (hb.cell (p := ⟨g, i, none⟩) hg).trans h.2.2.1, (hb.cell (p := ⟨g, j, none⟩) hg).trans h.2.2.2⟩
theorem two_keep {w w' : World} (hb : Below w.heap.size w w') {C : Nat} (hC : C < w.heap.size) {b c : Value}
    (h : w.cell? ⟨C, 1, none⟩ = some b ∧ w.cell? ⟨C, 2, none⟩ = some c) : w'.cell? ⟨C, 1, none⟩ = some b ∧ w'.cell? ⟨C, 2, none⟩ = some c :=
  ⟨(hb.cell (p := ⟨C, 1, none⟩) hC).trans h.1, (hb.cell (p := ⟨C, 2, none⟩) hC).trans h.2⟩
theorem at_any {w : World} {lo : Nat} {e e' : TypeId} {sz sz' : Nat} {a b a' b' : List Value} {v : Value} {ks : List MN} (h : MN.At w lo e sz e' sz' (.node a b v ks)) : MN.At w lo e sz e' sz' (.node a' b' v ks) := ⟨h.1, h.2.1, h.2.2⟩
theorem flat_take {ns : List PN} {k : Nat} (hk : k < ns.length) {t : Tok} {ks : List PN} (h : ns[k] = defN t ks) : (ns.take (k + 1)).flatMap defTP = (ns.take k).flatMap defTP ++ (t.text ++ ([32, 61] ++ (PN.wrL true 0 ks ++ [32, 59, 10]))) := by
  rw [List.take_succ_eq_append_getElem hk, List.flatMap_append, h, List.flatMap_cons, List.flatMap_nil, List.append_nil]
  rfl
theorem flat_take_le (ns : List PN) (k : Nat) : ((ns.take k).flatMap defTP).length ≤ (ns.flatMap defTP).length := by
  conv => rhs; rw [← List.take_append_drop k ns]
  rw [List.flatMap_append, List.length_append]
  omega
theorem pn_idx {ms : List MN} {ns : List PN} (h : ms.map MN.pn = ns) {k : Nat} (hk : k < ms.length) : ∃ hk2 : k < ns.length, (ms[k]).pn = ns[k] := by
  subst h
  exact ⟨by simpa using hk, by rw [List.getElem_map]⟩
set_option maxRecDepth 100000 in
set_option maxHeartbeats 4000000 in
theorem back_walk {w : World} (s : ByteArray) (hs : s.size ≤ maxLen) : Calls Try.prog 9 #[.string s] w fun e w' => e = .returned (.bool true) ∧ Below w.heap.size w w' := by
  unfold maxLen at hs
  go_enter Try.func9, Try.ntmps9
  go_wp2_with fail
  refine (alive5_any _).mono ?_
  rintro e w1 ⟨rfl, hb⟩
  have H1 := Lib.hid hb
  clear hb
  by_cases hl1 : (600 : Int) < s.size
  · go_wp2
    go_ret
    exact ⟨rfl, H1.out⟩
  have hs6 : s.size ≤ 600 := by omega
  obtain ⟨o, hP⟩ := parse_total s
  have HA := fun W => Lib.hid (parse_any hP W)
  cases o with
  | err er ps =>
    obtain ⟨he, hps⟩ := hP.bad (by omega)
    have he1 : (er != 0) = true := by simpa using he
    have hp1 : decide ((ps : Int) ≤ s.size) = true := decide_eq_true (by omega)
    have hp0 : decide ((0 : Int) ≤ ps) = true := decide_eq_true (by omega)
    clear hP he
    unfold ParsePost at HA
    simp only at HA
    go_wp2_with fail
    refine (HA _).out.mono ?_
    rintro e w2 ⟨rfl, hb2⟩
    have HB2 := Lib.hid hb2
    clear hb2
    go_wp2_with fail
    go_ret
    exact ⟨rfl, H1.out.trans ((HB2.out.trans ((below_one w2 _).mono HB2.out.size)).mono H1.out.size)⟩
  | ok ns r =>
    obtain ⟨ns2, r2, hP2, hn2, hn0, hTl, hD⟩ := back_parse hs6 hP
    have HN2 := Lib.hid hn2
    clear hn2
    have HA2 := fun W => Lib.hid (parse_any hP2 W)
    obtain ⟨hfe, hfl⟩ := hP.few2
    obtain ⟨hfe2, hfl2⟩ := hP2.few2
    have HFE := Lib.hid (PN.fewL_iff.1 hfe)
    have HFE2 := Lib.hid (PN.fewL_iff.1 hfe2)
    have HD := Lib.hid hD
    clear hP hP2 hfe hfe2 hD
    unfold ParsePost at HA HA2
    simp only at HA HA2
    go_wp2_with fail
    refine (HA _).out.mono ?_
    rintro e w2 ⟨x, c, ms, rfl, hns, hrow, hb2⟩
    have HB2 := Lib.hid (H1.out.trans (hb2.mono H1.out.size))
    have HNS := Lib.hid hns
    have hmz : ms.length ≤ 65537 := by rw [← hns, List.length_map] at hfl; exact hfl
    have HMN : Hid (ms.length = ns.length) := Lib.hid (by rw [← hns]; simp)
    have HROW := Lib.hid hrow
    have hs12 := hb2.size
    clear hb2 hns hrow H1
    go_wp2_with fail
    have HB3 : Hid (Below w.heap.size w (w2.alloc (.cells #[.int .i64 0, .int .i64 0] 26))) := Lib.hid (HB2.out.alloc HB2.out.size _)
    have HROW3 := Lib.hid (HROW.out.go (kept_of_below (S := fun _ => False) (below_one w2 (.cells #[.int .i64 0, .int .i64 0] 26))) (fun _ h => h.elim))
    clear HB2 HROW
    generalize w2.alloc (.cells #[.int .i64 0, .int .i64 0] 26) = w3 at *
    go_loopw [5, 42] (fun o i wr => ∃ k : Nat, k ≤ ms.length ∧ i = .int .i64 k ∧ o = .string (bOf ((ns.take k).flatMap defTP)) ∧ Hid (Below w3.heap.size w3 wr)) (fun _ i _ => ms.length - (intOf i).toNat)
    case atStart => exact ⟨0, by omega, rfl, rfl, Below.refl _ _⟩
    case round =>
      obtain ⟨k, hk, rfl, rfl, HF⟩ := hrel
      have hsz := HF.out.size
      by_cases hlt : k < ms.length
      · clear HA2
        obtain ⟨g, cap, hx, hg, hc⟩ := rowg_cells2 HROW3.out hlt
        obtain ⟨hnk, hp1⟩ := pn_idx HNS.out hlt
        obtain ⟨t, ks, t2, ks2, hnt, _, _, _, hnm, htl, hfm, _, hops, hwl⟩ := (HD.out k hnk (by rw [HN2.out]; exact hnk)).ex
        have hfk := HFE.out _ (List.getElem_mem hnk)
        rw [hnt] at hp1 hfk
        obtain ⟨v1, als, hm1, hks1⟩ := def_form2 hp1
        have hat := HROW3.out.lies _ (List.getElem_mem hlt)
        rw [hm1] at hc hat
        obtain ⟨x1, c1, rfl⟩ := at_shape hat
        simp only [Value.slice.injEq] at hx
        obtain ⟨rfl, hj1, rfl⟩ := hx
        clear hj1
        have a0 := (HF.out.cell (p := ⟨g, k * 3 + 0, none⟩) hg).trans (hc 0 (by omega))
        have a1 := (HF.out.cell (p := ⟨g, k * 3 + 1, none⟩) hg).trans (hc 1 (by omega))
        have a2 := (HF.out.cell (p := ⟨g, k * 3 + 2, none⟩) hg).trans (hc 2 (by omega))
        simp only [MN.cells, List.cons_append, List.nil_append, List.getElem?_cons_succ, List.getElem?_cons_zero, Nat.add_zero] at a0 a1 a2
        have HW := Lib.hid (fun W (h : Below w3.heap.size w3 W) => write_all2 _ (.node [] [] (.slice x1 als.length c1) als) (Nat.le_refl _) (by simp only [MN.kids]; rw [hks1]; exact hfm) (by simp only [MN.pn, MN.pnL_map, PN.Few]; rw [hks1]; exact few_def hfk) (by simp only [MN.kids]; rw [hks1]; exact hops) (by simp only [MN.kids]; rw [hks1]; omega) W (at_any ((hat.below h).low (Nat.zero_le _))))
        simp only [MN.sl, MN.kids] at HW
        rw [hks1] at HW
        have hki : (k : Int) < ms.length := by omega
        have hgw : g < wr.heap.size := by omega
        have hnx := flat_take hnk hnt
        have hPl := flat_take_le ns k
        have HX := Lib.hid (show ∀ X : ByteArray, X.data.toList = (ns.take k).flatMap defTP ++ (t.text ++ ([32, 61] ++ (PN.wrL true 0 ks ++ [32, 59, 10]))) → X = bOf ((ns.take (k + 1)).flatMap defTP) from fun X h => by rw [bytes_of h, hnx])
        have hz1 : (bOf ((ns.take k).flatMap defTP)).size ≤ 20000 := size_of (by rw [bOf_data2]; omega)
        have hz2 : (bOf t.text).size ≤ 24 := size_of (by rw [bOf_data2]; omega)
        have hz3 : (bOf (PN.wrL true 0 ks)).size ≤ 20000 := size_of (by rw [bOf_data2]; omega)
        have HN := fun W => Lib.hid (pname_any (bOf t.text) (by omega) W)
        rw [hnm] at HN
        clear hc hp1 hnt hfk hm1 hks1 hat hfm hnx hPl hnm hops hwl htl
        generalize t.pos = ps at *
        generalize hPP : bOf ((ns.take k).flatMap defTP) = P at *
        generalize hTT : bOf t.text = T at *
        generalize hQQ : bOf (PN.wrL true 0 ks) = Q at *
        have HPP : Hid (P.data.toList = (ns.take k).flatMap defTP) := Lib.hid (by rw [← hPP]; rfl)
        have HTT : Hid (T.data.toList = t.text) := Lib.hid (by rw [← hTT]; rfl)
        have HQQ : Hid (Q.data.toList = PN.wrL true 0 ks) := Lib.hid (by rw [← hQQ]; rfl)
        clear hPP hTT hQQ
        have hq1 : ¬ 9223372036854775807 < T.size + 2 := by omega
        have hq2 : ¬ 9223372036854775807 < T.size + 2 + Q.size := by omega
        have hq3 : ¬ 9223372036854775807 < T.size + 2 + Q.size + 3 := by omega
        have hq4 : ¬ 9223372036854775807 < P.size + (T.size + 2 + Q.size + 3) := by omega
        go_wp2_with (first | (go_at_call 14; refine (HN _).out.mono ?_; rintro e w5 ⟨rfl, rfl⟩))
        have hC := heap_alloc_this wr (.cells #[.int .i64 ps, .string T, .slice x1 als.length c1] 50)
        obtain ⟨_, d1, d2⟩ := blk3 hC
        have HWd : Hid (Below w3.heap.size w3 (wr.alloc (.cells #[.int .i64 ps, .string T, .slice x1 als.length c1] 50)).drew) := below_drew (HF.out.alloc hsz _)
        have hCl := lt_of_some hC
        clear a0 a1 a2 hC
        generalize (wr.alloc (.cells #[.int .i64 ps, .string T, .slice x1 als.length c1] 50)) = W0 at *
        have hSd : W0.drew.cell? ⟨wr.heap.size, 1, none⟩ = some (.string T) ∧ W0.drew.cell? ⟨wr.heap.size, 2, none⟩ = some (.slice x1 als.length c1) := ⟨d1, d2⟩
        go_region_held3 (fun w' => w'.cell? ⟨wr.heap.size, 1, none⟩ = some (.string T) ∧ w'.cell? ⟨wr.heap.size, 2, none⟩ = some (.slice x1 als.length c1))
          (first | with_reducible exact hS1 | with_reducible exact hSd)
          (first
          | (go_at_call 24; refine (HW.out _ HWd.out).mono ?_; rintro e w4 ⟨rfl, hb4⟩
             have hS1 : w4.cell? ⟨wr.heap.size, 1, none⟩ = some (.string T) ∧ w4.cell? ⟨wr.heap.size, 2, none⟩ = some (.slice x1 als.length c1) := two_keep hb4 hCl hSd
             have H4 := Lib.hid (HWd.out.trans (hb4.mono HWd.out.size))
             clear hb4))
        all_goals
          go_wp2_with fail
          go_roundw
          case rel => exact ⟨k + 1, by omega, by go_num, congrArg Value.string (HX.out _ (by simp [HPP.out, HTT.out, HQQ.out])), H4⟩
          case measure => simp [intOf]; omega
      · obtain rfl : k = ms.length := by omega
        have hall : (ns.take ms.length).flatMap defTP = ns.flatMap defTP := by rw [List.take_of_length_le (by rw [HMN.out]; exact Nat.le_refl _)]
        rw [hall]
        clear hall HA
        go_wp2_with fail
        refine (HA2 _).out.mono ?_
        rintro e w5 ⟨y, d, ms2, rfl, hns2, hrow2, hb5⟩
        have hml : ms2.length = ms.length := by rw [HMN.out, ← HN2.out, ← hns2]; simp
        have HNS2 := Lib.hid hns2
        have HB6 : Hid (Below w.heap.size w (w5.alloc (.cells #[.int .i64 0, .int .i64 0] 26))) := Lib.hid ((HB3.out.trans ((HF.out.trans (hb5.mono hsz)).mono HB3.out.size)).alloc (by have := HB3.out.size; have := hb5.size; omega) _)
        have HR1 := Lib.hid (HROW3.out.go (kept_of_below (S := fun _ => False) ((HF.out.trans (hb5.mono hsz)).alloc (by have := hb5.size; omega) (.cells #[.int .i64 0, .int .i64 0] 26))) (fun _ h => h.elim))
        have HR2 := Lib.hid (hrow2.go (kept_of_below (S := fun _ => False) (below_one w5 (.cells #[.int .i64 0, .int .i64 0] 26))) (fun _ h => h.elim))
        clear hns2 hrow2 hb5 HROW3
        rw [hml] at HR2 ⊢
        have HML := Lib.hid hml
        clear hml
        have hm0 : 0 < ms.length := by rw [HMN.out]; exact hn0
        have hm1 : ((ms.length : Int) == 0) = false := by rw [beq_eq_false_iff_ne]; omega
        go_wp2_with fail
        generalize w5.alloc (.cells #[.int .i64 0, .int .i64 0] 26) = w6 at *
        go_loopw [83] (fun i wr => ∃ k : Nat, k ≤ ms.length ∧ i = .int .i64 k ∧ Hid (Below w6.heap.size w6 wr)) (fun i _ => ms.length - (intOf i).toNat)
        case atStart => exact ⟨0, by omega, rfl, Below.refl _ _⟩
        case round =>
          obtain ⟨k, hk, rfl, HG⟩ := hrel
          have hsz := HG.out.size
          by_cases hlt : k < ms.length
          · have hlt2 : k < ms2.length := by rw [HML.out]; exact hlt
            have hr2 := HR2.out
            rw [← HML.out] at hr2
            obtain ⟨g, cap, hx, hg, hc⟩ := rowg_cells2 HR1.out hlt
            obtain ⟨g', cap', hx', hg', hc'⟩ := rowg_cells2 hr2 hlt2
            obtain ⟨hnk, hp1⟩ := pn_idx HNS.out hlt
            obtain ⟨hnk2, hp2⟩ := pn_idx HNS2.out hlt2
            obtain ⟨t, ks, t2, ks2, hnt, hnt2, htt, hnf, _, _, hfm, hfm2, _, _⟩ := (HD.out k hnk hnk2).ex
            have hfk := HFE.out _ (List.getElem_mem hnk)
            have hfk2 := HFE2.out _ (List.getElem_mem hnk2)
            rw [hnt] at hp1 hfk
            rw [hnt2] at hp2 hfk2
            obtain ⟨v1, als, hm1', hks1⟩ := def_form2 hp1
            obtain ⟨v2, als2, hm2, hks2⟩ := def_form2 hp2
            rw [htt] at hm2
            have hat := HR1.out.lies _ (List.getElem_mem hlt)
            have hat2 := hr2.lies _ (List.getElem_mem hlt2)
            rw [hm1'] at hc hat
            rw [hm2] at hc' hat2
            obtain ⟨x1, c1, rfl⟩ := at_shape hat
            obtain ⟨x2, c2, rfl⟩ := at_shape hat2
            simp only [Value.slice.injEq] at hx hx'
            obtain ⟨rfl, hj1, rfl⟩ := hx
            obtain ⟨rfl, hj2, rfl⟩ := hx'
            clear hj1 hj2
            have a1 := (HG.out.cell (p := ⟨g, k * 3 + 1, none⟩) hg).trans (hc 1 (by omega))
            have a2 := (HG.out.cell (p := ⟨g, k * 3 + 2, none⟩) hg).trans (hc 2 (by omega))
            have b0 := (HG.out.cell (p := ⟨g', k * 3 + 0, none⟩) hg').trans (hc' 0 (by omega))
            have b1 := (HG.out.cell (p := ⟨g', k * 3 + 1, none⟩) hg').trans (hc' 1 (by omega))
            have b2 := (HG.out.cell (p := ⟨g', k * 3 + 2, none⟩) hg').trans (hc' 2 (by omega))
            simp only [MN.cells, List.cons_append, List.nil_append, List.getElem?_cons_succ, List.getElem?_cons_zero, Nat.add_zero] at a1 a2 b0 b1 b2
            have hk1 := few_def hfk
            have hk2 := few_def hfk2
            have HS := Lib.hid (fun W a c als h => shape_n (N := PN.nfL true ks) (W := W) (a := a) (c := c) (als := als) h)
            have HM := Lib.hid (fun W a c (ms : List MN) a2 c2 (ms2 : List MN) => same_n (W := W) (a := a) (c := c) (ms := ms) (a2 := a2) (c2 := c2) (ms2 := ms2) (formL_nf hfm) (by rw [nfL_map, List.length_map]; exact hk1.1) (fewL_nf hk1.2))
            have K1 := Lib.hid (show ∀ W, Below w6.heap.size w6 W → AltsN (PN.nfL true ks) W x1 c1 als from fun W h => ⟨at_any ((hat.below h).low (Nat.zero_le _)), by rw [hks1]; exact hfm, by rw [← hks1, List.length_map] at hk1; exact hk1.1, by rw [hks1]; exact hk1.2, by rw [hks1]⟩)
            have K2 := Lib.hid (show ∀ W, Below w6.heap.size w6 W → AltsN (PN.nfL true ks) W x2 c2 als2 from fun W h => ⟨at_any ((hat2.below h).low (Nat.zero_le _)), by rw [hks2]; exact hfm2, by rw [← hks2, List.length_map] at hk2; exact hk2.1, by rw [hks2]; exact hk2.2, by rw [hks2, hnf]⟩)
            have hki : (k : Int) < ms.length := by omega
            have hgw : g < wr.heap.size := by omega
            have hgw' : g' < wr.heap.size := by omega
            clear hc hc' hr2 hp1 hp2 hnt hnt2 hfk hfk2 hm1' hm2 hks1 hks2 hat hat2 hfm hfm2 htt hnf hk1 hk2
            generalize t2.pos = ps at *
            generalize bOf t.text = T at *
            generalize PN.nfL true ks = N at *
            go_wp2_with fail
            have hC := heap_alloc_this wr (.cells #[.int .i64 ps, .string T, .slice x2 als2.length c2] 50)
            obtain ⟨_, d1, d2⟩ := blk3 hC
            have HWd : Hid (Below w6.heap.size w6 (wr.alloc (.cells #[.int .i64 ps, .string T, .slice x2 als2.length c2] 50)).drew) := below_drew (HG.out.alloc hsz _)
            have e1 := cell_alloc_keep (o := .cells #[.int .i64 ps, .string T, .slice x2 als2.length c2] 50) hgw a1
            have e2 := cell_alloc_keep (o := .cells #[.int .i64 ps, .string T, .slice x2 als2.length c2] 50) hgw a2
            have hCl := lt_of_some hC
            have hgW : g < (wr.alloc (.cells #[.int .i64 ps, .string T, .slice x2 als2.length c2] 50)).heap.size := by omega
            clear a1 a2 b0 b1 b2 hC
            generalize (wr.alloc (.cells #[.int .i64 ps, .string T, .slice x2 als2.length c2] 50)) = W0 at *
            have hSd : W0.drew.cell? ⟨wr.heap.size, 1, none⟩ = some (.string T) ∧ W0.drew.cell? ⟨wr.heap.size, 2, none⟩ = some (.slice x2 als2.length c2) ∧ W0.drew.cell? ⟨g, k * 3 + 1, none⟩ = some (.string T) ∧ W0.drew.cell? ⟨g, k * 3 + 2, none⟩ = some (.slice x1 als.length c1) := ⟨d1, d2, e1, e2⟩
            go_region_held3 (fun w' => w'.cell? ⟨wr.heap.size, 1, none⟩ = some (.string T) ∧ w'.cell? ⟨wr.heap.size, 2, none⟩ = some (.slice x2 als2.length c2) ∧ w'.cell? ⟨g, k * 3 + 1, none⟩ = some (.string T) ∧ w'.cell? ⟨g, k * 3 + 2, none⟩ = some (.slice x1 als.length c1))
              (first | with_reducible exact hS3 | with_reducible exact hS2 | with_reducible exact hS1 | with_reducible exact hSd)
              (first
              | (go_at_call 22; refine (HM.out _ _ _ _ _ _ _ (by first | exact X1'.out | exact X2.out) (by first | exact X2.out | exact X1'.out)).mono ?_; rintro e w7 ⟨rfl, hb7⟩
                 have hS3 : w7.cell? ⟨wr.heap.size, 1, none⟩ = some (.string T) ∧ w7.cell? ⟨wr.heap.size, 2, none⟩ = some (.slice x2 als2.length c2) ∧ w7.cell? ⟨g, k * 3 + 1, none⟩ = some (.string T) ∧ w7.cell? ⟨g, k * 3 + 2, none⟩ = some (.slice x1 als.length c1) := four_keep hb7 (Nat.lt_of_lt_of_le hCl (Nat.le_trans H4.out.1 H5.out.1)) (Nat.lt_of_lt_of_le hgW (Nat.le_trans H4.out.1 H5.out.1)) hS2
                 have H6 := Lib.hid (H5.out.2.trans (hb7.mono H5.out.2.size))
                 clear hb7)
              | (go_at_call 25; refine (HS.out _ _ _ _ (by first | exact K1.out _ H4.out.2 | exact K2.out _ H4.out.2)).mono ?_; rintro e w5 ⟨a5, c5, ms5, rfl, hpn5, hrow5, hb5⟩
                 have hS2 : w5.cell? ⟨wr.heap.size, 1, none⟩ = some (.string T) ∧ w5.cell? ⟨wr.heap.size, 2, none⟩ = some (.slice x2 als2.length c2) ∧ w5.cell? ⟨g, k * 3 + 1, none⟩ = some (.string T) ∧ w5.cell? ⟨g, k * 3 + 2, none⟩ = some (.slice x1 als.length c1) := four_keep hb5 (Nat.lt_of_lt_of_le hCl H4.out.1) (Nat.lt_of_lt_of_le hgW H4.out.1) hS1
                 have X1' := Lib.hid (X1.out.below hb5)
                 have X2 := Lib.hid (shN_of hpn5 hrow5)
                 have H5 := Lib.hid (And.intro hb5.size (H4.out.2.trans (hb5.mono H4.out.2.size)))
                 clear hpn5 hrow5 hb5)
              | (go_at_call 25; refine (HS.out _ _ _ _ (by first | exact K1.out _ HWd.out | exact K2.out _ HWd.out)).mono ?_; rintro e w4 ⟨a4, c4, ms4, rfl, hpn4, hrow4, hb4⟩
                 have hS1 : w4.cell? ⟨wr.heap.size, 1, none⟩ = some (.string T) ∧ w4.cell? ⟨wr.heap.size, 2, none⟩ = some (.slice x2 als2.length c2) ∧ w4.cell? ⟨g, k * 3 + 1, none⟩ = some (.string T) ∧ w4.cell? ⟨g, k * 3 + 2, none⟩ = some (.slice x1 als.length c1) := four_keep hb4 hCl hgW hSd
                 have X1 := Lib.hid (shN_of hpn4 hrow4)
                 have H4 := Lib.hid (And.intro (show W0.heap.size ≤ w4.heap.size from hb4.size) (HWd.out.trans (hb4.mono HWd.out.size)))
                 clear hpn4 hrow4 hb4))
            all_goals
              go_wp2_with fail
              go_roundw
              case rel => exact ⟨k + 1, by omega, by go_num, H6⟩
              case measure => simp [intOf]; omega
          · go_wp2_with fail
            go_ret
            exact ⟨rfl, HB6.out.trans (HG.out.mono HB6.out.size)⟩
end Go.Proofs.Yticdihfjnmjkmaa
namespace Go.Proofs.Yticdihfjnmjkmaa.readBack
open Go.ChangeShapes Go.WideShapes Go.ChangeAt Go.RowKit
set_option linter.unusedVariables false

theorem own : ownKnob Try.prog.godebug = none := by kernel_rfl
theorem laidOut : laidOutB Try.prog = true := by kernel_rfl
set_option maxRecDepth 100000 in
theorem lifted (os : Os) (started : os.Started) (H : Type) (enc : TypeId × Value → H) :
    ReturnsInHanded {} Try.checked os 9 .any (Rows.readBackSpec.pre6 enc Try.prog Try.f9 Rows.readBackRow.domain false) (Rows.readBackSpec.post enc Try.prog Try.f9 false true false false) := by
  refine returnsInHanded_of_change (C := Try.checked) own started (by kernel_rfl) Try.func9
    (ChangeSpec.witness6 (enc := enc) (C := Try.checked) false ⟨#[], #[.string ⟨#[]⟩], []⟩ 8 (by kernel_rfl) (by kernel_rfl) (by kernel_rfl) (by kernel_rfl)) ?_
  intro W base args ds gs before hval0 hW hcnd _
  have hval : ∀ (j : Nat) t v, Try.f9.params[j]? = some t → args[j]? = some v → Value.okWide Try.prog W .any base t v := hval0
  have hW' := hW
  obtain ⟨p, q, hA0, hV, rfl, hfz, hnd⟩ := hW
  have hA : DataW.TrodAll enc Try.prog W 0 (fun _ => true) true Try.f9.params.toList args.toList ds p := hA0
  rw [Try.params9] at hA hval
  obtain ⟨v0, vs0, d0, ds0, p0, q0, hargs, rfl, rfl, h0, r0⟩ := trodAll_cons hA
  obtain ⟨rfl, rfl, rfl⟩ := trodAll_nil r0
  obtain rfl : args = #[v0] := by cases args; simp_all
  obtain ⟨rfl, rfl⟩ := trodVars_none hV
  obtain ⟨s0, rfl, rfl, rfl, w0⟩ := Go.ChangeMaps.open_string Try.underlying9 (hval 0 9 v0 rfl rfl) h0
  clear hA0 hval0
  refine (back_walk s0 w0).mono fun e W' ⟨he, bel⟩ => ?_
  subst he
  exact ⟨_, rfl, _, _, _, [], _, [], hW', trodAll_mk1 (shut_bool Try.underlying4 _), (trodAll_cons_mk (Go.ChangeMaps.shut_string Try.underlying9 w0) trodAll_mk0), rfl, bel.frame _, fun h => by cases h⟩

theorem over : Rows.readBackRow.holds Try.pinned (OpenSpec.ofChange Rows.readBackSpec) :=
  OpenClaim.holds_of_wide 9 Try.f9 rfl rfl rfl rfl rfl rfl rfl ⟨rfl, rfl, rfl, rfl, rfl⟩ rfl rfl rfl rfl rfl (by kernel_rfl) Try.func9 (by kernel_rfl)
    (of_decide_eq_true (by kernel_rfl)) (by unfold Func.isWrapper; first | (rw [if_pos (by decide +kernel)]; kernel_rfl) | (rw [if_neg (by decide +kernel)]; exact ⟨rfl, rfl⟩))
    (fun os started H enc _ => lifted os started H enc)

theorem proved : Rows.ReadBackSaid := over
#print axioms proved
end Go.Proofs.Yticdihfjnmjkmaa.readBack
