/- The reference's reader: groups. -/
import Derived.Test.YticdihfjnmjkmaaRr2
namespace Go.Proofs.Yticdihfjnmjkmaa
open Go.RowKit
def QAltsAny (a : Option Addr) (c : Nat) (ts : List Tok) (n : Nat) : Prop := ∀ d p o, d ≤ 16 → Ps .alts d (ts.drop p) o → Ends (ts.drop p) → (ts.drop p).length ≤ n → ∀ w, ToksAt w w.heap.size a ts → Calls Try.prog 40 #[.agg #[.slice a ts.length c, .int .i64 p, .int .i64 d, .int .i64 0]] w (QAltsPost a c ts d o w)
attribute [local go_sem] run_store_float
theorem group_blk {w : World} {B : Nat} {x0 x1 x2 x3 : Value} {t : TypeId} (h : w.heap[B]? = some (.cells #[x0, x1, x2, x3] t (0, 0))) (a0 a1 a2 a3 a4 : Value) : (((((w.setCell ⟨B, 0, none⟩ a0).setCell ⟨B, 1, none⟩ a1).setCell ⟨B, 2, none⟩ a2).setCell ⟨B, 3, none⟩ a3).setCell ⟨B, 2, none⟩ a4).heap[B]? = some (.cells #[a0, a1, a4, a3] t (0, 0)) := by
  have e0 := heap_setCell_known (off := 0) (u := a0) h
  have e1 := heap_setCell_known (off := 1) (u := a1) e0
  have e2 := heap_setCell_known (off := 2) (u := a2) e1
  have e3 := heap_setCell_known (off := 3) (u := a3) e2
  have e4 := heap_setCell_known (off := 2) (u := a4) e3
  simpa using e4
theorem group_two {w : World} {B : Nat} {x0 x1 x2 x3 : Value} {t : TypeId} (h : w.heap[B]? = some (.cells #[x0, x1, x2, x3] t (0, 0))) {a0 a1 a2 a3 a4 : Value} : (((((w.setCell ⟨B, 0, none⟩ a0).setCell ⟨B, 1, none⟩ a1).setCell ⟨B, 2, none⟩ a2).setCell ⟨B, 3, none⟩ a3).setCell ⟨B, 2, none⟩ a4).cell? ⟨B, 2, none⟩ = some a4 :=
  cell_of_block (off := 2) (group_blk h a0 a1 a2 a3 a4)
theorem group_five {w : World} {B : Nat} {x0 x1 x2 x3 y0 y1 y2 y3 y4 : Value} {o1 o2 o3 : Obj} (h : Five w B (.cells #[x0, x1, x2, x3] 75) o1 o2 o3 (.cells #[y0, y1, y2, y3, y4] 83)) (a0 a1 a2 a3 a4 b0 b1 b2 b3 b4 : Value) :
    Five ((((((((((w.setCell ⟨B, 0, none⟩ a0).setCell ⟨B, 1, none⟩ a1).setCell ⟨B, 2, none⟩ a2).setCell ⟨B, 3, none⟩ a3).setCell ⟨B, 2, none⟩ a4).setCell ⟨B + 1 + 1 + 1 + 1, 0, none⟩ b0).setCell ⟨B + 1 + 1 + 1 + 1, 1, none⟩ b1).setCell ⟨B + 1 + 1 + 1 + 1, 2, none⟩ b2).setCell ⟨B + 1 + 1 + 1 + 1, 3, none⟩ b3).setCell ⟨B + 1 + 1 + 1 + 1, 4, none⟩ b4) B
      (.cells #[a0, a1, a4, a3] 75) o1 o2 o3 (.cells #[b0, b1, b2, b3, b4] 83) := by
  have k1 : Kept (· = B) w (((((w.setCell ⟨B, 0, none⟩ a0).setCell ⟨B, 1, none⟩ a1).setCell ⟨B, 2, none⟩ a2).setCell ⟨B, 3, none⟩ a3).setCell ⟨B, 2, none⟩ a4) := by
    repeat refine Kept.setCell (S := (· = B)) ?_ (.inl rfl) _
    exact Kept.refl _ _
  have k2 : ∀ W : World, Kept (· = B + 1 + 1 + 1 + 1) W (((((W.setCell ⟨B + 1 + 1 + 1 + 1, 0, none⟩ b0).setCell ⟨B + 1 + 1 + 1 + 1, 1, none⟩ b1).setCell ⟨B + 1 + 1 + 1 + 1, 2, none⟩ b2).setCell ⟨B + 1 + 1 + 1 + 1, 3, none⟩ b3).setCell ⟨B + 1 + 1 + 1 + 1, 4, none⟩ b4) := fun W => stores5 W _ _ _ _ _ _
  have e0 := heap_setCell_known (off := 0) (u := b0) (k1.get h.b4 (by omega))
  have e1 := heap_setCell_known (off := 1) (u := b1) e0
  have e2 := heap_setCell_known (off := 2) (u := b2) e1
  have e3 := heap_setCell_known (off := 3) (u := b3) e2
  have e4 := heap_setCell_known (off := 4) (u := b4) e3
  exact ⟨(k2 _).get (group_blk h.b0 a0 a1 a2 a3 a4) (by omega), (k2 _).get (k1.get h.b1 (by omega)) (by omega), (k2 _).get (k1.get h.b2 (by omega)) (by omega), (k2 _).get (k1.get h.b3 (by omega)) (by omega), by simpa using e4⟩
theorem tok_alloc {w : World} {b : Nat} (hb : b < w.heap.size) {k : Nat} {v : Value} (h : w.cell? ⟨b, k, none⟩ = some v) (o0 o1 o2 : Obj) : (((w.alloc o0).alloc o1).alloc o2).cell? ⟨b, k, none⟩ = some v :=
  cell_alloc_keep (by simp only [World.size_alloc]; omega) (cell_alloc_keep (by simp only [World.size_alloc]; omega) (cell_alloc_keep hb h))
set_option maxRecDepth 100000 in
set_option maxHeartbeats 4000000 in
theorem qitem_deep {w : World} {a : Option Addr} {c : Nat} {ts : List Tok} {p d : Nat} (hT : ToksAt w w.heap.size a ts) (hp : p < ts.length) (hs : sgnB ts[p] [40] = true) (hd : d = 16) :
    Calls Try.prog 74 #[.agg #[.slice a ts.length c, .int .i64 p, .int .i64 d, .int .i64 0]] w (QItemPost a c ts d (.err 6 (ts[p]).pos) w) := by
  have hk := sgn_kind hs
  have ht := sgn_text hs
  obtain ⟨b, o, rfl, hb, x0, x1, x2, x3⟩ := hT.cells0 (p := p) (by omega)
  rw [hk] at x0
  rw [ht] at x2
  simp only [show bOf [40] = ⟨#[40]⟩ from rfl] at x2
  have hpi : (p : Int) < ts.length := by omega
  have hne : b ≠ w.heap.size := by omega
  have hd1 : ((d : Int) == 16) = true := by simpa using (by omega : (d : Int) = 16)
  have HPS := Lib.hid (show (ts[p]).pos = (ts[p]).pos from rfl)
  clear hT hk ht hs hd
  have HP := Lib.hid hp
  generalize hps : (ts[p]).pos = ps at *
  have HPP := Lib.hid hps
  generalize (ts[p]).wt = wt at *
  have y0 := fun o0 o1 o2 => tok_alloc hb x0 o0 o1 o2
  have y1 := fun o0 o1 o2 => tok_alloc hb x1 o0 o1 o2
  have y2 := fun o0 o1 o2 => tok_alloc hb x2 o0 o1 o2
  have y3 := fun o0 o1 o2 => tok_alloc hb x3 o0 o1 o2
  clear hps HPS
  go_enter Try.func74, Try.ntmps74
  go_wp2_with fail
  go_region
  all_goals go_wp2
  all_goals refine bodyPost_ret (v := .tuple #[.agg #[.slice (some ⟨b, o, none⟩) ts.length c, .int .i64 p, .int .i64 d, .int .i64 6], .agg #[.int .i64 ps, .int .i64 0, .string ⟨#[40]⟩, .slice none 0 0, .int .u8 0]]) (by simp [results, Try.results74, go_sem]) rfl ?_
  all_goals refine ⟨p, HP.out, ps, 0, 0, ⟨#[40]⟩, none, 0, 0, HPP.out, rfl, ?_⟩
  all_goals refine Below.drew ?_
  all_goals repeat refine Below.setCell ?_ (by dsimp only; omega) _
  all_goals exact below_five _ _ _ _ _ _
set_option maxRecDepth 100000 in
set_option maxHeartbeats 8000000 in
theorem qitem_group {a : Option Addr} {c : Nat} {ts : List Tok} {n : Nat} (HA : QAltsAny a c ts n) {w : World} {p d : Nat} (hT : ToksAt w w.heap.size a ts) (hp : p + 1 < ts.length) (hl : ts.length ≤ 100000) (hs : sgnB ts[p] [40] = true) (hd : d ≠ 16) (hd16 : d ≤ 16)
    {oo : Out} (hps : Ps .alts (d + 1) (ts.drop (p + 1)) oo) (he : Ends (ts.drop (p + 1))) (hn : (ts.drop (p + 1)).length ≤ n) {o' : Out} (ho : ItemOut ts[p] oo o') :
    Calls Try.prog 74 #[.agg #[.slice a ts.length c, .int .i64 p, .int .i64 d, .int .i64 0]] w (QItemPost a c ts d o' w) := by
  have hk := sgn_kind hs
  have ht := sgn_text hs
  have HT := Lib.hid hT
  have HC := fun W (h : Below w.heap.size w W) => Lib.hid (HA (d + 1) (p + 1) oo (by omega) hps he hn W (hT.go h h.size))
  simp only [Int.natCast_add, Int.cast_ofNat_Int] at HC
  obtain ⟨b, o, rfl, hb, x0, x1, x2, x3⟩ := hT.cells0 (p := p) (by omega)
  rw [hk] at x0
  rw [ht] at x2
  simp only [show bOf [40] = ⟨#[40]⟩ from rfl] at x2
  have hpi : (p : Int) < ts.length := by omega
  have hne : b ≠ w.heap.size := by omega
  have hd1 : ((d : Int) == 16) = false := by simpa using (by omega : (d : Int) ≠ 16)
  have hdl : d < 16 := by omega
  clear hT hk ht hs hd hd16
  generalize hts : ts[p] = tk at *
  obtain ⟨kd, ps, tx, wt⟩ := tk
  simp only at *
  have y0 := fun o0 o1 o2 => tok_alloc hb x0 o0 o1 o2
  have y1 := fun o0 o1 o2 => tok_alloc hb x1 o0 o1 o2
  have y2 := fun o0 o1 o2 => tok_alloc hb x2 o0 o1 o2
  have y3 := fun o0 o1 o2 => tok_alloc hb x3 o0 o1 o2
  clear hts
  have hB5 := below_five w (.cells #[.slice (some ⟨b, o, none⟩) ts.length c, .int .i64 (p + 1), .int .i64 (d + 1), .int .i64 0] 75) z75 z83 (.cells #[.int .i64 4, .int .i64 ps, .string ⟨#[40]⟩, .float .f64 wt] 60) (.cells #[.int .i64 ps, .int .i64 0, .string ⟨#[40]⟩, .slice none 0 0, .int .u8 0] 83)
  have hF := five_made w (.cells #[.slice (some ⟨b, o, none⟩) ts.length c, .int .i64 (p + 1), .int .i64 (d + 1), .int .i64 0] 75) z75 z83 (.cells #[.int .i64 4, .int .i64 ps, .string ⟨#[40]⟩, .float .f64 wt] 60) (.cells #[.int .i64 ps, .int .i64 0, .string ⟨#[40]⟩, .slice none 0 0, .int .u8 0] 83)
  have HB := Lib.hid hB5
  have HF := Lib.hid hF
  unfold z75 z83 at HB HF
  clear hB5 hF
  go_enter Try.func74, Try.ntmps74
  go_wp2_with fail
  clear x0 x1 x2 x3 y0 y1 y2 y3
  refine (HC _ HB.out).out.mono ?_
  cases ho with
  | @err er ep =>
    rintro e w1 ⟨q, hq, x, n1, k1, hqp, rfl, hb1⟩
    have HF1 := Lib.hid (HF.out.go hb1)
    have HB1 := Lib.hid (HB.out.trans (hb1.mono HB.out.size))
    have her : er ≠ 0 := by rcases hps.err56 _ _ rfl with h | h <;> omega
    have her1 : (er == 0) = false := by simpa using her
    have HQ := fun W => Lib.hid (qpass_err (w := W) (a := some ⟨b, o, none⟩) (n := ts.length) (c := c) (p := q) (d := d + 1) her ⟨#[41]⟩)
    unfold QBad at HQ
    simp only [Int.natCast_add, Int.cast_ofNat_Int] at HQ
    clear hb1 her
    go_wp2_with fail
    refine (HQ _).out.mono ?_
    rintro e w2 ⟨rfl, hb2⟩
    have HF2 := Lib.hid (HF1.out.go ((below_one w1 _).trans (hb2.mono (by simp only [World.size_alloc]; omega))))
    have HB2 := Lib.hid (HB1.out.trans (((below_one w1 _).trans (hb2.mono (by simp only [World.size_alloc]; omega))).mono HB1.out.size))
    have HB12 := Lib.hid ((below_one w1 _).trans (hb2.mono (by simp only [World.size_alloc]; omega)))
    clear hb2
    obtain ⟨c0, c1, c2, c3⟩ := blk4 HF2.out.b0
    obtain ⟨f0, f1, f2, f3, _⟩ := blk5f HF2.out.b0
    obtain ⟨d0, d1, d2, d3⟩ := blk4 HF2.out.b1
    obtain ⟨e0, e1, e2, e3, e4⟩ := blk5 HF2.out.b2
    obtain ⟨g0, g1, g2, g3, g4⟩ := blk5 HF2.out.b4
    obtain ⟨u0, u1, u2, u3, _⟩ := blk5f HF2.out.b1
    obtain ⟨v0, v1, v2, v3, v4⟩ := blk5f HF2.out.b2
    obtain ⟨q0, q1, q2, q3, q4⟩ := blk5f HF2.out.b4
    obtain ⟨r0, r1, r2, r3⟩ := blk4 HF2.out.b3
    have hl0 := lt_of_some HF2.out.b0
    have hl1 := lt_of_some HF2.out.b1
    have hl2 := lt_of_some HF2.out.b2
    have hl3 := lt_of_some HF2.out.b3
    have hl4 := lt_of_some HF2.out.b4
    have z2 : (((((w2.setCell ⟨w.heap.size, 0, none⟩ (.slice (some ⟨b, o, none⟩) ts.length c)).setCell ⟨w.heap.size, 1, none⟩ (.int .i64 q)).setCell ⟨w.heap.size, 2, none⟩ (.int .i64 (d + 1))).setCell ⟨w.heap.size, 3, none⟩ (.int .i64 er)).setCell ⟨w.heap.size, 2, none⟩ (.int .i64 d)).cell? ⟨w.heap.size, 2, none⟩ = some (.int .i64 d) := group_two HF2.out.b0
    go_wp2_with fail
    go_region
    all_goals go_wp2
    all_goals refine bodyPost_ret (v := .tuple #[.agg #[.slice (some ⟨b, o, none⟩) ts.length c, .int .i64 q, .int .i64 d, .int .i64 er], .agg #[.int .i64 ps, .int .i64 2, .string ⟨#[]⟩, .slice x n1 k1, .int .u8 0]]) (by simp [results, Try.results74, go_sem, *]) rfl ?_
    all_goals refine ⟨q, hq, ps, 2, 0, ⟨#[]⟩, x, n1, k1, hqp, rfl, ?_⟩
    all_goals refine Below.drew ?_
    all_goals repeat refine Below.setCell ?_ (by dsimp only; omega) _
    all_goals exact HB2.out
  | @close ks u r' hc =>
    rintro e w1 ⟨q, x, k1, ms, hqd, rfl, hms, hrow, hb1⟩
    have HF1 := Lib.hid (HF.out.go hb1)
    have HB1 := Lib.hid (HB.out.trans (hb1.mono HB.out.size))
    obtain ⟨hq, hqu, hqr⟩ := drop_at hqd
    have HQ := fun W (h : Below w.heap.size w W) => Lib.hid (qpass_no (w := W) (c := c) (d := d + 1) (HT.out.go h h.size) hq (S := [41]) (by rw [hqu]; exact hc))
    unfold QBad at HQ
    simp only [Int.natCast_add, Int.cast_ofNat_Int] at HQ
    have hqp : (ts[q]).pos = u.pos := by rw [hqu]
    clear hb1 hrow hms hqd hqu hqr
    go_wp2_with fail
    refine (HQ _ (HB1.out.trans ((below_one w1 _).mono HB1.out.size))).out.mono ?_
    rintro e w2 ⟨rfl, hb2⟩
    have HF2 := Lib.hid (HF1.out.go ((below_one w1 _).trans (hb2.mono (by simp only [World.size_alloc]; omega))))
    have HB2 := Lib.hid (HB1.out.trans (((below_one w1 _).trans (hb2.mono (by simp only [World.size_alloc]; omega))).mono HB1.out.size))
    have HB12 := Lib.hid ((below_one w1 _).trans (hb2.mono (by simp only [World.size_alloc]; omega)))
    clear hb2
    obtain ⟨c0, c1, c2, c3⟩ := blk4 HF2.out.b0
    obtain ⟨f0, f1, f2, f3, _⟩ := blk5f HF2.out.b0
    obtain ⟨d0, d1, d2, d3⟩ := blk4 HF2.out.b1
    obtain ⟨e0, e1, e2, e3, e4⟩ := blk5 HF2.out.b2
    obtain ⟨g0, g1, g2, g3, g4⟩ := blk5 HF2.out.b4
    obtain ⟨u0, u1, u2, u3, _⟩ := blk5f HF2.out.b1
    obtain ⟨v0, v1, v2, v3, v4⟩ := blk5f HF2.out.b2
    obtain ⟨q0, q1, q2, q3, q4⟩ := blk5f HF2.out.b4
    obtain ⟨r0, r1, r2, r3⟩ := blk4 HF2.out.b3
    have hl0 := lt_of_some HF2.out.b0
    have hl1 := lt_of_some HF2.out.b1
    have hl2 := lt_of_some HF2.out.b2
    have hl3 := lt_of_some HF2.out.b3
    have hl4 := lt_of_some HF2.out.b4
    have z2 : (((((w2.setCell ⟨w.heap.size, 0, none⟩ (.slice (some ⟨b, o, none⟩) ts.length c)).setCell ⟨w.heap.size, 1, none⟩ (.int .i64 q)).setCell ⟨w.heap.size, 2, none⟩ (.int .i64 (d + 1))).setCell ⟨w.heap.size, 3, none⟩ (.int .i64 5)).setCell ⟨w.heap.size, 2, none⟩ (.int .i64 d)).cell? ⟨w.heap.size, 2, none⟩ = some (.int .i64 d) := group_two HF2.out.b0
    go_wp2_with fail
    go_region
    all_goals go_wp2
    all_goals refine bodyPost_ret (v := .tuple #[.agg #[.slice (some ⟨b, o, none⟩) ts.length c, .int .i64 q, .int .i64 d, .int .i64 5], .agg #[.int .i64 ps, .int .i64 2, .string ⟨#[]⟩, .slice x ms.length k1, .int .u8 0]]) (by simp [results, Try.results74, go_sem, *]) rfl ?_
    all_goals refine ⟨q, hq, ps, 2, 0, ⟨#[]⟩, x, ms.length, k1, hqp, rfl, ?_⟩
    all_goals refine Below.drew ?_
    all_goals repeat refine Below.setCell ?_ (by dsimp only; omega) _
    all_goals exact HB2.out
  | @ok ks u r' hc =>
    rintro e w1 ⟨q, x, k1, ms, hqd, rfl, hms, hrow, hb1⟩
    have HF1 := Lib.hid (HF.out.go hb1)
    have HB1 := Lib.hid (HB.out.trans (hb1.mono HB.out.size))
    obtain ⟨hq, hqu, hqr⟩ := drop_at hqd
    have HQ := fun W (h : Below w.heap.size w W) => Lib.hid (qpass_yes (w := W) (c := c) (d := d + 1) (HT.out.go h h.size) hq hl (S := [41]) (by rw [hqu]; exact hc))
    unfold QPass at HQ
    simp only [Int.natCast_add, Int.cast_ofNat_Int] at HQ
    have hmsn := hms
    subst hmsn
    obtain ⟨hee, _⟩ := hps.alts_ok_ends he
    have her : Ends r' := hee.tail (by rw [sgn_kind hc]; decide)
    obtain ⟨uu, rr, hrr⟩ := her.ne
    have hp0 := hp
    clear hp
    have hp : q + 1 < ts.length := by
      rcases Nat.lt_or_ge (q + 1) ts.length with h | h
      · exact h
      · rw [List.drop_eq_nil_of_le h] at hqr; rw [← hqr] at hrr; cases hrr
    have HQR := Lib.hid hqr
    have HDR := Lib.hid (show ts.drop (q + 1) = ts[q + 1] :: ts.drop (q + 1 + 1) from List.drop_eq_getElem_cons hp)
    have HS := fun W (h : Below w.heap.size w W) S => Lib.hid (qsign_any (c := c) (d := d) (e := 0) (HT.out.go h h.size) hp S)
    simp only [Int.natCast_add, Int.cast_ofNat_Int] at HS
    have HRW := Lib.hid hrow
    have HHB := Lib.hid hb1
    clear hb1 hrow hqd hqu hqr hrr her hee hms
    go_wp2_with fail
    refine (HQ _ (HB1.out.trans ((below_one w1 _).mono HB1.out.size))).out.mono ?_
    rintro e w2 ⟨rfl, hb2⟩
    have HF2 := Lib.hid (HF1.out.go ((below_one w1 _).trans (hb2.mono (by simp only [World.size_alloc]; omega))))
    have HB2 := Lib.hid (HB1.out.trans (((below_one w1 _).trans (hb2.mono (by simp only [World.size_alloc]; omega))).mono HB1.out.size))
    have HB12 := Lib.hid ((below_one w1 _).trans (hb2.mono (by simp only [World.size_alloc]; omega)))
    clear hb2
    obtain ⟨c0, c1, c2, c3⟩ := blk4 HF2.out.b0
    obtain ⟨f0, f1, f2, f3, _⟩ := blk5f HF2.out.b0
    obtain ⟨d0, d1, d2, d3⟩ := blk4 HF2.out.b1
    obtain ⟨e0, e1, e2, e3, e4⟩ := blk5 HF2.out.b2
    obtain ⟨g0, g1, g2, g3, g4⟩ := blk5 HF2.out.b4
    obtain ⟨u0, u1, u2, u3, _⟩ := blk5f HF2.out.b1
    obtain ⟨v0, v1, v2, v3, v4⟩ := blk5f HF2.out.b2
    obtain ⟨q0, q1, q2, q3, q4⟩ := blk5f HF2.out.b4
    obtain ⟨r0, r1, r2, r3⟩ := blk4 HF2.out.b3
    have hl0 := lt_of_some HF2.out.b0
    have hl1 := lt_of_some HF2.out.b1
    have hl2 := lt_of_some HF2.out.b2
    have hl3 := lt_of_some HF2.out.b3
    have hl4 := lt_of_some HF2.out.b4
    have z2 : (((((w2.setCell ⟨w.heap.size, 0, none⟩ (.slice (some ⟨b, o, none⟩) ts.length c)).setCell ⟨w.heap.size, 1, none⟩ (.int .i64 (q + 1))).setCell ⟨w.heap.size, 2, none⟩ (.int .i64 (d + 1))).setCell ⟨w.heap.size, 3, none⟩ (.int .i64 0)).setCell ⟨w.heap.size, 2, none⟩ (.int .i64 d)).cell? ⟨w.heap.size, 2, none⟩ = some (.int .i64 d) := group_two HF2.out.b0
    go_wp2_with fail
    have HFX := Lib.hid (group_five HF2.out (.slice (some ⟨b, o, none⟩) ts.length c) (.int .i64 (q + 1)) (.int .i64 (d + 1)) (.int .i64 0) (.int .i64 d) (.int .i64 ps) (.int .i64 2) (.string ⟨#[]⟩) (.slice x ms.length k1) (.int .u8 0))
    have HBX : Hid (Below w.heap.size w ((((((((((w2.setCell ⟨w.heap.size, 0, none⟩ (.slice (some ⟨b, o, none⟩) ts.length c)).setCell ⟨w.heap.size, 1, none⟩ (.int .i64 (q + 1))).setCell ⟨w.heap.size, 2, none⟩ (.int .i64 (d + 1))).setCell ⟨w.heap.size, 3, none⟩ (.int .i64 0)).setCell ⟨w.heap.size, 2, none⟩ (.int .i64 d)).setCell ⟨w.heap.size + 1 + 1 + 1 + 1, 0, none⟩ (.int .i64 ps)).setCell ⟨w.heap.size + 1 + 1 + 1 + 1, 1, none⟩ (.int .i64 2)).setCell ⟨w.heap.size + 1 + 1 + 1 + 1, 2, none⟩ (.string ⟨#[]⟩)).setCell ⟨w.heap.size + 1 + 1 + 1 + 1, 3, none⟩ (.slice x ms.length k1)).setCell ⟨w.heap.size + 1 + 1 + 1 + 1, 4, none⟩ (.int .u8 0))) := by
      show Below _ _ _
      repeat refine Below.setCell ?_ (by dsimp only; omega) _
      exact HB2.out
    have hsz5 : (((((w.alloc (.cells #[.slice (some ⟨b, o, none⟩) ts.length c, .int .i64 (p + 1), .int .i64 (d + 1), .int .i64 0] 75)).alloc z75).alloc z83).alloc (.cells #[.int .i64 4, .int .i64 ps, .string ⟨#[40]⟩, .float .f64 wt] 60)).alloc (.cells #[.int .i64 ps, .int .i64 0, .string ⟨#[40]⟩, .slice none 0 0, .int .u8 0] 83)).heap.size = w.heap.size + 5 := by simp only [World.size_alloc]
    unfold z75 z83 at hsz5
    have HR1 : Hid (RowOf w1 (w.heap.size + 5) 81 3 83 5 (.slice x ms.length k1) ms) := by
      have := HRW.out
      rw [hsz5] at this
      exact this
    have HRW0 : Hid (RowOf ((((((((((w2.setCell ⟨w.heap.size, 0, none⟩ (.slice (some ⟨b, o, none⟩) ts.length c)).setCell ⟨w.heap.size, 1, none⟩ (.int .i64 (q + 1))).setCell ⟨w.heap.size, 2, none⟩ (.int .i64 (d + 1))).setCell ⟨w.heap.size, 3, none⟩ (.int .i64 0)).setCell ⟨w.heap.size, 2, none⟩ (.int .i64 d)).setCell ⟨w.heap.size + 1 + 1 + 1 + 1, 0, none⟩ (.int .i64 ps)).setCell ⟨w.heap.size + 1 + 1 + 1 + 1, 1, none⟩ (.int .i64 2)).setCell ⟨w.heap.size + 1 + 1 + 1 + 1, 2, none⟩ (.string ⟨#[]⟩)).setCell ⟨w.heap.size + 1 + 1 + 1 + 1, 3, none⟩ (.slice x ms.length k1)).setCell ⟨w.heap.size + 1 + 1 + 1 + 1, 4, none⟩ (.int .u8 0)) (w.heap.size + 5) 81 3 83 5 (.slice x ms.length k1) ms) := by
      have h2 := HR1.out.go (kept_of_below (S := fun _ => False) HB12.out) (fun _ h => h.elim)
      refine h2.go (S := fun k => k < w.heap.size + 5) ?_ (fun k hk => hk)
      repeat refine Kept.setCell (S := fun k => k < w.heap.size + 5) ?_ (.inl (by dsimp only; omega)) _
      exact Kept.refl _ _
    have hpi2 : (q : Int) + 1 < ts.length := by omega
    have hq0 : b ≠ w.heap.size := hne
    have hne3 : b ≠ w.heap.size + 1 + 1 + 1 + 1 := by omega
    clear z2 c0 c1 c2 c3 f0 f1 f2 f3 d0 d1 d2 d3 e0 e1 e2 e3 e4 g0 g1 g2 g3 g4 u0 u1 u2 u3 v0 v1 v2 v3 v4 q0 q1 q2 q3 q4 r0 r1 r2 r3 hl0 hl1 hl2 hl3 hl4 hsz5
    cases s0 : sgnB ts[q + 1] [63]
    · refine (HS _ HBX.out [63]).out.mono ?_
      rw [s0]
      rintro e v1 ⟨rfl, hb1⟩
      have HF1 := Lib.hid (HFX.out.go hb1)
      have HB1 := Lib.hid (HBX.out.trans (hb1.mono HBX.out.size))
      have HRW1 := Lib.hid (HRW0.out.go (kept_of_below (S := fun _ => False) hb1) (fun _ h => h.elim))
      clear hb1
      obtain ⟨m0, m1, m2, m3⟩ := blk4 HF1.out.b0
      have ml := lt_of_some HF1.out.b0
      go_wp2_with fail
      clear m0 m1 m2 m3 ml
      cases s1 : sgnB ts[q + 1] [42]
      · refine (HS _ HB1.out [42]).out.mono ?_
        rw [s1]
        rintro e v2 ⟨rfl, hb2⟩
        have HF2 := Lib.hid (HF1.out.go hb2)
        have HB2 := Lib.hid (HB1.out.trans (hb2.mono HB1.out.size))
        have HRW2 := Lib.hid (HRW1.out.go (kept_of_below (S := fun _ => False) hb2) (fun _ h => h.elim))
        clear hb2
        obtain ⟨m0, m1, m2, m3⟩ := blk4 HF2.out.b0
        have ml := lt_of_some HF2.out.b0
        go_wp2_with fail
        clear m0 m1 m2 m3 ml
        cases s2 : sgnB ts[q + 1] [43]
        · refine (HS _ HB2.out [43]).out.mono ?_
          rw [s2]
          rintro e v3 ⟨rfl, hb3⟩
          have HF3 := Lib.hid (HF2.out.go hb3)
          have HB3 := Lib.hid (HB2.out.trans (hb3.mono HB2.out.size))
          have HRW3 := Lib.hid (HRW2.out.go (kept_of_below (S := fun _ => False) hb3) (fun _ h => h.elim))
          clear hb3
          have HOP := Lib.hid (show opP r' = (0, ts.drop (q + 1)) by rw [← HQR.out, HDR.out, opP_cons, if_neg (by rw [s0]; decide), if_neg (by rw [s1]; decide), if_neg (by rw [s2]; decide), ← HDR.out])
          obtain ⟨c0, c1, c2, c3⟩ := blk4 HF3.out.b0
          obtain ⟨d0, d1, d2, d3⟩ := blk4 HF3.out.b1
          obtain ⟨e0, e1, e2, e3, e4⟩ := blk5 HF3.out.b2
          obtain ⟨g0, g1, g2, g3, g4⟩ := blk5 HF3.out.b4
          obtain ⟨u0, u1, u2, u3, _⟩ := blk5f HF3.out.b1
          obtain ⟨v0, v1, v2, v3, v4⟩ := blk5f HF3.out.b2
          have hl0 := lt_of_some HF3.out.b0
          have hl1 := lt_of_some HF3.out.b1
          have hl2 := lt_of_some HF3.out.b2
          have hl4 := lt_of_some HF3.out.b4
          go_wp2_with fail
          go_region
          all_goals go_wp2
          all_goals refine bodyPost_ret (v := .tuple #[.agg #[.slice (some ⟨b, o, none⟩) ts.length c, .int .i64 (q + 1), .int .i64 d, .int .i64 0], .agg #[.int .i64 ps, .int .i64 2, .string ⟨#[]⟩, .slice x ms.length k1, .int .u8 0]]) (by simp [results, Try.results74, go_sem, *]) rfl ?_
          all_goals refine ⟨q + 1, ps, 2, 0, ⟨#[]⟩, x, k1, ms, by rw [HOP.out], rfl, by rw [HOP.out]; rfl, ?_, ?_⟩
          any_goals refine Below.drew ?_
          any_goals repeat refine Below.setCell ?_ (by dsimp only; omega) _
          any_goals exact HB3.out
          all_goals refine RowOf.low (lo := w.heap.size + 5) (by omega) (RowOf.go (S := fun k => k < w.heap.size + 5) HRW3.out ?_ (fun k hk => hk))
          all_goals refine Kept.drew ?_
          all_goals repeat refine Kept.setCell (S := fun k => k < w.heap.size + 5) ?_ (.inl (by dsimp only; omega)) _
          all_goals exact Kept.refl _ _
        · have hx1 := sgn_text s2
          refine (HS _ HB2.out [43]).out.mono ?_
          rw [s2]
          rintro e v3 ⟨rfl, hb3⟩
          have HF3 := Lib.hid (HF2.out.go hb3)
          have HB3 := Lib.hid (HB2.out.trans (hb3.mono HB2.out.size))
          have HRW3 := Lib.hid (HRW2.out.go (kept_of_below (S := fun _ => False) hb3) (fun _ h => h.elim))
          clear hb3
          obtain ⟨b', o', hbo, hb', t0, t1, t2, t3⟩ := (HT.out.go HB3.out HB3.out.size).cells0 hp
          obtain ⟨rfl, rfl⟩ : b = b' ∧ o = o' := by simpa using hbo
          rw [hx1] at t2
          simp only [show bOf [43] = ⟨#[43]⟩ from rfl] at t2
          clear t0 t1 t3 hbo hx1
          have HOP := Lib.hid (show opP r' = (43, ts.drop (q + 1 + 1)) by rw [← HQR.out, HDR.out, opP_cons, if_neg (by rw [s0]; decide), if_neg (by rw [s1]; decide), if_pos s2])
          obtain ⟨c0, c1, c2, c3⟩ := blk4 HF3.out.b0
          have f01 := free_of_block (off := 1) HF3.out.b0
          obtain ⟨d0, d1, d2, d3⟩ := blk4 HF3.out.b1
          obtain ⟨e0, e1, e2, e3, e4⟩ := blk5 HF3.out.b2
          obtain ⟨g0, g1, g2, g3, g4⟩ := blk5 HF3.out.b4
          obtain ⟨u0, u1, u2, u3, _⟩ := blk5f HF3.out.b1
          obtain ⟨v0, v1, v2, v3, v4⟩ := blk5f HF3.out.b2
          have f44 := free_of_block (off := 4) HF3.out.b4
          have hl0 := lt_of_some HF3.out.b0
          have hl1 := lt_of_some HF3.out.b1
          have hl2 := lt_of_some HF3.out.b2
          have hl4 := lt_of_some HF3.out.b4
          go_wp2_with fail
          go_region
          all_goals go_wp2
          all_goals refine bodyPost_ret (v := .tuple #[.agg #[.slice (some ⟨b, o, none⟩) ts.length c, .int .i64 (q + 1 + 1), .int .i64 d, .int .i64 0], .agg #[.int .i64 ps, .int .i64 2, .string ⟨#[]⟩, .slice x ms.length k1, .int .u8 43]]) (by simp [results, Try.results74, go_sem, *]; rfl) rfl ?_
          all_goals refine ⟨q + 1 + 1, ps, 2, 43, ⟨#[]⟩, x, k1, ms, by rw [HOP.out], rfl, by rw [HOP.out]; rfl, ?_, ?_⟩
          any_goals refine Below.drew ?_
          any_goals repeat refine Below.setCell ?_ (by dsimp only; omega) _
          any_goals exact HB3.out
          all_goals refine RowOf.low (lo := w.heap.size + 5) (by omega) (RowOf.go (S := fun k => k < w.heap.size + 5) HRW3.out ?_ (fun k hk => hk))
          all_goals refine Kept.drew ?_
          all_goals repeat refine Kept.setCell (S := fun k => k < w.heap.size + 5) ?_ (.inl (by dsimp only; omega)) _
          all_goals exact Kept.refl _ _
      · have hx1 := sgn_text s1
        refine (HS _ HB1.out [42]).out.mono ?_
        rw [s1]
        rintro e v2 ⟨rfl, hb2⟩
        have HF2 := Lib.hid (HF1.out.go hb2)
        have HB2 := Lib.hid (HB1.out.trans (hb2.mono HB1.out.size))
        have HRW2 := Lib.hid (HRW1.out.go (kept_of_below (S := fun _ => False) hb2) (fun _ h => h.elim))
        clear hb2
        obtain ⟨b', o', hbo, hb', t0, t1, t2, t3⟩ := (HT.out.go HB2.out HB2.out.size).cells0 hp
        obtain ⟨rfl, rfl⟩ : b = b' ∧ o = o' := by simpa using hbo
        rw [hx1] at t2
        simp only [show bOf [42] = ⟨#[42]⟩ from rfl] at t2
        clear t0 t1 t3 hbo hx1
        have HOP := Lib.hid (show opP r' = (42, ts.drop (q + 1 + 1)) by rw [← HQR.out, HDR.out, opP_cons, if_neg (by rw [s0]; decide), if_pos s1])
        obtain ⟨c0, c1, c2, c3⟩ := blk4 HF2.out.b0
        have f01 := free_of_block (off := 1) HF2.out.b0
        obtain ⟨d0, d1, d2, d3⟩ := blk4 HF2.out.b1
        obtain ⟨e0, e1, e2, e3, e4⟩ := blk5 HF2.out.b2
        obtain ⟨g0, g1, g2, g3, g4⟩ := blk5 HF2.out.b4
        obtain ⟨u0, u1, u2, u3, _⟩ := blk5f HF2.out.b1
        obtain ⟨v0, v1, v2, v3, v4⟩ := blk5f HF2.out.b2
        have f44 := free_of_block (off := 4) HF2.out.b4
        have hl0 := lt_of_some HF2.out.b0
        have hl1 := lt_of_some HF2.out.b1
        have hl2 := lt_of_some HF2.out.b2
        have hl4 := lt_of_some HF2.out.b4
        go_wp2_with fail
        go_region
        all_goals go_wp2
        all_goals refine bodyPost_ret (v := .tuple #[.agg #[.slice (some ⟨b, o, none⟩) ts.length c, .int .i64 (q + 1 + 1), .int .i64 d, .int .i64 0], .agg #[.int .i64 ps, .int .i64 2, .string ⟨#[]⟩, .slice x ms.length k1, .int .u8 42]]) (by simp [results, Try.results74, go_sem, *]; rfl) rfl ?_
        all_goals refine ⟨q + 1 + 1, ps, 2, 42, ⟨#[]⟩, x, k1, ms, by rw [HOP.out], rfl, by rw [HOP.out]; rfl, ?_, ?_⟩
        any_goals refine Below.drew ?_
        any_goals repeat refine Below.setCell ?_ (by dsimp only; omega) _
        any_goals exact HB2.out
        all_goals refine RowOf.low (lo := w.heap.size + 5) (by omega) (RowOf.go (S := fun k => k < w.heap.size + 5) HRW2.out ?_ (fun k hk => hk))
        all_goals refine Kept.drew ?_
        all_goals repeat refine Kept.setCell (S := fun k => k < w.heap.size + 5) ?_ (.inl (by dsimp only; omega)) _
        all_goals exact Kept.refl _ _
    · have hx1 := sgn_text s0
      refine (HS _ HBX.out [63]).out.mono ?_
      rw [s0]
      rintro e v1 ⟨rfl, hb1⟩
      have HF1 := Lib.hid (HFX.out.go hb1)
      have HB1 := Lib.hid (HBX.out.trans (hb1.mono HBX.out.size))
      have HRW1 := Lib.hid (HRW0.out.go (kept_of_below (S := fun _ => False) hb1) (fun _ h => h.elim))
      clear hb1
      obtain ⟨b', o', hbo, hb', t0, t1, t2, t3⟩ := (HT.out.go HB1.out HB1.out.size).cells0 hp
      obtain ⟨rfl, rfl⟩ : b = b' ∧ o = o' := by simpa using hbo
      rw [hx1] at t2
      simp only [show bOf [63] = ⟨#[63]⟩ from rfl] at t2
      clear t0 t1 t3 hbo hx1
      have HOP := Lib.hid (show opP r' = (63, ts.drop (q + 1 + 1)) by rw [← HQR.out, HDR.out, opP_cons, if_pos s0])
      obtain ⟨c0, c1, c2, c3⟩ := blk4 HF1.out.b0
      have f01 := free_of_block (off := 1) HF1.out.b0
      obtain ⟨d0, d1, d2, d3⟩ := blk4 HF1.out.b1
      obtain ⟨e0, e1, e2, e3, e4⟩ := blk5 HF1.out.b2
      obtain ⟨g0, g1, g2, g3, g4⟩ := blk5 HF1.out.b4
      obtain ⟨u0, u1, u2, u3, _⟩ := blk5f HF1.out.b1
      obtain ⟨v0, v1, v2, v3, v4⟩ := blk5f HF1.out.b2
      have f44 := free_of_block (off := 4) HF1.out.b4
      have hl0 := lt_of_some HF1.out.b0
      have hl1 := lt_of_some HF1.out.b1
      have hl2 := lt_of_some HF1.out.b2
      have hl4 := lt_of_some HF1.out.b4
      go_wp2_with fail
      go_region
      all_goals go_wp2
      all_goals refine bodyPost_ret (v := .tuple #[.agg #[.slice (some ⟨b, o, none⟩) ts.length c, .int .i64 (q + 1 + 1), .int .i64 d, .int .i64 0], .agg #[.int .i64 ps, .int .i64 2, .string ⟨#[]⟩, .slice x ms.length k1, .int .u8 63]]) (by simp [results, Try.results74, go_sem, *]; rfl) rfl ?_
      all_goals refine ⟨q + 1 + 1, ps, 2, 63, ⟨#[]⟩, x, k1, ms, by rw [HOP.out], rfl, by rw [HOP.out]; rfl, ?_, ?_⟩
      any_goals refine Below.drew ?_
      any_goals repeat refine Below.setCell ?_ (by dsimp only; omega) _
      any_goals exact HB1.out
      all_goals refine RowOf.low (lo := w.heap.size + 5) (by omega) (RowOf.go (S := fun k => k < w.heap.size + 5) HRW1.out ?_ (fun k hk => hk))
      all_goals refine Kept.drew ?_
      all_goals repeat refine Kept.setCell (S := fun k => k < w.heap.size + 5) ?_ (.inl (by dsimp only; omega)) _
      all_goals exact Kept.refl _ _
end Go.Proofs.Yticdihfjnmjkmaa
