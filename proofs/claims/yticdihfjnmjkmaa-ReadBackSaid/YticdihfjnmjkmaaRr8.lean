/- The reference's reader: alternatives. -/
import Derived.Test.YticdihfjnmjkmaaRr6
namespace Go.Proofs.Yticdihfjnmjkmaa
open Go.RowKit
theorem ends_lt {ts : List Tok} {p : Nat} (h : Ends (ts.drop p)) : p < ts.length := by
  obtain ⟨u, r, hr⟩ := h.ne
  rcases Nat.lt_or_ge p ts.length with h | h
  · exact h
  · rw [List.drop_eq_nil_of_le h] at hr; cases hr
theorem qalt_any {a : Option Addr} {c : Nat} {ts : List Tok} {n : Nat} (hl : ts.length ≤ 100000) (HI : QItemAny a c ts n) {w : World} {p d : Nat} (hd : d ≤ 16) (hT : ToksAt w w.heap.size a ts) {o : Out} (hps : Ps .alt d (ts.drop p) o) (he : Ends (ts.drop p)) (hn : (ts.drop p).length ≤ n) :
    Calls Try.prog 59 #[.agg #[.slice a ts.length c, .int .i64 p, .int .i64 d, .int .i64 0]] w (QAltPost a c ts d o w) := by
  have hp := ends_lt he
  have hdr : ts.drop p = ts[p] :: ts.drop (p + 1) := List.drop_eq_getElem_cons hp
  generalize hll : ts.drop p = l at hps
  rw [hdr] at hll
  cases hps with | @alt d t r o h1 => ?_
  obtain ⟨rfl, rfl⟩ := List.cons.inj hll
  by_cases hk : (ts[p]).kind = 3
  · rw [if_pos hk] at h1
    have he1 : Ends (ts.drop (p + 1)) := by rw [hdr] at he; exact he.tail (by omega)
    rw [hdr, List.length_cons] at hn
    exact qalt_w hl HI hd hT hp hk (ends_lt he1) h1 he1 (by omega)
  · rw [if_neg hk, ← hdr] at h1
    exact qalt_n hl HI hd hT hp hk h1 he hn
/-- The alternatives so far. -/
structure QAltsInv (a : Option Addr) (c : Nat) (ts : List Tok) (d n B : Nat) (o : Out) (w wr : World) (m q : Nat) (is : List MN) (x : Option Addr) (k : Nat) (ok : Out) : Prop where
  hq : q < ts.length
  len : m = (ts.drop q).length
  le : (ts.drop q).length ≤ n
  few : is.length + (ts.drop q).length ≤ 100001
  ends : Ends (ts.drop q)
  st : wr.heap[B]? = some (.cells #[.slice a ts.length c, .int .i64 q, .int .i64 d, .int .i64 0] 75 (0, 0))
  z1 : wr.heap[B + 1]? = some (.cells #[.slice none 0 0, .int .i64 0, .int .i64 0, .int .i64 0] 75 (0, 0))
  row : RowOf wr (B + 2) 81 3 83 5 (.slice x is.length k) is
  below : Below w.heap.size w wr
  ps : Ps .more d (ts.drop q) ok
  out : o = ok.pres (is.map MN.pn)
  low : B = w.heap.size
/-- Behind an error. -/
structure QAltsErr (a : Option Addr) (c : Nat) (ts : List Tok) (d B : Nat) (o : Out) (w wr : World) (q : Nat) (er : Int) : Prop where
  hq : q < ts.length
  st : wr.heap[B]? = some (.cells #[.slice a ts.length c, .int .i64 q, .int .i64 d, .int .i64 er] 75 (0, 0))
  z1 : wr.heap[B + 1]? = some (.cells #[.slice none 0 0, .int .i64 0, .int .i64 0, .int .i64 0] 75 (0, 0))
  below : Below w.heap.size w wr
  er0 : er ≠ 0
  out : o = .err er (ts[q]).pos
  low : B = w.heap.size
theorem QAltsInv.go {a : Option Addr} {c : Nat} {ts : List Tok} {d n B : Nat} {o : Out} {w wr W : World} {m q : Nat} {is : List MN} {x : Option Addr} {k : Nat} {ok : Out} (h : QAltsInv a c ts d n B o w wr m q is x k ok) (hb : Below wr.heap.size wr W) :
    QAltsInv a c ts d n B o w W m q is x k ok :=
  ⟨h.hq, h.len, h.le, h.few, h.ends, (hb.block _ (lt_of_some h.st)).trans h.st, (hb.block _ (lt_of_some h.z1)).trans h.z1, h.row.go (kept_of_below (S := fun _ => False) hb) (fun _ h => h.elim), h.below.trans (hb.mono h.below.size), h.ps, h.out, h.low⟩
/-- What the append's step makes of memory. -/
structure QStepA (B : Nat) (wr w3 w4 : World) (s0 s1 s2 s3 : Value) (v : Value) (cs : Array Value) : Prop where
  hb : Below wr.heap.size wr w3
  gr : (((((w3.setCell ⟨B, 0, none⟩ s0).setCell ⟨B, 1, none⟩ s1).setCell ⟨B, 2, none⟩ s2).setCell ⟨B, 3, none⟩ s3).alloc (.cells cs 81)).grownBy w4 v.ownBlock
section
variable {B : Nat} {wr w3 w4 : World} {s0 s1 s2 s3 v : Value} {cs : Array Value}
theorem QStepA.kS (_h : QStepA B wr w3 w4 s0 s1 s2 s3 v cs) : Kept (· = B) w3 ((((w3.setCell ⟨B, 0, none⟩ s0).setCell ⟨B, 1, none⟩ s1).setCell ⟨B, 2, none⟩ s2).setCell ⟨B, 3, none⟩ s3) := by
  repeat refine Kept.setCell (S := (· = B)) ?_ (.inl rfl) _
  exact Kept.refl _ _
theorem QStepA.k1 (h : QStepA B wr w3 w4 s0 s1 s2 s3 v cs) : Kept (· = B) wr ((((w3.setCell ⟨B, 0, none⟩ s0).setCell ⟨B, 1, none⟩ s1).setCell ⟨B, 2, none⟩ s2).setCell ⟨B, 3, none⟩ s3) :=
  (kept_of_below (S := (· = B)) h.hb).trans h.kS
theorem QStepA.far (h : QStepA B wr w3 w4 s0 s1 s2 s3 v cs) {j : Nat} {oj : Obj} (hj : wr.heap[j]? = some oj) (hne : j ≠ B) (hv : v.ownBlock ≠ some j) : w4.heap[j]? = some oj := by
  have hl := lt_of_some hj
  have h1 := h.k1.get hj hne
  have h2 := lt_of_some h1
  refine (h.gr.block j (by simp only [World.size_alloc] at h2 ⊢; omega) (fun e => hv e.symm)).trans ?_
  exact heap_alloc_keep h1
theorem QStepA.near (h : QStepA B wr w3 w4 s0 s1 s2 s3 v cs) {y0 y1 y2 y3 : Value} {t : TypeId} (hj : wr.heap[B]? = some (.cells #[y0, y1, y2, y3] t (0, 0))) (hv : v.ownBlock ≠ some B) : w4.heap[B]? = some (.cells #[s0, s1, s2, s3] t (0, 0)) := by
  have hl := lt_of_some hj
  have hs := h.hb.size
  have q3 : w3.heap[B]? = some (.cells #[y0, y1, y2, y3] t (0, 0)) := (h.hb.block _ hl).trans hj
  have e0 := heap_setCell_known (off := 0) (u := s0) q3
  have e1 := heap_setCell_known (off := 1) (u := s1) e0
  have e2 := heap_setCell_known (off := 2) (u := s2) e1
  have e3 := heap_setCell_known (off := 3) (u := s3) e2
  refine (h.gr.block B (by simp only [World.size_alloc, World.size_setCell]; omega) (fun e => hv e.symm)).trans ?_
  exact heap_alloc_keep (by simpa using e3)
theorem QStepA.below (h : QStepA B wr w3 w4 s0 s1 s2 s3 v cs) {b : Nat} (hb : b ≤ B) (hv : ∀ j, v.ownBlock = some j → b ≤ j) (hbw : b ≤ wr.heap.size) : Below b wr w4 := by
  have k1 := h.k1.alloc (.cells cs 81)
  have hg := h.gr
  generalize (((((w3.setCell ⟨B, 0, none⟩ s0).setCell ⟨B, 1, none⟩ s1).setCell ⟨B, 2, none⟩ s2).setCell ⟨B, 3, none⟩ s3).alloc (.cells cs 81)) = X at k1 hg
  have h1 := k1.size
  exact ⟨hg.os.trans k1.os, hg.tape.trans k1.tape, hg.output.trans k1.output, Nat.le_trans h1 hg.size, fun j hj => (hg.block j (by omega) (fun e => by have := hv j e.symm; omega)).trans (k1.block j (by omega) (by omega))⟩
end
section
variable {a : Option Addr} {c : Nat} {ts : List Tok} {d n B : Nat} {o : Out} {w wr : World} {m q : Nat} {is : List MN} {x : Option Addr} {k : Nat} {ok : Out}
theorem QAltsInv.vlo (h : QAltsInv a c ts d n B o w wr m q is x k ok) : ∀ j, (Value.slice x is.length k).ownBlock = some j → B + 2 ≤ j := fun _ hj => (row_lt h.row.row hj).1
/-- Behind the sign. -/
theorem QAltsInv.pass (h : QAltsInv a c ts d n B o w wr m q is x k ok) :
    (wr.setCell ⟨B, 1, none⟩ (.int .i64 (q + 1))).heap[B]? = some (.cells #[.slice a ts.length c, .int .i64 (q + 1), .int .i64 d, .int .i64 0] 75 (0, 0)) ∧ (wr.setCell ⟨B, 1, none⟩ (.int .i64 (q + 1))).heap[B + 1]? = some (.cells #[.slice none 0 0, .int .i64 0, .int .i64 0, .int .i64 0] 75 (0, 0)) ∧
    RowOf (wr.setCell ⟨B, 1, none⟩ (.int .i64 (q + 1))) (B + 2) 81 3 83 5 (.slice x is.length k) is ∧ Below w.heap.size w (wr.setCell ⟨B, 1, none⟩ (.int .i64 (q + 1))) := by
  have ks : Kept (· = B) wr (wr.setCell ⟨B, 1, none⟩ (.int .i64 (q + 1))) := Kept.setCell (S := (· = B)) (Kept.refl _ _) (.inl rfl) _
  have e1 := heap_setCell_known (off := 1) (u := .int .i64 (q + 1)) h.st
  have hlow := h.low
  exact ⟨by simpa using e1, ks.get h.z1 (by omega), h.row.go ks (fun k hk => by omega), h.below.setCell (by dsimp only; omega) _⟩
theorem QAltsInv.next (h : QAltsInv a c ts d n B o w wr m q is x k ok) {wx w5 : World} {q2 at2 wt2 k' : Nat} {x' : Option Addr} {ms : List MN} {ns : List PN} {l1 : List Tok} {o1 : Out}
    (hs : sgnB (ts[q]'(h.hq)) [124] = true) (hpi : Ps .alt d (ts.drop (q + 1)) (.ok ns l1)) (hpm : Ps .more d l1 o1) (hok : ok = o1.pres ns) (hd : ts.drop q2 = l1) (hns : [.node [.int .i64 at2, .float .f64 wt2] [] (ms.map MN.pn)] = ns)
    (hrow : RowOf wx (wr.setCell ⟨B, 1, none⟩ (.int .i64 (q + 1))).heap.size 83 5 81 3 (.slice x' ms.length k') ms)
    (hst : QStepA B (wr.setCell ⟨B, 1, none⟩ (.int .i64 (q + 1))) wx w5 (.slice a ts.length c) (.int .i64 q2) (.int .i64 d) (.int .i64 0) (.slice x is.length k) #[.int .i64 at2, .float .f64 wt2, .slice x' ms.length k'])
    {g cap : Nat} (hown : w5.ownsRow (B + 2) 81 3 (.slice (some ⟨g, 0, none⟩) (is.length + 1) cap) (is.length + 1) (rowC is ++ [.int .i64 at2, .float .f64 wt2, .slice x' ms.length k']))
    (hat : (Value.slice x is.length k).ownBlock = some g ∨ g = wx.heap.size + 1) :
    QAltsInv a c ts d n B o w w5 (ts.drop q2).length q2 (is ++ [.node [.int .i64 at2, .float .f64 wt2] [] (.slice x' ms.length k') ms]) (some ⟨g, 0, none⟩) cap o1 ∧ (ts.drop q2).length < m := by
  subst hd
  obtain ⟨p1, p2, p3, p4⟩ := h.pass
  have hdr : ts.drop q = (ts[q]'(h.hq)) :: ts.drop (q + 1) := List.drop_eq_getElem_cons h.hq
  have he1 : Ends (ts.drop (q + 1)) := by have := h.ends; rw [hdr] at this; exact this.tail (by rw [sgn_kind hs]; decide)
  obtain ⟨e1, e2, _⟩ := hpi.res he1 _ _ rfl
  have hvl := h.vlo
  have hBw := lt_of_some h.z1
  have hlow := h.low
  have hfew := h.few
  have hlen := h.len
  have hle := h.le
  rw [hdr, List.length_cons] at hfew hlen hle
  have hq2 := ends_lt e1
  have hsB : ∀ j, j ≤ B + 1 → (Value.slice x is.length k).ownBlock ≠ some j := fun j hj e => by have := hvl j e; omega
  have hsz : (wr.setCell ⟨B, 1, none⟩ (.int .i64 (q + 1))).heap.size = wr.heap.size := by simp
  generalize wr.setCell ⟨B, 1, none⟩ (.int .i64 (q + 1)) = W3 at *
  have hm : MN.At ((((wx.setCell ⟨B, 0, none⟩ (.slice a ts.length c)).setCell ⟨B, 1, none⟩ (.int .i64 q2)).setCell ⟨B, 2, none⟩ (.int .i64 d)).setCell ⟨B, 3, none⟩ (.int .i64 0)) W3.heap.size 83 5 81 3 (.node [.int .i64 at2, .float .f64 wt2] [] (.slice x' ms.length k') ms) :=
    (hrow.at _ _).go hst.kS (fun k hk => by omega)
  have hrow2 := p3.next hm rfl hst.k1 (fun k hk => by omega) rfl hst.gr hown (by simpa using hat) (by omega)
  have hb1 := hst.below (b := w.heap.size) (by omega) (fun j hj => by have := hvl j hj; omega) (by have := h.below.size; omega)
  refine ⟨⟨hq2, rfl, by omega, ?_, e1, hst.near p1 (hsB _ (by omega)), hst.far p2 (by omega) (hsB _ (by omega)), ?_, p4.trans hb1, hpm, ?_, hlow⟩, by omega⟩
  · simp only [List.length_append, List.length_cons, List.length_nil]; omega
  · rw [List.length_append]
    exact hrow2
  · rw [h.out, hok, ← hns, List.map_append, Out.pres_pres]
    simp [MN.pn, MN.pnL_map]
theorem QAltsInv.fail (h : QAltsInv a c ts d n B o w wr m q is x k ok) {wx w5 : World} {q2 : Nat} (hq2 : q2 < ts.length) {er : Int} (he : er ≠ 0) (hok : ok = .err er (ts[q2]).pos) {cs : Array Value}
    (hst : QStepA B (wr.setCell ⟨B, 1, none⟩ (.int .i64 (q + 1))) wx w5 (.slice a ts.length c) (.int .i64 q2) (.int .i64 d) (.int .i64 er) (.slice x is.length k) cs) : QAltsErr a c ts d B o w w5 q2 er := by
  obtain ⟨p1, p2, _, p4⟩ := h.pass
  have hvl := h.vlo
  have hlow := h.low
  have hsB : ∀ j, j ≤ B + 1 → (Value.slice x is.length k).ownBlock ≠ some j := fun j hj e => by have := hvl j e; omega
  have hb1 := hst.below (b := w.heap.size) (by omega) (fun j hj => by have := hvl j hj; omega) (by have := h.below.size; simp only [World.size_setCell]; omega)
  exact ⟨hq2, hst.near p1 (hsB _ (by omega)), hst.far p2 (by omega) (hsB _ (by omega)), p4.trans hb1, he, by rw [h.out, hok]; rfl, hlow⟩
end
end Go.Proofs.Yticdihfjnmjkmaa
namespace Go.Proofs.Yticdihfjnmjkmaa
open Go.RowKit
attribute [local go_sem] run_store_float
theorem info81 : (Try.prog.info? 81).map (fun i => (i.zero, i.size, i.bytes)) = some (some (.agg #[.int .i64 0, .float .f64 0, .slice none 0 0]), 3, 40) := by kernel_rfl
set_option maxRecDepth 100000 in
set_option maxHeartbeats 1000000 in
theorem qalts_err {a : Option Addr} {c : Nat} {ts : List Tok} {n : Nat} (hl : ts.length ≤ 100000) (HI : QItemAny a c ts n) {w : World} {p d : Nat} (hd : d ≤ 16) (hT : ToksAt w w.heap.size a ts) {er : Int} {ep : Nat} (hps : Ps .alt d (ts.drop p) (.err er ep)) (he : Ends (ts.drop p)) (hn : (ts.drop p).length ≤ n) :
    Calls Try.prog 40 #[.agg #[.slice a ts.length c, .int .i64 p, .int .i64 d, .int .i64 0]] w (QAltsPost a c ts d (.err er ep) w) := by
  have HC := fun o0 o1 => Lib.hid (qalt_any hl HI hd (hT.go (below_two w o0 o1) (below_two w o0 o1).size) hps he hn)
  have her : er ≠ 0 := by rcases hps.err56 _ _ rfl with h | h <;> omega
  have her1 : (er == 0) = false := by simpa using her
  have HER := Lib.hid her
  clear hT hps he hn her HI
  go_enter Try.func40, Try.ntmps40
  go_wp2_with fail
  refine (HC _ _).out.mono ?_
  rintro e w1 ⟨q, hq, at2, wt2, x, n1, k1, hqp, rfl, hb⟩
  obtain ⟨g0, g1, hs1⟩ := two_after hb
  obtain ⟨c0, c1, c2, c3⟩ := blk4 g0
  obtain ⟨f0, f1, f2, f3, _⟩ := blk5f g0
  obtain ⟨d0, d1, d2, d3⟩ := blk4 g1
  obtain ⟨v0, v1, v2, v3, _⟩ := blk5f g1
  have hl0 : w.heap.size < w1.heap.size := by omega
  have hl1 : w.heap.size + 1 < w1.heap.size := by omega
  have hn0 : w.heap.size ≠ w1.heap.size := by omega
  have hn1 : w.heap.size + 1 ≠ w1.heap.size := by omega
  have HB := Lib.hid ((below_two w (.cells #[.slice a ts.length c, .int .i64 p, .int .i64 d, .int .i64 0] 75) (.cells #[.slice none 0 0, .int .i64 0, .int .i64 0, .int .i64 0] 75)).trans (hb.mono (by simp only [World.size_alloc]; omega)))
  have HQP := Lib.hid hqp
  have HG0 := Lib.hid g0
  have HG1 := Lib.hid g1
  clear hb g0 g1 HC hqp
  go_wp2_with fail
  go_loopg [5] 0 (fun _ v wr => ∃ (y : Option Addr) (n2 k2 : Nat), v = .slice y n2 k2 ∧ Hid (QAltsErr a c ts d w.heap.size (.err er ep) w wr q er))
  case atStart =>
    refine ⟨_, _, _, rfl, hq, ?_, ?_, ?_, HER.out, by rw [HQP.out], rfl⟩
    · have e0 := heap_setCell_known (off := 0) (u := .slice a ts.length c) HG0.out
      have e1 := heap_setCell_known (off := 1) (u := .int .i64 q) e0
      have e2 := heap_setCell_known (off := 2) (u := .int .i64 d) e1
      have e3 := heap_setCell_known (off := 3) (u := .int .i64 er) e2
      exact heap_alloc_keep (heap_alloc_keep (by simpa using e3))
    · refine heap_alloc_keep (heap_alloc_keep ?_)
      refine Kept.get (S := (· = w.heap.size)) ?_ HG1.out (by omega)
      repeat refine Kept.setCell (S := (· = w.heap.size)) ?_ (.inl rfl) _
      exact Kept.refl _ _
    · refine Below.alloc (Below.alloc ?_ ?_ _) ?_ _
      · repeat refine Below.setCell ?_ (by dsimp only; omega) _
        exact HB.out
      · simp only [World.size_setCell]; omega
      · simp only [World.size_alloc, World.size_setCell]; omega
  case round =>
    obtain ⟨y, n2, k2, rfl, hE⟩ := hrel
    have HEv := Lib.hid hE.out
    clear c0 c1 c2 c3 f0 f1 f2 f3 d0 d1 d2 d3 v0 v1 v2 v3 hl0 hl1
    obtain ⟨c0, c1, c2, c3⟩ := blk4 hE.out.st
    obtain ⟨d0, d1, d2, d3⟩ := blk4 hE.out.z1
    obtain ⟨v0, v1, v2, v3, _⟩ := blk5f hE.out.z1
    have hl0 := lt_of_some hE.out.st
    have hl1 := lt_of_some hE.out.z1
    clear hE
    go_wp2_with fail
    refine bodyPost_ret (v := .tuple #[.agg #[.slice a ts.length c, .int .i64 q, .int .i64 d, .int .i64 er], .slice y n2 k2]) (by simp [results, Try.results40, go_sem, *]) rfl ?_
    refine ⟨q, HEv.out.hq, y, n2, k2, HQP.out, rfl, ?_⟩
    repeat refine Below.setCell ?_ (by dsimp only; omega) _
    exact HEv.out.below
theorem news_at81 (X : World) (g : Nat) (hg : g = X.heap.size) (cs : Array Value) : ∀ j u, cs.toList[j]? = some u → (X.alloc (.cells cs 81)).cell? ((⟨g, 0, none⟩ : Addr).add j) = some u := by
  subst hg
  exact World.news_of_block (t := 81) (fr := (0, 0)) (heap_alloc_this _ _)
theorem qalts_own {W3 wx : World} {B : Nat} {x : Option Addr} {is : List MN} {k : Nat} (h : RowOf W3 (B + 2) 81 3 83 5 (.slice x is.length k) is) (hb : Below W3.heap.size W3 wx) {oc : Obj} {s0 s1 s2 s3 : Value} :
    (((((wx.setCell ⟨B, 0, none⟩ s0).setCell ⟨B, 1, none⟩ s1).setCell ⟨B, 2, none⟩ s2).setCell ⟨B, 3, none⟩ s3).alloc oc).ownsRow (B + 2) 81 3 (.slice x is.length k) is.length (rowC is) := by
  have k1 : Kept (· = B) wx ((((wx.setCell ⟨B, 0, none⟩ s0).setCell ⟨B, 1, none⟩ s1).setCell ⟨B, 2, none⟩ s2).setCell ⟨B, 3, none⟩ s3) := by
    repeat refine Kept.setCell (S := (· = B)) ?_ (.inl rfl) _
    exact Kept.refl _ _
  exact ((h.go (kept_of_below (S := (· = B)) hb) (fun k hk => by omega)).go k1 (fun k hk => by omega)).row.alloc _
def Q6A (W : World) (gA gB : Nat) (a : Option Addr) (n c q d : Nat) (er : Int) (cs : Array Value) (wx : World) : Prop :=
  wx.heap[gA]? = some (.cells #[.slice a n c, .int .i64 q, .int .i64 d, .int .i64 er] 75 (0, 0)) ∧ wx.heap[gB]? = some (.cells cs 81 (0, 0)) ∧ Below W.heap.size W wx ∧ W.heap.size ≤ gA ∧ W.heap.size ≤ gB
/-- One or the other. -/
def QAltsRel (a : Option Addr) (c : Nat) (ts : List Tok) (d n B : Nat) (o : Out) (w : World) (m : Nat) (v : Value) (wr : World) : Prop :=
  (∃ q is x k ok, v = .slice x is.length k ∧ QAltsInv a c ts d n B o w wr m q is x k ok) ∨ (m = 0 ∧ ∃ q er x n' k, v = .slice x n' k ∧ QAltsErr a c ts d B o w wr q er)
set_option maxRecDepth 100000 in
set_option maxHeartbeats 4000000 in
theorem qalts_ok {a : Option Addr} {c : Nat} {ts : List Tok} {n : Nat} (hl : ts.length ≤ 100000) (HI : QItemAny a c ts n) {w : World} {p d : Nat} (hd : d ≤ 16) (hT : ToksAt w w.heap.size a ts) {ns0 : List PN} {l1 : List Tok} {o : Out} (hps : Ps .alt d (ts.drop p) (.ok ns0 l1)) (hpm : Ps .more d l1 o) (he : Ends (ts.drop p)) (hn : (ts.drop p).length ≤ n) :
    Calls Try.prog 40 #[.agg #[.slice a ts.length c, .int .i64 p, .int .i64 d, .int .i64 0]] w (QAltsPost a c ts d (o.pres ns0) w) := by
  have HC := fun o0 o1 => Lib.hid (qalt_any hl HI hd (hT.go (below_two w o0 o1) (below_two w o0 o1).size) hps he hn)
  obtain ⟨i0, hi0, hz0, hz1, hz2⟩ := info_parts info81
  obtain ⟨e1, e2, _⟩ := hps.res he _ _ rfl
  have HE1 := Lib.hid e1
  have HE2 := Lib.hid e2
  have HPM := Lib.hid hpm
  have HT := Lib.hid hT
  have HII := Lib.hid HI
  clear hT hps he HI e1 e2 hpm
  go_enter Try.func40, Try.ntmps40
  go_wp2_with fail
  refine (HC _ _).out.mono ?_
  rintro e w1 ⟨q, at2, wt2, x, k1, ms, hqd, rfl, hns, hrow, hb⟩
  obtain ⟨g0, g1, hs1⟩ := two_after hb
  obtain ⟨c0, c1, c2, c3⟩ := blk4 g0
  obtain ⟨f0, f1, f2, f3, _⟩ := blk5f g0
  have hl0 : w.heap.size < w1.heap.size := by omega
  have hn0 : w.heap.size ≠ w1.heap.size := by omega
  have HB := Lib.hid ((below_two w (.cells #[.slice a ts.length c, .int .i64 p, .int .i64 d, .int .i64 0] 75) (.cells #[.slice none 0 0, .int .i64 0, .int .i64 0, .int .i64 0] 75)).trans (hb.mono (by simp only [World.size_alloc]; omega)))
  have HQD := Lib.hid hqd
  have HNS := Lib.hid hns
  have HROW := Lib.hid hrow
  have HG0 := Lib.hid g0
  have HG1 := Lib.hid g1
  clear hb g0 g1 HC hqd hns hrow
  go_wp2_with fail
  go_loopg [5] (ts.drop q).length (fun m v wr => Hid (QAltsRel a c ts d n w.heap.size (o.pres ns0) w m v wr))
  case atStart =>
    left
    have e0 := heap_setCell_known (off := 0) (u := .slice a ts.length c) HG0.out
    have e1 := heap_setCell_known (off := 1) (u := .int .i64 q) e0
    have e2 := heap_setCell_known (off := 2) (u := .int .i64 d) e1
    have e3 := heap_setCell_known (off := 3) (u := .int .i64 0) e2
    have kS : Kept (· = w.heap.size) w1 ((((w1.setCell ⟨w.heap.size, 0, none⟩ (.slice a ts.length c)).setCell ⟨w.heap.size, 1, none⟩ (.int .i64 q)).setCell ⟨w.heap.size, 2, none⟩ (.int .i64 d)).setCell ⟨w.heap.size, 3, none⟩ (.int .i64 0)) := by
      repeat refine Kept.setCell (S := (· = w.heap.size)) ?_ (.inl rfl) _
      exact Kept.refl _ _
    have hE := HE1.out
    rw [← HQD.out] at hE
    have h2 := HE2.out
    rw [← HQD.out] at h2
    have hm : MN.At (((((w1.setCell ⟨w.heap.size, 0, none⟩ (.slice a ts.length c)).setCell ⟨w.heap.size, 1, none⟩ (.int .i64 q)).setCell ⟨w.heap.size, 2, none⟩ (.int .i64 d)).setCell ⟨w.heap.size, 3, none⟩ (.int .i64 0)).alloc (.cells #[.int .i64 at2, .float .f64 wt2, .slice x ms.length k1] 81)) (w.heap.size + 2) 83 5 81 3 (.node [.int .i64 at2, .float .f64 wt2] [] (.slice x ms.length k1) ms) := by
      refine (((HROW.out.at _ _).go (kS.alloc _) (fun k hk => by have := hk; simp only [World.size_alloc]; omega)).low ?_)
      simp only [World.size_alloc]; omega
    refine ⟨q, [.node [.int .i64 at2, .float .f64 wt2] [] (.slice x ms.length k1) ms], _, _, o, rfl, ends_lt hE, rfl, by omega, by simp only [List.length_cons, List.length_nil, List.length_drop] at *; omega, hE, heap_alloc_keep (heap_alloc_keep (by simpa using e3)), heap_alloc_keep (heap_alloc_keep (kS.get HG1.out (by omega))), ?_, ?_, by rw [HQD.out]; exact HPM.out, ?_, rfl⟩
    · have := RowOf.one hm rfl (by simp only [World.size_alloc, World.size_setCell]; omega) #[.int .i64 at2, .float .f64 wt2, .slice x ms.length k1] rfl
      simpa using this
    · refine Below.alloc (Below.alloc ?_ ?_ _) ?_ _
      · repeat refine Below.setCell ?_ (by dsimp only; omega) _
        exact HB.out
      · simp only [World.size_setCell]; omega
      · simp only [World.size_alloc, World.size_setCell]; omega
    · rw [← HNS.out]; simp [MN.pn, MN.pnL_map]
  case round =>
    rcases hrel.out with ⟨q, is, x, k, ok, rfl, hI⟩ | ⟨rfl, q, er, x, n', k, rfl, hE⟩
    · have hqh := hI.hq
      have HI0 := Lib.hid hI
      have HDR := Lib.hid (show ts.drop q = ts[q] :: ts.drop (q + 1) from List.drop_eq_getElem_cons hqh)
      clear c0 c1 c2 c3 f0 f1 f2 f3 hl0
      obtain ⟨c0, c1, c2, c3⟩ := blk4 hI.st
      have hl0 := lt_of_some hI.st
      have hfew := hI.few
      have HS := Lib.hid (qsign_any (c := c) (d := d) (e := 0) (HT.out.go hI.below hI.below.size) hqh [124])
      clear hI hrel
      go_wp2_with fail
      refine HS.out.mono ?_
      rcases more_inv (by rw [← HDR.out]; exact HI0.out.ps) with ⟨hs0, hok⟩ | ⟨hsg, ⟨ns, l2, o1, hpi, hpm, hok⟩ | ⟨er, ep, hpi, hok⟩⟩
      · rw [hs0]
        rintro e w2 ⟨rfl, hb2⟩
        have HI1 := Lib.hid (HI0.out.go hb2)
        have HOK := Lib.hid hok
        clear c0 c1 c2 c3 hl0
        obtain ⟨c0, c1, c2, c3⟩ := blk4 HI1.out.st
        obtain ⟨d0, d1, d2, d3⟩ := blk4 HI1.out.z1
        obtain ⟨v0, v1, v2, v3, _⟩ := blk5f HI1.out.z1
        have hl0 := lt_of_some HI1.out.st
        have hl1 := lt_of_some HI1.out.z1
        clear hb2 hok hs0
        go_wp2_with fail
        refine bodyPost_ret (v := .tuple #[.agg #[.slice a ts.length c, .int .i64 q, .int .i64 d, .int .i64 0], .slice x is.length k]) (by simp [results, Try.results40, go_sem, *]) rfl ?_
        rw [HI1.out.out, HOK.out, ← HDR.out]
        refine ⟨q, x, k, is, rfl, rfl, by simp only [List.append_nil], ?_, ?_⟩
        · refine RowOf.low2 (lo := w.heap.size + 2) (by omega) (RowOf.go (S := fun k => k < w.heap.size + 2) HI1.out.row ?_ (fun k hk => hk))
          repeat refine Kept.setCell (S := fun k => k < w.heap.size + 2) ?_ (.inl (by dsimp only; omega)) _
          exact Kept.refl _ _
        · repeat refine Below.setCell ?_ (by dsimp only; omega) _
          exact HI1.out.below
      · rw [hsg]
        rintro e w2 ⟨rfl, hb2⟩
        have HI1 := Lib.hid (HI0.out.go hb2)
        have HSG := Lib.hid hsg
        have hEq := HI0.out.ends
        rw [HDR.out] at hEq
        have he1 : Ends (ts.drop (q + 1)) := hEq.tail (by rw [sgn_kind hsg]; decide)
        have hle := HI0.out.le
        rw [HDR.out, List.length_cons] at hle
        have hp4 := HI1.out.pass.2.2.2
        have HC3 := Lib.hid (qalt_any (c := c) hl HII.out hd (HT.out.go hp4 hp4.size) hpi he1 (by omega))
        simp only [Int.natCast_add, Int.cast_ofNat_Int] at HC3
        clear c0 c1 c2 c3 hl0
        obtain ⟨c0, c1, c2, c3⟩ := blk4 HI1.out.st
        have f1 := free_of_block (off := 1) HI1.out.st
        have hl0 := lt_of_some HI1.out.st
        have hq9 : (q : Int) < 100000 := by omega
        have HOK := Lib.hid hok
        have HPI := Lib.hid hpi
        have HPM2 := Lib.hid hpm
        clear hb2 hsg hok hpi hpm hEq hle hp4
        go_upto_region 5 with fail
        go_cut [6, 7] (fun v6 v7 wx => ∃ (gA gB q2 at3 wt3 : Nat) (x3 : Option Addr) (k3 : Nat) (ms3 : List MN), v6 = .pointer (some ⟨gA, 0, none⟩) ∧ v7 = .pointer (some ⟨gB, 0, none⟩) ∧ Hid (Q6A (w2.setCell ⟨w.heap.size, 1, none⟩ (.int .i64 (q + 1))) gA gB a ts.length c q2 d 0 #[.int .i64 at3, .float .f64 wt3, .slice x3 ms3.length k3] wx ∧ ts.drop q2 = l2 ∧ [.node [.int .i64 at3, .float .f64 wt3] [] (ms3.map MN.pn)] = ns ∧ RowOf wx (w2.setCell ⟨w.heap.size, 1, none⟩ (.int .i64 (q + 1))).heap.size 83 5 81 3 (.slice x3 ms3.length k3) ms3))
        case first =>
          go_wp2_with fail
          refine HC3.out.mono ?_
          rintro e w3 ⟨q2, at3, wt3, x3, k3, ms3, hqd, rfl, hns, hrow, hb3⟩
          have HQD3 := Lib.hid hqd
          have HNS3 := Lib.hid hns
          have HROW3 := Lib.hid hrow
          have HB3 := Lib.hid hb3
          clear hqd hns hrow hb3
          go_wp2_with fail
          go_meet
          exact ⟨_, _, q2, at3, wt3, x3, k3, ms3, rfl, rfl, q6_made HB3.out _ _, HQD3.out, HNS3.out, (HROW3.out.go ((Kept.refl (fun _ => False) _).alloc _) (fun _ h => h.elim)).go ((Kept.refl (fun _ => False) _).alloc _) (fun _ h => h.elim)⟩
        case rest =>
          obtain ⟨gA, gB, q2, at3, wt3, x3, k3, ms3, rfl, rfl, H6⟩ := hcut
          clear c0 c1 c2 c3 f1 hl0
          obtain ⟨cA, cB, hbW, hgA, hgB⟩ := H6.out.1
          have hs3 := hbW.size
          have HB3 := Lib.hid hbW
          obtain ⟨p1, p2, p3, p4⟩ := HI1.out.pass
          obtain ⟨a0, a1, a2, a3⟩ := blk4 cA
          obtain ⟨b0, b1, b2⟩ := blk3 cB
          obtain ⟨c0, c1, c2, c3⟩ := blk4 ((hbW.block _ (lt_of_some p1)).trans p1)
          obtain ⟨f0, f1, f2, f3, _⟩ := blk5f ((hbW.block _ (lt_of_some p1)).trans p1)
          have hzz := lt_of_some p1
          have hl0 : w.heap.size < wc.heap.size := by omega
          have hlA := lt_of_some cA
          have hlB := lt_of_some cB
          have hnA : gA ≠ w.heap.size := by omega
          have hnB : gB ≠ w.heap.size := by omega
          have hsW := p4.size
          have HOWN := Lib.hid (fun oc s0 s1 s2 s3 => qalts_own p3 hbW (oc := oc) (s0 := s0) (s1 := s1) (s2 := s2) (s3 := s3))
          clear hbW cA cB p1 p2 p3 p4 hs3 hzz
          go_wp2_with (first
            | (at_builtin; go_loud (refine wpList_append_lies _ rfl (.tmp 32) (.tmp 34) 51 rfl (w.heap.size + 2) 81 i0 _ 3 40 Try.underlying51 hi0 hz0 hz1 hz2 rfl (by decide) (.slice x is.length k) is.length _ (by rfl) (HOWN.out _ _ _ _ _) ⟨wc.heap.size, 0, none⟩ 1 1 [.int .i64 at3, .float .f64 wt3, .slice x3 ms3.length k3] (by rfl) (by rfl) (news_at81 _ wc.heap.size (by simp) #[.int .i64 at3, .float .f64 wt3, .slice x3 ms3.length k3]) (by simp [Value.oneCell']) (by omega) (by simp only [maxLen]; omega) (by omega) (by simp; omega) (wc.heap.size + 1) (by simp) ?_); intro g cap w4 hown1 hgrow hat hlt4
               have hQ : QStepA w.heap.size (w2.setCell ⟨w.heap.size, 1, none⟩ (.int .i64 (q + 1))) wc w4 _ _ _ _ (.slice x is.length k) #[.int .i64 at3, .float .f64 wt3, .slice x3 ms3.length k3] := ⟨HB3.out, hgrow⟩
               have HQ := Lib.hid hQ
               have HOW := Lib.hid hown1
               have HAT := Lib.hid hat
               clear hgrow hown1 hat hQ))
          obtain ⟨hF, hlt1⟩ := HI1.out.next HSG.out HPI.out HPM2.out HOK.out H6.out.2.1 H6.out.2.2.1 H6.out.2.2.2 HQ.out HOW.out (by simpa using HAT.out)
          go_roundg (ts.drop q2).length
          case measure => exact hlt1
          case rel => exact .inl ⟨_, _, _, _, _, by simp, hF⟩
      · rw [hsg]
        rintro e w2 ⟨rfl, hb2⟩
        have HI1 := Lib.hid (HI0.out.go hb2)
        have HSG := Lib.hid hsg
        have hEq := HI0.out.ends
        rw [HDR.out] at hEq
        have he1 : Ends (ts.drop (q + 1)) := hEq.tail (by rw [sgn_kind hsg]; decide)
        have hle := HI0.out.le
        rw [HDR.out, List.length_cons] at hle
        have hp4 := HI1.out.pass.2.2.2
        have HC3 := Lib.hid (qalt_any (c := c) hl HII.out hd (HT.out.go hp4 hp4.size) hpi he1 (by omega))
        simp only [Int.natCast_add, Int.cast_ofNat_Int] at HC3
        clear c0 c1 c2 c3 hl0
        obtain ⟨c0, c1, c2, c3⟩ := blk4 HI1.out.st
        have f1 := free_of_block (off := 1) HI1.out.st
        have hl0 := lt_of_some HI1.out.st
        have hq9 : (q : Int) < 100000 := by omega
        have HOK := Lib.hid hok
        have HPI := Lib.hid hpi
        have her0 : er ≠ 0 := by rcases hpi.err56 _ _ rfl with h | h <;> omega
        have HER := Lib.hid her0
        clear hb2 hsg hok hpi hEq hle hp4 her0
        go_upto_region 5 with fail
        go_cut [6, 7] (fun v6 v7 wx => ∃ (gA gB q2 at3 wt3 : Nat) (x3 : Option Addr) (n3 k3 : Nat), v6 = .pointer (some ⟨gA, 0, none⟩) ∧ v7 = .pointer (some ⟨gB, 0, none⟩) ∧ Hid (Q6A (w2.setCell ⟨w.heap.size, 1, none⟩ (.int .i64 (q + 1))) gA gB a ts.length c q2 d er #[.int .i64 at3, .float .f64 wt3, .slice x3 n3 k3] wx ∧ ∃ hq2 : q2 < ts.length, (ts[q2]).pos = ep))
        case first =>
          go_wp2_with fail
          refine HC3.out.mono ?_
          rintro e w3 ⟨q2, hq2, at3, wt3, x3, n3, k3, hqp, rfl, hb3⟩
          have HQP := Lib.hid hqp
          have HB3 := Lib.hid hb3
          clear hqp hb3
          go_wp2_with fail
          go_meet
          exact ⟨_, _, q2, at3, wt3, x3, n3, k3, rfl, rfl, q6_made HB3.out _ _, hq2, HQP.out⟩
        case rest =>
          obtain ⟨gA, gB, q2, at3, wt3, x3, n3, k3, rfl, rfl, H6⟩ := hcut
          clear c0 c1 c2 c3 f1 hl0
          obtain ⟨cA, cB, hbW, hgA, hgB⟩ := H6.out.1
          have hs3 := hbW.size
          have HB3 := Lib.hid hbW
          obtain ⟨p1, p2, p3, p4⟩ := HI1.out.pass
          obtain ⟨a0, a1, a2, a3⟩ := blk4 cA
          obtain ⟨b0, b1, b2⟩ := blk3 cB
          obtain ⟨c0, c1, c2, c3⟩ := blk4 ((hbW.block _ (lt_of_some p1)).trans p1)
          obtain ⟨f0, f1, f2, f3, _⟩ := blk5f ((hbW.block _ (lt_of_some p1)).trans p1)
          have hzz := lt_of_some p1
          have hl0 : w.heap.size < wc.heap.size := by omega
          have hlA := lt_of_some cA
          have hlB := lt_of_some cB
          have hnA : gA ≠ w.heap.size := by omega
          have hnB : gB ≠ w.heap.size := by omega
          have hsW := p4.size
          have HOWN := Lib.hid (fun oc s0 s1 s2 s3 => qalts_own p3 hbW (oc := oc) (s0 := s0) (s1 := s1) (s2 := s2) (s3 := s3))
          clear hbW cA cB p1 p2 p3 p4 hs3 hzz
          go_wp2_with (first
            | (at_builtin; go_loud (refine wpList_append_lies _ rfl (.tmp 32) (.tmp 34) 51 rfl (w.heap.size + 2) 81 i0 _ 3 40 Try.underlying51 hi0 hz0 hz1 hz2 rfl (by decide) (.slice x is.length k) is.length _ (by rfl) (HOWN.out _ _ _ _ _) ⟨wc.heap.size, 0, none⟩ 1 1 [.int .i64 at3, .float .f64 wt3, .slice x3 n3 k3] (by rfl) (by rfl) (news_at81 _ wc.heap.size (by simp) #[.int .i64 at3, .float .f64 wt3, .slice x3 n3 k3]) (by simp [Value.oneCell']) (by omega) (by simp only [maxLen]; omega) (by omega) (by simp; omega) (wc.heap.size + 1) (by simp) ?_); intro g cap w4 hown1 hgrow hat hlt4
               have hQ : QStepA w.heap.size (w2.setCell ⟨w.heap.size, 1, none⟩ (.int .i64 (q + 1))) wc w4 _ _ _ _ (.slice x is.length k) #[.int .i64 at3, .float .f64 wt3, .slice x3 n3 k3] := ⟨HB3.out, hgrow⟩
               have HQ := Lib.hid hQ
               have HOW := Lib.hid hown1
               have HAT := Lib.hid hat
               clear hgrow hown1 hat hQ))
          obtain ⟨hq2, hqp⟩ := H6.out.2
          have hF := HI1.out.fail hq2 HER.out (by rw [HOK.out, hqp]) HQ.out
          go_roundg 0
          case measure => have := HI1.out.len; have := HI1.out.hq; simp only [List.length_drop] at *; omega
          case rel => exact .inr ⟨rfl, _, _, _, _, _, rfl, hF⟩
    · have HEv := Lib.hid hE
      clear c0 c1 c2 c3 f0 f1 f2 f3 hl0
      obtain ⟨c0, c1, c2, c3⟩ := blk4 hE.st
      obtain ⟨d0, d1, d2, d3⟩ := blk4 hE.z1
      obtain ⟨v0, v1, v2, v3, _⟩ := blk5f hE.z1
      have hl0 := lt_of_some hE.st
      have hl1 := lt_of_some hE.z1
      have her : (er == 0) = false := by simpa using hE.er0
      clear hE hrel
      go_wp2_with fail
      refine bodyPost_ret (v := .tuple #[.agg #[.slice a ts.length c, .int .i64 q, .int .i64 d, .int .i64 er], .slice x n' k]) (by simp [results, Try.results40, go_sem, *]) rfl ?_
      rw [HEv.out.out]
      refine ⟨q, HEv.out.hq, x, n', k, rfl, rfl, ?_⟩
      repeat refine Below.setCell ?_ (by dsimp only; omega) _
      exact HEv.out.below
theorem qalts_of {a : Option Addr} {c : Nat} {ts : List Tok} {n : Nat} (hl : ts.length ≤ 100000) (HI : QItemAny a c ts n) : QAltsAny a c ts n := by
  intro d p o hd hps he hn w hT
  generalize hll : ts.drop p = l at hps
  cases hps with
  | alts h1 h2 =>
    subst hll
    exact qalts_ok hl HI hd hT h1 h2 he hn
  | alts_err h1 =>
    subst hll
    exact qalts_err hl HI hd hT h1 he hn
theorem qitem_all {a : Option Addr} {c : Nat} {ts : List Tok} (hl : ts.length ≤ 100000) : ∀ n, QItemAny a c ts n
  | 0 => fun _ _ _ hp _ _ _ _ hn => absurd hn (by rw [List.length_drop]; omega)
  | n + 1 => qitem_of hl (qalts_of hl (qitem_all hl n))
theorem qalts_any {a : Option Addr} {c : Nat} {ts : List Tok} (hl : ts.length ≤ 100000) {d p : Nat} {o : Out} (hd : d ≤ 16) (hps : Ps .alts d (ts.drop p) o) (he : Ends (ts.drop p)) {w : World} (hT : ToksAt w w.heap.size a ts) :
    Calls Try.prog 40 #[.agg #[.slice a ts.length c, .int .i64 p, .int .i64 d, .int .i64 0]] w (QAltsPost a c ts d o w) :=
  qalts_of hl (qitem_all hl _) d p o hd hps he (Nat.le_refl _) w hT
end Go.Proofs.Yticdihfjnmjkmaa
