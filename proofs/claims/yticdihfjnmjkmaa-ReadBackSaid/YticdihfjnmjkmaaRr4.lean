/- The reference's reader: an alternative, what it holds. -/
import Derived.Test.YticdihfjnmjkmaaRr3
import Derived.Deep.LoopGhost
import Derived.Deep.AppendLies
namespace Go.Proofs.Yticdihfjnmjkmaa
open Go.RowKit
def QItemAny (a : Option Addr) (c : Nat) (ts : List Tok) (n : Nat) : Prop := ∀ d p o (hp : p < ts.length), d ≤ 16 → startB ts[p] = true → Ps .item d (ts.drop p) o → Ends (ts.drop p) → (ts.drop p).length ≤ n → ∀ w, ToksAt w w.heap.size a ts → Calls Try.prog 74 #[.agg #[.slice a ts.length c, .int .i64 p, .int .i64 d, .int .i64 0]] w (QItemPost a c ts d o w)
theorem qitem_of {a : Option Addr} {c : Nat} {ts : List Tok} {n : Nat} (hl : ts.length ≤ 100000) (HA : QAltsAny a c ts n) : QItemAny a c ts (n + 1) := by
  intro d p o hp hd hs hps he hn w hT
  have hdr : ts.drop p = ts[p] :: ts.drop (p + 1) := List.drop_eq_getElem_cons hp
  rw [hdr] at hps he hn
  have her := he.tail (start_kind hs)
  have hp1 : p + 1 < ts.length := by
    obtain ⟨u, r, hr⟩ := her.ne
    rcases Nat.lt_or_ge (p + 1) ts.length with h | h
    · exact h
    · rw [List.drop_eq_nil_of_le h] at hr; cases hr
  simp only [List.length_cons] at hn
  cases hps with
  | word hk =>
    rcases hk with hk | hk
    · exact qitem_name hT hp1 hl hk
    · exact qitem_quote hT hp1 hl hk
  | deep hg hd16 => exact qitem_deep hT hp hg hd16
  | group_err hg hd1 ha => exact qitem_group HA hT hp1 hl hg hd1 hd ha her (by omega) .err
  | close hg hd1 ha hc => exact qitem_group HA hT hp1 hl hg hd1 hd ha her (by omega) (.close hc)
  | group hg hd1 ha hc => exact qitem_group HA hT hp1 hl hg hd1 hd ha her (by omega) (.ok hc)
/-- The pieces so far. -/
structure QAltInv (a : Option Addr) (c : Nat) (ts : List Tok) (d n B at' wt : Nat) (o : Out) (w wr : World) (m q : Nat) (is : List MN) (x : Option Addr) (k : Nat) (ok : Out) : Prop where
  hq : q < ts.length
  len : m = (ts.drop q).length
  le : (ts.drop q).length ≤ n
  few : is.length + (ts.drop q).length ≤ 100000
  ends : Ends (ts.drop q)
  st : wr.heap[B]? = some (.cells #[.slice a ts.length c, .int .i64 q, .int .i64 d, .int .i64 0] 75 (0, 0))
  z1 : wr.heap[B + 1]? = some (.cells #[.slice none 0 0, .int .i64 0, .int .i64 0, .int .i64 0] 75 (0, 0))
  z2 : wr.heap[B + 1 + 1]? = some (.cells #[.int .i64 0, .float .f64 0, .slice none 0 0] 81 (0, 0))
  blk : wr.heap[B + 1 + 1 + 1]? = some (.cells #[.int .i64 at', .float .f64 wt, .slice x is.length k] 81 (0, 0))
  row : RowOf wr (B + 4) 83 5 81 3 (.slice x is.length k) is
  below : Below w.heap.size w wr
  ps : Ps .items d (ts.drop q) ok
  out : o = ok.pres (is.map MN.pn)
  low : B = w.heap.size
/-- Behind an error. -/
structure QAltErr (a : Option Addr) (c : Nat) (ts : List Tok) (d B at' wt : Nat) (o : Out) (w wr : World) (q : Nat) (er : Int) (x : Option Addr) (n k : Nat) : Prop where
  hq : q < ts.length
  st : wr.heap[B]? = some (.cells #[.slice a ts.length c, .int .i64 q, .int .i64 d, .int .i64 er] 75 (0, 0))
  z1 : wr.heap[B + 1]? = some (.cells #[.slice none 0 0, .int .i64 0, .int .i64 0, .int .i64 0] 75 (0, 0))
  z2 : wr.heap[B + 1 + 1]? = some (.cells #[.int .i64 0, .float .f64 0, .slice none 0 0] 81 (0, 0))
  blk : wr.heap[B + 1 + 1 + 1]? = some (.cells #[.int .i64 at', .float .f64 wt, .slice x n k] 81 (0, 0))
  below : Below w.heap.size w wr
  er0 : er ≠ 0
  out : o = .err er (ts[q]).pos
  low : B = w.heap.size
theorem QAltInv.go {a : Option Addr} {c : Nat} {ts : List Tok} {d n B at' wt : Nat} {o : Out} {w wr W : World} {m q : Nat} {is : List MN} {x : Option Addr} {k : Nat} {ok : Out} (h : QAltInv a c ts d n B at' wt o w wr m q is x k ok) (hb : Below wr.heap.size wr W) :
    QAltInv a c ts d n B at' wt o w W m q is x k ok :=
  ⟨h.hq, h.len, h.le, h.few, h.ends, (hb.block _ (lt_of_some h.st)).trans h.st, (hb.block _ (lt_of_some h.z1)).trans h.z1, (hb.block _ (lt_of_some h.z2)).trans h.z2, (hb.block _ (lt_of_some h.blk)).trans h.blk,
    h.row.go (kept_of_below (S := fun _ => False) hb) (fun _ h => h.elim), h.below.trans (hb.mono h.below.size), h.ps, h.out, h.low⟩
/-- What the append's step makes of memory. -/
structure QStep (B : Nat) (wr w3 w4 : World) (s0 s1 s2 s3 : Value) (v : Value) (cs : Array Value) : Prop where
  hb : Below wr.heap.size wr w3
  gr : (((((w3.setCell ⟨B, 0, none⟩ s0).setCell ⟨B, 1, none⟩ s1).setCell ⟨B, 2, none⟩ s2).setCell ⟨B, 3, none⟩ s3).alloc (.cells cs 83)).grownBy w4 v.ownBlock
section
variable {B : Nat} {wr w3 w4 : World} {s0 s1 s2 s3 v : Value} {cs : Array Value}
theorem QStep.kS (_h : QStep B wr w3 w4 s0 s1 s2 s3 v cs) : Kept (· = B) w3 ((((w3.setCell ⟨B, 0, none⟩ s0).setCell ⟨B, 1, none⟩ s1).setCell ⟨B, 2, none⟩ s2).setCell ⟨B, 3, none⟩ s3) := by
  repeat refine Kept.setCell (S := (· = B)) ?_ (.inl rfl) _
  exact Kept.refl _ _
theorem QStep.k1 (h : QStep B wr w3 w4 s0 s1 s2 s3 v cs) : Kept (· = B) wr ((((w3.setCell ⟨B, 0, none⟩ s0).setCell ⟨B, 1, none⟩ s1).setCell ⟨B, 2, none⟩ s2).setCell ⟨B, 3, none⟩ s3) :=
  (kept_of_below (S := (· = B)) h.hb).trans h.kS
theorem QStep.far (h : QStep B wr w3 w4 s0 s1 s2 s3 v cs) {j : Nat} {oj : Obj} (hj : wr.heap[j]? = some oj) (hne : j ≠ B) (hv : v.ownBlock ≠ some j) : w4.heap[j]? = some oj := by
  have hl := lt_of_some hj
  have h1 := h.k1.get hj hne
  have h2 := lt_of_some h1
  refine (h.gr.block j (by simp only [World.size_alloc] at h2 ⊢; omega) (fun e => hv e.symm)).trans ?_
  exact heap_alloc_keep h1
theorem QStep.near (h : QStep B wr w3 w4 s0 s1 s2 s3 v cs) {y0 y1 y2 y3 : Value} {t : TypeId} (hj : wr.heap[B]? = some (.cells #[y0, y1, y2, y3] t (0, 0))) (hv : v.ownBlock ≠ some B) : w4.heap[B]? = some (.cells #[s0, s1, s2, s3] t (0, 0)) := by
  have hl := lt_of_some hj
  have hs := h.hb.size
  have q3 : w3.heap[B]? = some (.cells #[y0, y1, y2, y3] t (0, 0)) := (h.hb.block _ hl).trans hj
  have e0 := heap_setCell_known (off := 0) (u := s0) q3
  have e1 := heap_setCell_known (off := 1) (u := s1) e0
  have e2 := heap_setCell_known (off := 2) (u := s2) e1
  have e3 := heap_setCell_known (off := 3) (u := s3) e2
  refine (h.gr.block B (by simp only [World.size_alloc, World.size_setCell]; omega) (fun e => hv e.symm)).trans ?_
  exact heap_alloc_keep (by simpa using e3)
theorem QStep.below (h : QStep B wr w3 w4 s0 s1 s2 s3 v cs) {b : Nat} (hb : b ≤ B) (hv : ∀ j, v.ownBlock = some j → b ≤ j) (hbw : b ≤ wr.heap.size) : Below b wr w4 := by
  have k1 := h.k1.alloc (.cells cs 83)
  have hg := h.gr
  generalize (((((w3.setCell ⟨B, 0, none⟩ s0).setCell ⟨B, 1, none⟩ s1).setCell ⟨B, 2, none⟩ s2).setCell ⟨B, 3, none⟩ s3).alloc (.cells cs 83)) = X at k1 hg
  have h1 := k1.size
  exact ⟨hg.os.trans k1.os, hg.tape.trans k1.tape, hg.output.trans k1.output, Nat.le_trans h1 hg.size, fun j hj => (hg.block j (by omega) (fun e => by have := hv j e.symm; omega)).trans (k1.block j (by omega) (by omega))⟩
end
section
variable {a : Option Addr} {c : Nat} {ts : List Tok} {d n B at' wt : Nat} {o : Out} {w wr : World} {m q : Nat} {is : List MN} {x : Option Addr} {k : Nat} {ok : Out}
theorem QAltInv.vlo (h : QAltInv a c ts d n B at' wt o w wr m q is x k ok) : ∀ j, (Value.slice x is.length k).ownBlock = some j → B + 4 ≤ j := fun _ hj => (row_lt h.row.row hj).1
theorem setc_kept (w4 : World) (B : Nat) (v : Value) : Kept (· = B + 1 + 1 + 1) w4 (w4.setCell ⟨B + 1 + 1 + 1, 2, none⟩ v) := Kept.setCell (S := (· = B + 1 + 1 + 1)) (Kept.refl _ _) (p := ⟨B + 1 + 1 + 1, 2, none⟩) (.inl rfl) v
theorem QAltInv.next (h : QAltInv a c ts d n B at' wt o w wr m q is x k ok) {w3 w4 : World} {q2 at2 k' : Nat} {kd op : Int} {tx : ByteArray} {x' : Option Addr} {ms : List MN} {ns : List PN} {l1 : List Tok} {o1 : Out}
    (hpi : Ps .item d (ts.drop q) (.ok ns l1)) (hpm : Ps .items d l1 o1) (hok : ok = o1.pres ns) (hd : ts.drop q2 = l1) (hns : [.node [.int .i64 at2, .int .i64 kd, .string tx] [.int .u8 op] (ms.map MN.pn)] = ns)
    (hrow : RowOf w3 wr.heap.size 81 3 83 5 (.slice x' ms.length k') ms)
    (hst : QStep B wr w3 w4 (.slice a ts.length c) (.int .i64 q2) (.int .i64 d) (.int .i64 0) (.slice x is.length k) #[.int .i64 at2, .int .i64 kd, .string tx, .slice x' ms.length k', .int .u8 op])
    {g cap : Nat} (hown : w4.ownsRow (B + 4) 83 5 (.slice (some ⟨g, 0, none⟩) (is.length + 1) cap) (is.length + 1) (rowC is ++ [.int .i64 at2, .int .i64 kd, .string tx, .slice x' ms.length k', .int .u8 op]))
    (hat : (Value.slice x is.length k).ownBlock = some g ∨ g = w3.heap.size + 1) :
    QAltInv a c ts d n B at' wt o w (w4.setCell ⟨B + 1 + 1 + 1, 2, none⟩ (.slice (some ⟨g, 0, none⟩) (is.length + 1) cap)) (ts.drop q2).length q2 (is ++ [.node [.int .i64 at2, .int .i64 kd, .string tx] [.int .u8 op] (.slice x' ms.length k') ms]) (some ⟨g, 0, none⟩) cap o1 ∧ (ts.drop q2).length < m := by
  subst hd
  obtain ⟨e1, e2, e3⟩ := hpi.res h.ends _ _ rfl
  have e3 := e3 rfl
  have hvl := h.vlo
  have hBw := lt_of_some h.blk
  have hlow := h.low
  have hfew := h.few
  have hlen := h.len
  have hq2 : q2 < ts.length := by
    obtain ⟨u, r, hr⟩ := e1.ne
    rcases Nat.lt_or_ge q2 ts.length with h | h
    · exact h
    · rw [List.drop_eq_nil_of_le h] at hr; cases hr
  have hsB : ∀ j, j ≤ B + 3 → (Value.slice x is.length k).ownBlock ≠ some j := fun j hj e => by have := hvl j e; omega
  have ks := setc_kept w4 B (.slice (some ⟨g, 0, none⟩) (is.length + 1) cap)
  have hm : MN.At ((((w3.setCell ⟨B, 0, none⟩ (.slice a ts.length c)).setCell ⟨B, 1, none⟩ (.int .i64 q2)).setCell ⟨B, 2, none⟩ (.int .i64 d)).setCell ⟨B, 3, none⟩ (.int .i64 0)) wr.heap.size 81 3 83 5 (.node [.int .i64 at2, .int .i64 kd, .string tx] [.int .u8 op] (.slice x' ms.length k') ms) :=
    (hrow.at _ _).go hst.kS (fun k hk => by omega)
  have hrow2 := h.row.next hm rfl hst.k1 (fun k hk => by omega) rfl hst.gr hown (by simpa using hat) (by omega)
  have hblk := hst.far h.blk (by omega) (hsB _ (by omega))
  have hb1 := hst.below (b := w.heap.size) (by omega) (fun j hj => by have := hvl j hj; omega) h.below.size
  refine ⟨⟨hq2, rfl, by have := h.le; omega, ?_, e1, ks.get (hst.near h.st (hsB _ (by omega))) (by omega), ks.get (hst.far h.z1 (by omega) (hsB _ (by omega))) (by omega), ks.get (hst.far h.z2 (by omega) (hsB _ (by omega))) (by omega), ?_, ?_, ?_, hpm, ?_, hlow⟩, by omega⟩
  · simp only [List.length_append, List.length_cons, List.length_nil]; omega
  · have := heap_setCell_known (off := 2) (u := .slice (some ⟨g, 0, none⟩) (is.length + 1) cap) hblk
    rw [List.length_append]
    simpa using this
  · rw [List.length_append]
    exact hrow2.go ks (fun k hk => by omega)
  · exact (h.below.trans hb1).setCell (by dsimp only; omega) _
  · rw [h.out, hok, ← hns, List.map_append, Out.pres_pres]
    simp [MN.pn, MN.pnL_map]
theorem QAltInv.fail (h : QAltInv a c ts d n B at' wt o w wr m q is x k ok) {w3 w4 : World} {q2 : Nat} (hq2 : q2 < ts.length) {er : Int} (he : er ≠ 0) (hok : ok = .err er (ts[q2]).pos) {cs : Array Value}
    (hst : QStep B wr w3 w4 (.slice a ts.length c) (.int .i64 q2) (.int .i64 d) (.int .i64 er) (.slice x is.length k) cs) (g cap : Nat) :
    QAltErr a c ts d B at' wt o w (w4.setCell ⟨B + 1 + 1 + 1, 2, none⟩ (.slice (some ⟨g, 0, none⟩) (is.length + 1) cap)) q2 er (some ⟨g, 0, none⟩) (is.length + 1) cap := by
  have hvl := h.vlo
  have hBw := lt_of_some h.blk
  have hlow := h.low
  have hsB : ∀ j, j ≤ B + 3 → (Value.slice x is.length k).ownBlock ≠ some j := fun j hj e => by have := hvl j e; omega
  have ks := setc_kept w4 B (.slice (some ⟨g, 0, none⟩) (is.length + 1) cap)
  have hblk := hst.far h.blk (by omega) (hsB _ (by omega))
  have hb1 := hst.below (b := w.heap.size) (by omega) (fun j hj => by have := hvl j hj; omega) h.below.size
  refine ⟨hq2, ks.get (hst.near h.st (hsB _ (by omega))) (by omega), ks.get (hst.far h.z1 (by omega) (hsB _ (by omega))) (by omega), ks.get (hst.far h.z2 (by omega) (hsB _ (by omega))) (by omega), ?_, ?_, he, ?_, hlow⟩
  · have := heap_setCell_known (off := 2) (u := .slice (some ⟨g, 0, none⟩) (is.length + 1) cap) hblk
    simpa using this
  · exact (h.below.trans hb1).setCell (by dsimp only; omega) _
  · rw [h.out, hok]; rfl
theorem QAltInv.own (h : QAltInv a c ts d n B at' wt o w wr m q is x k ok) {w3 : World} (hb : Below wr.heap.size wr w3) {oc : Obj} {s0 s1 s2 s3 : Value} :
    (((((w3.setCell ⟨B, 0, none⟩ s0).setCell ⟨B, 1, none⟩ s1).setCell ⟨B, 2, none⟩ s2).setCell ⟨B, 3, none⟩ s3).alloc oc).ownsRow (B + 4) 83 5 (.slice x is.length k) is.length (rowC is) := by
  have k1 : Kept (· = B) w3 ((((w3.setCell ⟨B, 0, none⟩ s0).setCell ⟨B, 1, none⟩ s1).setCell ⟨B, 2, none⟩ s2).setCell ⟨B, 3, none⟩ s3) := by
    repeat refine Kept.setCell (S := (· = B)) ?_ (.inl rfl) _
    exact Kept.refl _ _
  exact ((h.row.go (kept_of_below (S := (· = B)) hb) (fun k hk => by omega)).go k1 (fun k hk => by omega)).row.alloc _
theorem RowOf.low2 {w : World} {lo lo' : Nat} (hl : lo' ≤ lo) {e e' : TypeId} {sz sz' : Nat} {v : Value} {ms : List MN} (h : RowOf w lo e sz e' sz' v ms) : RowOf w lo' e sz e' sz' v ms := h.low hl
/-- Behind a piece's call: the state and the piece, each in a block of its own. -/
def Q6 (W : World) (gA gB : Nat) (a : Option Addr) (n c q d : Nat) (er : Int) (cs : Array Value) (wx : World) : Prop :=
  wx.heap[gA]? = some (.cells #[.slice a n c, .int .i64 q, .int .i64 d, .int .i64 er] 75 (0, 0)) ∧ wx.heap[gB]? = some (.cells cs 83 (0, 0)) ∧ Below W.heap.size W wx ∧ W.heap.size ≤ gA ∧ W.heap.size ≤ gB
theorem q6_made {W w3 : World} (h : Below W.heap.size W w3) (o0 o1 : Obj) : ((w3.alloc o0).alloc o1).heap[w3.heap.size]? = some o0 ∧ ((w3.alloc o0).alloc o1).heap[w3.heap.size + 1]? = some o1 ∧ Below W.heap.size W ((w3.alloc o0).alloc o1) ∧ W.heap.size ≤ w3.heap.size ∧ W.heap.size ≤ w3.heap.size + 1 :=
  ⟨heap_alloc_keep (heap_alloc_this _ _), heap_second _ _ _, h.trans ((below_two w3 o0 o1).mono h.size), h.size, Nat.le_succ_of_le h.size⟩
/-- One or the other. -/
def QAltRel (a : Option Addr) (c : Nat) (ts : List Tok) (d n B at' wt : Nat) (o : Out) (w : World) (m : Nat) (wr : World) : Prop :=
  (∃ q is x k ok, QAltInv a c ts d n B at' wt o w wr m q is x k ok) ∨ (m = 0 ∧ ∃ q er x n' k, QAltErr a c ts d B at' wt o w wr q er x n' k)
end
end Go.Proofs.Yticdihfjnmjkmaa
