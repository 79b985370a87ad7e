/- A text's definitions: the reference's. -/
import Derived.Test.YticdihfjnmjkmaaRr8
namespace Go.Proofs.Yticdihfjnmjkmaa
open Go.RowKit
attribute [local go_sem] run_store_float
def QParsePost (o : Out) (w : World) (e : Ending) (w' : World) : Prop :=
  match o with
  | .err er ps => e = .returned (.tuple #[.slice none 0 0, .int .i64 er, .int .i64 ps]) ∧ Below w.heap.size w w'
  | .ok ns _ => ∃ a c ms, e = .returned (.tuple #[.slice a ms.length c, .int .i64 0, .int .i64 0]) ∧ ms.map MN.pn = ns ∧ RowG w' w.heap.size 53 3 81 3 83 5 (.slice a ms.length c) ms ∧ Below w.heap.size w w'
theorem qparse_lex {s : ByteArray} {er : Int} {a : Nat} (hl : ∀ w, Hid (Calls Try.prog 12 #[.string s] w fun e w' => ∃ ad n ca, e = .returned (.tuple #[.slice ad n ca, .int .i64 er, .int .i64 a]) ∧ Below w.heap.size w w')) (he : er ≠ 0) (w : World) : Calls Try.prog 21 #[.string s] w (QParsePost (.err er a) w) := by
  have he1 : (er != 0) = true := by simpa using he
  clear he
  go_enter Try.func21, Try.ntmps21
  go_wp2_with fail
  refine (hl _).out.mono ?_
  rintro e w1 ⟨ad, n, ca, rfl, hb⟩
  have HB := Lib.hid hb
  clear hb
  go_wp2_with fail
  go_ret3
  exact ⟨rfl, HB.out⟩
/-- The definitions so far. -/
structure QDefsInv (a : Option Addr) (c : Nat) (ts : List Tok) (B : Nat) (o : Out) (w1 wr : World) (m q : Nat) (ds : List MN) (x : Option Addr) (k : Nat) (ok : Out) : Prop where
  hq : q < ts.length
  len : m = (ts.drop q).length
  few : ds.length + (ts.drop q).length ≤ 100001
  ends : Ends (ts.drop q)
  st : wr.heap[B]? = some (.cells #[.slice a ts.length c, .int .i64 q, .int .i64 0, .int .i64 0] 75 (0, 0))
  row : RowG wr (B + 1) 53 3 81 3 83 5 (.slice x ds.length k) ds
  below : Below w1.heap.size w1 wr
  ps : Pds (decide (ds.length = 0)) (ts.drop q) ok
  out : o = ok.pres (ds.map MN.pn)
  low : B = w1.heap.size
/-- Behind an error. -/
structure QDefsErr (a : Option Addr) (c : Nat) (ts : List Tok) (B : Nat) (o : Out) (w1 wr : World) (q : Nat) (er : Int) : Prop where
  hq : q < ts.length
  st : wr.heap[B]? = some (.cells #[.slice a ts.length c, .int .i64 q, .int .i64 0, .int .i64 er] 75 (0, 0))
  below : Below w1.heap.size w1 wr
  er0 : er ≠ 0
  out : o = .err er (ts[q]).pos
  low : B = w1.heap.size
theorem RowG.empty (w : World) (lo : Nat) (h : lo ≤ w.heap.size) (e : TypeId) (sz : Nat) (e' : TypeId) (sz' : Nat) (e2 : TypeId) (sz2 : Nat) : RowG (w.alloc (.cells #[] e)) lo e sz e' sz' e2 sz2 (.slice (some ⟨w.heap.size, 0, none⟩) 0 0) [] :=
  ⟨⟨by simp [rowC], .inr ⟨w.heap.size, 0, #[], rfl, h, heap_alloc_this _ _, Nat.le_refl _, Nat.zero_le _, by simp, by simp [rowC]⟩⟩, fun _ h => by simp at h, fun _ h => by simp at h, fun _ h => by simp at h⟩
def QDefsRel (a : Option Addr) (c : Nat) (ts : List Tok) (B : Nat) (o : Out) (w1 : World) (m : Nat) (v : Value) (wr : World) : Prop :=
  (∃ q ds x k ok, v = .slice x ds.length k ∧ QDefsInv a c ts B o w1 wr m q ds x k ok) ∨ (m = 0 ∧ ∃ q er x n' k, v = .slice x n' k ∧ QDefsErr a c ts B o w1 wr q er)
section
variable {a : Option Addr} {c : Nat} {ts : List Tok} {B : Nat} {o : Out} {w1 wr : World} {m q : Nat} {ds : List MN} {x : Option Addr} {k : Nat} {ok : Out}
theorem QDefsInv.vlo (h : QDefsInv a c ts B o w1 wr m q ds x k ok) : ∀ j, (Value.slice x ds.length k).ownBlock = some j → B + 1 ≤ j := fun _ hj => (row_lt h.row.row hj).1
theorem QDefsInv.next (h : QDefsInv a c ts B o w1 wr m q ds x k ok) {w4 w5 : World} {q4 at2 k' : Nat} {tx : ByteArray} {x' : Option Addr} {ms : List MN} {ns : List PN} {o1 : Out}
    (hpd : Pd (ts.drop q) (.ok ns (ts.drop q4))) (hpm : Pds false (ts.drop q4) o1) (hok : ok = o1.pres ns) (hns : [.node [.int .i64 at2, .string tx] [] (ms.map MN.pn)] = ns)
    (hk : Kept (· = B) wr w4) (st : w4.heap[B]? = some (.cells #[.slice a ts.length c, .int .i64 q4, .int .i64 0, .int .i64 0] 75 (0, 0))) (hrow : RowOf w4 wr.heap.size 81 3 83 5 (.slice x' ms.length k') ms)
    (hgr : (w4.alloc (.cells #[.int .i64 at2, .string tx, .slice x' ms.length k'] 53)).grownBy w5 (Value.slice x ds.length k).ownBlock) {g cap : Nat}
    (hown : w5.ownsRow (B + 1) 53 3 (.slice (some ⟨g, 0, none⟩) (ds.length + 1) cap) (ds.length + 1) (rowC ds ++ [.int .i64 at2, .string tx, .slice x' ms.length k']))
    (hat : (Value.slice x ds.length k).ownBlock = some g ∨ g = w4.heap.size + 1) :
    QDefsInv a c ts B o w1 w5 (ts.drop q4).length q4 (ds ++ [.node [.int .i64 at2, .string tx] [] (.slice x' ms.length k') ms]) (some ⟨g, 0, none⟩) cap o1 ∧ (ts.drop q4).length < m := by
  obtain ⟨e1, e2⟩ := hpd.res h.ends _ _ rfl
  have hvl := h.vlo
  have hlow := h.low
  have hfew := h.few
  have hlen := h.len
  have hs := hk.size
  have hB := lt_of_some h.st
  have hrow2 := h.row.next (hrow.at [.int .i64 at2, .string tx] []) rfl hk (fun k hk => by omega) rfl hgr hown hat (by omega)
  have hkg : Kept (fun k => B < k) w4 w5 := (Kept.refl _ _).alloc _ |>.trans ⟨hgr.os, hgr.tape, hgr.output, hgr.size, fun k hk hs => hgr.block k hk (fun e => hs (by have := hvl _ e.symm; omega))⟩
  refine ⟨⟨ends_lt e1, rfl, ?_, e1, hkg.get st (by omega), ?_, ?_, ?_, ?_, hlow⟩, by omega⟩
  · simp only [List.length_append, List.length_cons, List.length_nil]; omega
  · rw [List.length_append]
    exact hrow2
  · have hkw : Kept (fun _ => False) w1 w5 := ((kept_of_below (S := fun _ => False) h.below).then hk (S'' := fun _ => False) (fun _ _ h => h) (fun i hi h => by omega)).then hkg (fun _ _ h => h) (fun i hi h => by omega)
    exact hkw.below (Nat.le_refl _) (fun _ _ h => h)
  · simp only [List.length_append, List.length_cons, List.length_nil]
    have : decide (ds.length + (0 + 1) = 0) = false := by simp
    rw [this]; exact hpm
  · rw [h.out, hok, ← hns, List.map_append, Out.pres_pres]
    simp [MN.pn, MN.pnL_map]
theorem QDefsInv.fail (h : QDefsInv a c ts B o w1 wr m q ds x k ok) {w4 : World} {q4 : Nat} (hq4 : q4 < ts.length) {er : Int} (he : er ≠ 0) (hok : ok = .err er (ts[q4]).pos) (hk : Kept (· = B) wr w4)
    (st : w4.heap[B]? = some (.cells #[.slice a ts.length c, .int .i64 q4, .int .i64 0, .int .i64 er] 75 (0, 0))) : QDefsErr a c ts B o w1 w4 q4 er := by
  have hlow := h.low
  have hkw : Kept (fun _ => False) w1 w4 := ((kept_of_below (S := fun _ => False) h.below).then hk (S'' := fun _ => False) (fun _ _ h => h) (fun i hi h => by omega))
  exact ⟨hq4, st, hkw.below (Nat.le_refl _) (fun _ _ h => h), he, by rw [h.out, hok]; rfl, hlow⟩
theorem QDefsInv.fail2 (h : QDefsInv a c ts B o w1 wr m q ds x k ok) {w4 w5 : World} {q4 : Nat} (hq4 : q4 < ts.length) {er : Int} (he : er ≠ 0) (hok : ok = .err er (ts[q4]).pos) (hk : Kept (· = B) wr w4)
    (st : w4.heap[B]? = some (.cells #[.slice a ts.length c, .int .i64 q4, .int .i64 0, .int .i64 er] 75 (0, 0))) {ob : Obj}
    (hgr : (w4.alloc ob).grownBy w5 (Value.slice x ds.length k).ownBlock) : QDefsErr a c ts B o w1 w5 q4 er := by
  have hvl := h.vlo
  have hlow := h.low
  have hs := hk.size
  have hB := lt_of_some h.st
  have hkg : Kept (fun k => B < k) w4 w5 := (Kept.refl _ _).alloc _ |>.trans ⟨hgr.os, hgr.tape, hgr.output, hgr.size, fun k hk hs => hgr.block k hk (fun e => hs (by have := hvl _ e.symm; omega))⟩
  have hkw : Kept (fun _ => False) w1 w5 := ((kept_of_below (S := fun _ => False) h.below).then hk (S'' := fun _ => False) (fun _ _ h => h) (fun i hi h => by omega)).then hkg (fun _ _ h => h) (fun i hi h => by omega)
  exact ⟨hq4, hkg.get st (by omega), hkw.below (Nat.le_refl _) (fun _ _ h => h), he, by rw [h.out, hok]; rfl, hlow⟩
end
theorem pd_err_inv {t : Tok} {l : List Tok} {e : Int} {p : Nat} (h : Pd (t :: l) (.err e p)) : (t.kind ≠ 1 ∧ e = 5 ∧ p = t.pos) ∨ (t.kind = 1 ∧ ∃ u r, l = u :: r ∧ ((sgnB u [61] = false ∧ e = 5 ∧ p = u.pos) ∨ (sgnB u [61] = true ∧ (Ps .alts 0 r (.err e p) ∨ ∃ ks x r2, Ps .alts 0 r (.ok ks (x :: r2)) ∧ sgnB x [59] = false ∧ e = 5 ∧ p = x.pos)))) := by
  cases h with
  | bad h => exact .inl ⟨h, rfl, rfl⟩
  | noeq h1 h2 => exact .inr ⟨h1, _, _, rfl, .inl ⟨h2, rfl, rfl⟩⟩
  | alts_err h1 h2 h3 => exact .inr ⟨h1, _, _, rfl, .inr ⟨h2, .inl h3⟩⟩
  | nosemi h1 h2 h3 h4 => exact .inr ⟨h1, _, _, rfl, .inr ⟨h2, .inr ⟨_, _, _, h3, h4, rfl, rfl⟩⟩⟩
theorem pd_ok_inv {t : Tok} {l r1 : List Tok} {ns : List PN} (h : Pd (t :: l) (.ok ns r1)) : t.kind = 1 ∧ ∃ u r ks x, l = u :: r ∧ sgnB u [61] = true ∧ Ps .alts 0 r (.ok ks (x :: r1)) ∧ sgnB x [59] = true ∧ ns = [defN t ks] := by
  cases h with
  | ok h1 h2 h3 h4 => exact ⟨h1, _, _, _, _, rfl, h2, h3, h4, rfl⟩
end Go.Proofs.Yticdihfjnmjkmaa
namespace Go.Proofs.Yticdihfjnmjkmaa
open Go.RowKit
attribute [local go_sem] run_store_float
theorem info53 : (Try.prog.info? 53).map (fun i => (i.zero, i.size, i.bytes)) = some (some (.agg #[.int .i64 0, .string ⟨#[]⟩, .slice none 0 0]), 3, 48) := by kernel_rfl
theorem news_at53 (X : World) (g : Nat) (hg : g = X.heap.size) (cs : Array Value) : ∀ j u, cs.toList[j]? = some u → (X.alloc (.cells cs 53)).cell? ((⟨g, 0, none⟩ : Addr).add j) = some u := by
  subst hg
  exact World.news_of_block (t := 53) (fr := (0, 0)) (heap_alloc_this _ _)
theorem put4 {w2 : World} {B : Nat} {y0 y1 y2 y3 : Value} {t : TypeId} (h : w2.heap[B]? = some (.cells #[y0, y1, y2, y3] t (0, 0))) (s0 s1 s2 s3 : Value) :
    Kept (· = B) w2 ((((w2.setCell ⟨B, 0, none⟩ s0).setCell ⟨B, 1, none⟩ s1).setCell ⟨B, 2, none⟩ s2).setCell ⟨B, 3, none⟩ s3) ∧ ((((w2.setCell ⟨B, 0, none⟩ s0).setCell ⟨B, 1, none⟩ s1).setCell ⟨B, 2, none⟩ s2).setCell ⟨B, 3, none⟩ s3).heap[B]? = some (.cells #[s0, s1, s2, s3] t (0, 0)) := by
  constructor
  · repeat refine Kept.setCell (S := (· = B)) ?_ (.inl rfl) _
    exact Kept.refl _ _
  · have e0 := heap_setCell_known (off := 0) (u := s0) h
    have e1 := heap_setCell_known (off := 1) (u := s1) e0
    have e2 := heap_setCell_known (off := 2) (u := s2) e1
    have e3 := heap_setCell_known (off := 3) (u := s3) e2
    simpa using e3
/-- Behind a word's copy and its passing. -/
theorem QDefsInv.pass {a : Option Addr} {c : Nat} {ts : List Tok} {B : Nat} {o : Out} {w1 wr : World} {m q : Nat} {ds : List MN} {x : Option Addr} {k : Nat} {ok : Out} (h : QDefsInv a c ts B o w1 wr m q ds x k ok) (ob : Obj) :
    Kept (· = B) wr ((wr.setCell ⟨B, 1, none⟩ (.int .i64 (q + 1))).alloc ob) ∧ ((wr.setCell ⟨B, 1, none⟩ (.int .i64 (q + 1))).alloc ob).heap[B]? = some (.cells #[.slice a ts.length c, .int .i64 (q + 1), .int .i64 0, .int .i64 0] 75 (0, 0)) ∧ Below w1.heap.size w1 ((wr.setCell ⟨B, 1, none⟩ (.int .i64 (q + 1))).alloc ob) := by
  have hl := h.low
  refine ⟨(Kept.setCell (S := (· = B)) (Kept.refl _ _) (.inl rfl) _).alloc _, ?_, ?_⟩
  · have := heap_setCell_known (off := 1) (u := .int .i64 (q + 1)) h.st
    exact heap_alloc_keep (by simpa using this)
  · exact (h.below.setCell (by dsimp only; omega) _).alloc (by simpa using h.below.size) _
theorem q39_no {w : World} {a : Option Addr} {c : Nat} {ts : List Tok} {q : Nat} (hT : ToksAt w w.heap.size a ts) (hp : q + 1 < ts.length) (hs : sgnB ts[q + 1] [61] = false) :
    Calls Try.prog 39 #[.agg #[.slice a ts.length c, .int .i64 ((q : Int) + 1), .int .i64 0, .int .i64 0], .string ⟨#[61]⟩] w fun e w' => e = .returned (.agg #[.slice a ts.length c, .int .i64 ((q : Int) + 1), .int .i64 0, .int .i64 5]) ∧ Below w.heap.size w w' := qpass_no (p := q + 1) (d := 0) hT hp hs
theorem q39_yes {w : World} {a : Option Addr} {c : Nat} {ts : List Tok} {q : Nat} (hT : ToksAt w w.heap.size a ts) (hp : q + 1 < ts.length) (hn : ts.length ≤ 100000) (hs : sgnB ts[q + 1] [61] = true) :
    Calls Try.prog 39 #[.agg #[.slice a ts.length c, .int .i64 ((q : Int) + 1), .int .i64 0, .int .i64 0], .string ⟨#[61]⟩] w fun e w' => e = .returned (.agg #[.slice a ts.length c, .int .i64 ((q : Int) + 2), .int .i64 0, .int .i64 0]) ∧ Below w.heap.size w w' := qpass_yes (p := q + 1) (d := 0) hT hp hn hs
theorem q39_no2 {w : World} {a : Option Addr} {c : Nat} {ts : List Tok} {q : Nat} (hT : ToksAt w w.heap.size a ts) (hp : q < ts.length) (hs : sgnB ts[q] [59] = false) :
    Calls Try.prog 39 #[.agg #[.slice a ts.length c, .int .i64 q, .int .i64 0, .int .i64 0], .string ⟨#[59]⟩] w fun e w' => e = .returned (.agg #[.slice a ts.length c, .int .i64 q, .int .i64 0, .int .i64 5]) ∧ Below w.heap.size w w' := qpass_no (p := q) (d := 0) hT hp hs
theorem q39_yes2 {w : World} {a : Option Addr} {c : Nat} {ts : List Tok} {q : Nat} (hT : ToksAt w w.heap.size a ts) (hp : q < ts.length) (hn : ts.length ≤ 100000) (hs : sgnB ts[q] [59] = true) :
    Calls Try.prog 39 #[.agg #[.slice a ts.length c, .int .i64 q, .int .i64 0, .int .i64 0], .string ⟨#[59]⟩] w fun e w' => e = .returned (.agg #[.slice a ts.length c, .int .i64 ((q : Int) + 1), .int .i64 0, .int .i64 0]) ∧ Below w.heap.size w w' := qpass_yes (p := q) (d := 0) hT hp hn hs
theorem q39_err {w : World} {a : Option Addr} {c n q : Nat} {er : Int} (he : er ≠ 0) :
    Calls Try.prog 39 #[.agg #[.slice a n c, .int .i64 q, .int .i64 0, .int .i64 er], .string ⟨#[59]⟩] w fun e w' => e = .returned (.agg #[.slice a n c, .int .i64 q, .int .i64 0, .int .i64 er]) ∧ Below w.heap.size w w' := qpass_err (d := 0) he _
theorem q40 {w : World} {a : Option Addr} {c : Nat} {ts : List Tok} {q : Nat} {o : Out} (hn : ts.length ≤ 100000) (hT : ToksAt w w.heap.size a ts) (hps : Ps .alts 0 (ts.drop (q + 2)) o) (he : Ends (ts.drop (q + 2))) :
    Calls Try.prog 40 #[.agg #[.slice a ts.length c, .int .i64 ((q : Int) + 2), .int .i64 0, .int .i64 0]] w (QAltsPost a c ts 0 o w) := qalts_any (d := 0) (p := q + 2) hn (by omega) hps he hT
theorem qdefs_own {W3 w4 : World} {B : Nat} {x : Option Addr} {ds : List MN} {k : Nat} (h : RowG W3 (B + 1) 53 3 81 3 83 5 (.slice x ds.length k) ds) (hk : Kept (· = B) W3 w4) (oc : Obj) :
    (w4.alloc oc).ownsRow (B + 1) 53 3 (.slice x ds.length k) ds.length (rowC ds) := (h.go hk (fun k hk => by omega)).row.alloc _
theorem QDefsInv.kb {a : Option Addr} {c : Nat} {ts : List Tok} {B : Nat} {o : Out} {w1 wr : World} {m q : Nat} {ds : List MN} {x : Option Addr} {k : Nat} {ok : Out} (h : QDefsInv a c ts B o w1 wr m q ds x k ok) {W : World} (hk : Kept (· = B) wr W) : Below w1.heap.size w1 W := by
  have hlow := h.low
  exact ((kept_of_below (S := fun _ => False) h.below).then hk (S'' := fun _ => False) (fun _ _ h => h) (fun i hi h => by omega)).below (Nat.le_refl _) (fun _ _ h => h)
def QLexed (s : ByteArray) (ts : List Tok) : Prop := ∀ w, Hid (Calls Try.prog 12 #[.string s] w fun e w' => ∃ ad ca, e = .returned (.tuple #[.slice ad ts.length ca, .int .i64 0, .int .i64 0]) ∧ ToksAt w' w'.heap.size ad ts ∧ Below w.heap.size w w')
set_option maxRecDepth 100000 in
set_option maxHeartbeats 4000000 in
theorem qparse_ok {s : ByteArray} {ts : List Tok} {o : Out} (hl : QLexed s ts) (he : Ends ts) (hn : ts.length ≤ 100000) (hp : Pds true ts o) (w : World) : Calls Try.prog 21 #[.string s] w (QParsePost o w) := by
  have HL := Lib.hid hl
  obtain ⟨i0, hi0, hz0, hz1, hz2⟩ := info_parts info53
  clear hl
  go_enter Try.func21, Try.ntmps21
  go_wp2_with fail
  refine (HL.out _).out.mono ?_
  rintro e w1 ⟨ad, ca, rfl, htk, hb⟩
  have HT := Lib.hid (fun W (h : Below w1.heap.size w1 W) => htk.go h h.size)
  have HB := Lib.hid hb
  clear hb htk
  go_wp2_with fail
  have hA : QDefsInv ad ca ts w1.heap.size o w1 ((w1.alloc (.cells #[.slice ad ts.length ca, .int .i64 0, .int .i64 0, .int .i64 0] 75)).alloc (.cells #[] 53)) ts.length 0 [] (some ⟨w1.heap.size + 1, 0, none⟩) 0 o := by
    have hrow := RowG.empty (w1.alloc (.cells #[.slice ad ts.length ca, .int .i64 0, .int .i64 0, .int .i64 0] 75)) (w1.heap.size + 1) (by simp) 53 3 81 3 83 5
    have h0 := ends_lt (p := 0) (ts := ts) (by simpa using he)
    refine ⟨h0, by simp, by simp; omega, by simpa using he, heap_alloc_keep (heap_alloc_this _ _), by simpa using hrow, below_two _ _ _, by simpa using hp, (Out.pres_nil _).symm, rfl⟩
  have HA := Lib.hid hA
  clear hA he hp
  go_loopg [9] ts.length (fun m v wr => Hid (QDefsRel ad ca ts w1.heap.size o w1 m v wr))
  case atStart => exact .inl ⟨0, [], _, _, o, rfl, HA.out⟩
  case round =>
    rcases hrel.out with ⟨q, ds, x, k, ok, rfl, hI⟩ | ⟨rfl, q, er, x, n', k, rfl, hE⟩
    · have hqh := hI.hq
      have HI0 := Lib.hid hI
      have HDR := Lib.hid (show ts.drop q = ts[q] :: ts.drop (q + 1) from List.drop_eq_getElem_cons hqh)
      obtain ⟨c0, c1, c2, c3⟩ := blk4 hI.st
      have hl0 := lt_of_some hI.st
      have fz1 := free_of_block (off := 1) hI.st
      have hfew := hI.few
      obtain ⟨b, of, rfl, hbt, x0, x1, x2, x3⟩ := (HT.out _ hI.below).cells0 hqh
      have hps := hI.ps
      rw [HDR.out] at hps
      have hpi : (q : Int) < ts.length := by omega
      clear hI hrel
      rcases pds_inv hps with ⟨hm, hk0, hok⟩ | ⟨hm, hrest⟩
      · have hz : ds.length ≠ 0 := by simpa using hm
        have hd : ((ds.length : Int) == 0) = false := by simpa using hz
        have hkd : ((ts[q]).kind != 0) = false := by simpa using hk0
        have HOK := Lib.hid hok
        generalize (ts[q]).kind = kd at *
        generalize (ts[q]).pos = ps at *
        generalize bOf (ts[q]).text = T at *
        generalize (ts[q]).wt = wt at *
        subst hk0
        clear hps hm hz hok
        go_wp2_with fail
        go_ret3
        have hout := HI0.out.out
        rw [HOK.out] at hout
        rw [hout]
        exact ⟨x, k, ds, rfl, by simp, (HI0.out.row.low (by have := HB.out.size; omega)), HB.out.trans (HI0.out.below.mono HB.out.size)⟩
      · rcases hrest with ⟨er, ep, hpd, hok⟩ | ⟨ns, l1, o1, hpd, hpm, hok⟩
        · rcases pd_err_inv hpd with ⟨hk1, rfl, rfl⟩ | ⟨hk1, u, r, hr, hcase⟩
          · have HOK := Lib.hid hok
            have hk2 : ((ts[q]).kind != 1) = true := by simpa using hk1
            have hgo : ((ds.length : Int) == 0) = true ∨ ((ds.length : Int) == 0) = false ∧ ((ts[q]).kind != 0) = true := by
              by_cases hz : ds.length = 0
              · exact .inl (by simp [hz])
              · refine .inr ⟨by simpa using hz, ?_⟩
                rcases hm with hm | hm
                · exact absurd hm (by simpa using hz)
                · simpa using hm
            generalize (ts[q]).kind = kd at *
            generalize (ts[q]).pos = ps at *
            generalize bOf (ts[q]).text = T at *
            generalize (ts[q]).wt = wt at *
            clear hps hm hok hpd hk1
            rcases hgo with hd | ⟨hd, hkd⟩
            all_goals
              go_wp2_with fail
              go_quiet (fail)
              go_wp2_with fail
              go_ret3
              have hout := HI0.out.out
              rw [HOK.out] at hout
              rw [hout]
              exact ⟨rfl, HB.out.trans ((below_drewN (HI0.out.below.alloc HI0.out.below.size _) _).mono HB.out.size)⟩
          · obtain ⟨hq1, hu, hdr2⟩ := drop_at hr
            subst hu
            rcases hcase with ⟨hs, rfl, rfl⟩ | ⟨hs, hps2⟩
            · have HOK := Lib.hid hok
              obtain ⟨pk, ps0, pb⟩ := HI0.out.pass (.cells #[.int .i64 (ts[q]).kind, .int .i64 (ts[q]).pos, .string (bOf (ts[q]).text), .float .f64 (ts[q]).wt] 60)
              have HP := Lib.hid (q39_no (c := ca) (HT.out _ pb) hq1 hs)
              have HPK := Lib.hid pk
              have HPS := Lib.hid ps0
              rw [hk1] at x0 HP HPK HPS
              generalize (ts[q]).pos = ps at *
              generalize bOf (ts[q]).text = T at *
              generalize (ts[q]).wt = wt at *
              clear hps hm hok hpd hk1 pk ps0 pb hr hs hdr2
              have hgo : ((ds.length : Int) == 0) = true ∨ ((ds.length : Int) == 0) = false := by
                cases ((ds.length : Int) == 0)
                · exact .inr rfl
                · exact .inl rfl
              rcases hgo with hd | hd
              all_goals
                go_wp2_with fail
                refine HP.out.mono ?_
                rintro e w2 ⟨rfl, hb2⟩
                have st2 := (hb2.block _ (lt_of_some HPS.out)).trans HPS.out
                obtain ⟨f0, f1, f2, f3, _⟩ := blk5f st2
                obtain ⟨g0, g1, g2, g3⟩ := blk4 st2
                have hl2 := lt_of_some st2
                have HST2 := Lib.hid st2
                have HB2 := Lib.hid hb2
                clear hb2 st2
                go_wp2_with fail
                obtain ⟨pk2, ps2⟩ := put4 HST2.out (.slice (some ⟨b, of, none⟩) ts.length ca) (.int .i64 ((q : Int) + 1)) (.int .i64 0) (.int .i64 5)
                have hF := HI0.out.fail (q4 := q + 1) hq1 (er := 5) (by decide) HOK.out ((HPK.out.trans (kept_of_below HB2.out)).trans pk2) ps2
                go_roundg 0
                case measure => have := HI0.out.len; have := HI0.out.hq; simp only [List.length_drop] at *; omega
                case rel => exact .inr ⟨rfl, _, _, _, _, _, rfl, hF⟩
            · rcases hps2 with hps2 | ⟨ks, x2, r2, hps2, hx, rfl, rfl⟩
              · have her0 : er ≠ 0 := by rcases hps2.err56 _ _ rfl with h | h <;> omega
                have HOK := Lib.hid hok
                obtain ⟨pk, ps0, pb⟩ := HI0.out.pass (.cells #[.int .i64 (ts[q]).kind, .int .i64 (ts[q]).pos, .string (bOf (ts[q]).text), .float .f64 (ts[q]).wt] 60)
                have HP := Lib.hid (q39_yes (c := ca) (HT.out _ pb) hq1 hn hs)
                have he2 : Ends (ts.drop (q + 2)) := by
                  have h1 := HI0.out.ends
                  rw [HDR.out] at h1
                  have h2 := h1.tail (by omega)
                  rw [hr] at h2
                  rw [show q + 2 = q + 1 + 1 from rfl, hdr2]
                  exact h2.tail (by rw [sgn_kind hs]; decide)
                have hgk := heap_alloc_this (wr.setCell ⟨w1.heap.size, 1, none⟩ (.int .i64 ((q : Int) + 1))) (.cells #[.int .i64 (ts[q]).kind, .int .i64 (ts[q]).pos, .string (bOf (ts[q]).text), .float .f64 (ts[q]).wt] 60)
                rw [World.size_setCell] at hgk
                have HGK := Lib.hid hgk
                have HPK := Lib.hid pk
                have HPS := Lib.hid ps0
                rw [hk1] at x0 HP HPK HPS HGK
                have HQ := Lib.hid (fun W (h : Below w1.heap.size w1 W) => q40 (c := ca) (o := .err er ep) hn (HT.out W h) (by rw [show q + 2 = q + 1 + 1 from rfl, hdr2]; exact hps2) he2)
                have HER := Lib.hid her0
                generalize hpp : (ts[q]).pos = ps at *
                generalize hTT : bOf (ts[q]).text = T at *
                have HPP := Lib.hid hpp
                have HTT := Lib.hid hTT
                generalize (ts[q]).wt = wt at *
                clear hps hm hok hpd hk1 pk ps0 pb hr hs hdr2 hps2 he2 hgk hpp hTT her0
                have hgo : ((ds.length : Int) == 0) = true ∨ ((ds.length : Int) == 0) = false := by
                  cases ((ds.length : Int) == 0)
                  · exact .inr rfl
                  · exact .inl rfl
                have hne : w1.heap.size ≠ wr.heap.size := by omega
                rcases hgo with hd | hd
                all_goals
                  go_wp2_with fail
                  refine HP.out.mono ?_
                  rintro e w2 ⟨rfl, hb2⟩
                  have st2 := (hb2.block _ (lt_of_some HPS.out)).trans HPS.out
                  obtain ⟨f0, f1, f2, f3, _⟩ := blk5f st2
                  obtain ⟨g0, g1, g2, g3⟩ := blk4 st2
                  have hl2 := lt_of_some st2
                  have HST2 := Lib.hid st2
                  have HB2 := Lib.hid hb2
                  clear hb2 st2
                  go_wp2_with fail
                  obtain ⟨pk2, ps2⟩ := put4 HST2.out (.slice (some ⟨b, of, none⟩) ts.length ca) (.int .i64 ((q : Int) + 2)) (.int .i64 0) (.int .i64 0)
                  have hkk := ((HPK.out.trans (kept_of_below HB2.out)).trans pk2)
                  refine (HQ.out _ (HI0.out.kb hkk)).mono ?_
                  rintro e w3 ⟨q3, hq3, x3, n3, k3, hqp, rfl, hb3⟩
                  have hgt := (hb3.block wr.heap.size (by have := hkk.size; have := lt_of_some HGK.out; have := HB2.out.size; simp only [World.size_setCell] at *; omega)).trans (pk2.get ((HB2.out.block _ (lt_of_some HGK.out)).trans HGK.out) (by omega))
                  have st3 := (hb3.block _ (lt_of_some ps2)).trans ps2
                  have HST3 := Lib.hid (heap_alloc_keep (o := .cells #[.slice (some ⟨b, of, none⟩) ts.length ca, .int .i64 q3, .int .i64 0, .int .i64 er] 75) st3)
                  have HGT3 := Lib.hid (heap_alloc_keep (o := .cells #[.slice (some ⟨b, of, none⟩) ts.length ca, .int .i64 q3, .int .i64 0, .int .i64 er] 75) hgt)
                  have hkk3 := (hkk.trans (kept_of_below hb3)).alloc (.cells #[.slice (some ⟨b, of, none⟩) ts.length ca, .int .i64 q3, .int .i64 0, .int .i64 er] 75)
                  have HKK := Lib.hid hkk3
                  have HROW := Lib.hid hqp
                  have HP2 := Lib.hid (q39_err (w := w3.alloc (.cells #[.slice (some ⟨b, of, none⟩) ts.length ca, .int .i64 q3, .int .i64 0, .int .i64 er] 75)) (a := some ⟨b, of, none⟩) (c := ca) (n := ts.length) (q := q3) HER.out)
                  clear hqp
                  clear hb3 hgt st3 pk2 ps2 hkk hkk3 f0 f1 f2 f3 g0 g1 g2 g3 hl2
                  go_wp2_with fail
                  refine HP2.out.mono ?_
                  rintro e w4 ⟨rfl, hb4⟩
                  have st4 := (hb4.block _ (lt_of_some HST3.out)).trans HST3.out
                  have gt4 := (hb4.block _ (lt_of_some HGT3.out)).trans HGT3.out
                  obtain ⟨f0, f1, f2, f3, _⟩ := blk5f st4
                  obtain ⟨g0, g1, g2, g3⟩ := blk4 st4
                  obtain ⟨j0, j1, j2, j3⟩ := blk4 gt4
                  have hl2 := lt_of_some st4
                  have hl4 := lt_of_some gt4
                  obtain ⟨pk4, ps4⟩ := put4 st4 (.slice (some ⟨b, of, none⟩) ts.length ca) (.int .i64 q3) (.int .i64 0) (.int .i64 er)
                  have hk4 := (HKK.out.trans (kept_of_below hb4)).trans pk4
                  have HK4 := Lib.hid hk4
                  have HS4 := Lib.hid ps4
                  have HOWN := Lib.hid (fun oc => qdefs_own HI0.out.row hk4 oc)
                  have HROW4 := Lib.hid HROW.out
                  clear hb4 st4 gt4 pk4 ps4 hk4
                  go_wp2_with (first
                    | (at_builtin; go_loud (refine wpList_append_lies _ rfl (.tmp 71) (.tmp 78) 45 rfl (w1.heap.size + 1) 53 i0 _ 3 48 Try.underlying45 hi0 hz0 hz1 hz2 rfl (by decide) (.slice x ds.length k) ds.length _ (by rfl) (HOWN.out _) ⟨w4.heap.size, 0, none⟩ 1 1 [.int .i64 ps, .string T, .slice x3 n3 k3] (by rfl) (by rfl) (news_at53 _ w4.heap.size (by simp) #[.int .i64 ps, .string T, .slice x3 n3 k3]) (by simp [Value.oneCell']) (by omega) (by simp only [maxLen]; omega) (by omega) (by simp; omega) (w4.heap.size + 1) (by simp) ?_); intro g cap w5 hown1 hgrow hat hlt4
                       have HGR := Lib.hid hgrow
                       have HOW := Lib.hid hown1
                       have HAT := Lib.hid hat
                       clear hgrow hown1 hat))
                  have hF := HI0.out.fail2 hq3 HER.out (by rw [HOK.out, HROW.out]) HK4.out HS4.out HGR.out
                  go_roundg 0
                  case measure => have := HI0.out.len; have := HI0.out.hq; simp only [List.length_drop] at *; omega
                  case rel => exact .inr ⟨rfl, _, _, _, _, _, rfl, hF⟩
              · have HOK := Lib.hid hok
                obtain ⟨pk, ps0, pb⟩ := HI0.out.pass (.cells #[.int .i64 (ts[q]).kind, .int .i64 (ts[q]).pos, .string (bOf (ts[q]).text), .float .f64 (ts[q]).wt] 60)
                have HP := Lib.hid (q39_yes (c := ca) (HT.out _ pb) hq1 hn hs)
                have he2 : Ends (ts.drop (q + 2)) := by
                  have h1 := HI0.out.ends
                  rw [HDR.out] at h1
                  have h2 := h1.tail (by omega)
                  rw [hr] at h2
                  rw [show q + 2 = q + 1 + 1 from rfl, hdr2]
                  exact h2.tail (by rw [sgn_kind hs]; decide)
                have hgk := heap_alloc_this (wr.setCell ⟨w1.heap.size, 1, none⟩ (.int .i64 ((q : Int) + 1))) (.cells #[.int .i64 (ts[q]).kind, .int .i64 (ts[q]).pos, .string (bOf (ts[q]).text), .float .f64 (ts[q]).wt] 60)
                rw [World.size_setCell] at hgk
                have HGK := Lib.hid hgk
                have HPK := Lib.hid pk
                have HPS := Lib.hid ps0
                rw [hk1] at x0 HP HPK HPS HGK
                have HQ := Lib.hid (fun W (h : Below w1.heap.size w1 W) => q40 (c := ca) (o := .ok ks (x2 :: r2)) hn (HT.out W h) (by rw [show q + 2 = q + 1 + 1 from rfl, hdr2]; exact hps2) he2)
                have HX := Lib.hid hx
                generalize hpp : (ts[q]).pos = ps at *
                generalize hTT : bOf (ts[q]).text = T at *
                have HPP := Lib.hid hpp
                have HTT := Lib.hid hTT
                generalize (ts[q]).wt = wt at *
                clear hps hm hok hpd hk1 pk ps0 pb hr hs hdr2 hps2 he2 hgk hpp hTT hx
                have hgo : ((ds.length : Int) == 0) = true ∨ ((ds.length : Int) == 0) = false := by
                  cases ((ds.length : Int) == 0)
                  · exact .inr rfl
                  · exact .inl rfl
                have hne : w1.heap.size ≠ wr.heap.size := by omega
                rcases hgo with hd | hd
                all_goals
                  go_wp2_with fail
                  refine HP.out.mono ?_
                  rintro e w2 ⟨rfl, hb2⟩
                  have st2 := (hb2.block _ (lt_of_some HPS.out)).trans HPS.out
                  obtain ⟨f0, f1, f2, f3, _⟩ := blk5f st2
                  obtain ⟨g0, g1, g2, g3⟩ := blk4 st2
                  have hl2 := lt_of_some st2
                  have HST2 := Lib.hid st2
                  have HB2 := Lib.hid hb2
                  clear hb2 st2
                  go_wp2_with fail
                  obtain ⟨pk2, ps2⟩ := put4 HST2.out (.slice (some ⟨b, of, none⟩) ts.length ca) (.int .i64 ((q : Int) + 2)) (.int .i64 0) (.int .i64 0)
                  have hkk := ((HPK.out.trans (kept_of_below HB2.out)).trans pk2)
                  refine (HQ.out _ (HI0.out.kb hkk)).mono ?_
                  rintro e w3 ⟨q3, x3, k3, ms, hqd, rfl, hns3, hrow, hb3⟩
                  obtain ⟨hq3, hx3, hdr3⟩ := drop_at hqd
                  have hgt := (hb3.block wr.heap.size (by have := hkk.size; have := lt_of_some HGK.out; have := HB2.out.size; simp only [World.size_setCell] at *; omega)).trans (pk2.get ((HB2.out.block _ (lt_of_some HGK.out)).trans HGK.out) (by omega))
                  have st3 := (hb3.block _ (lt_of_some ps2)).trans ps2
                  have HST3 := Lib.hid (heap_alloc_keep (o := .cells #[.slice (some ⟨b, of, none⟩) ts.length ca, .int .i64 q3, .int .i64 0, .int .i64 0] 75) st3)
                  have HGT3 := Lib.hid (heap_alloc_keep (o := .cells #[.slice (some ⟨b, of, none⟩) ts.length ca, .int .i64 q3, .int .i64 0, .int .i64 0] 75) hgt)
                  have hkk3 := (hkk.trans (kept_of_below hb3)).alloc (.cells #[.slice (some ⟨b, of, none⟩) ts.length ca, .int .i64 q3, .int .i64 0, .int .i64 0] 75)
                  have HKK := Lib.hid hkk3
                  have HROW := Lib.hid (hrow.low hkk.size)
                  have HP2 := Lib.hid (q39_no2 (c := ca) (HT.out _ (HI0.out.kb hkk3)) hq3 (by rw [hx3]; exact HX.out))
                  have HX3 := Lib.hid hx3
                  clear hrow hns3 hqd hdr3 hx3
                  clear hb3 hgt st3 pk2 ps2 hkk hkk3 f0 f1 f2 f3 g0 g1 g2 g3 hl2
                  go_wp2_with fail
                  refine HP2.out.mono ?_
                  rintro e w4 ⟨rfl, hb4⟩
                  have st4 := (hb4.block _ (lt_of_some HST3.out)).trans HST3.out
                  have gt4 := (hb4.block _ (lt_of_some HGT3.out)).trans HGT3.out
                  obtain ⟨f0, f1, f2, f3, _⟩ := blk5f st4
                  obtain ⟨g0, g1, g2, g3⟩ := blk4 st4
                  obtain ⟨j0, j1, j2, j3⟩ := blk4 gt4
                  have hl2 := lt_of_some st4
                  have hl4 := lt_of_some gt4
                  obtain ⟨pk4, ps4⟩ := put4 st4 (.slice (some ⟨b, of, none⟩) ts.length ca) (.int .i64 q3) (.int .i64 0) (.int .i64 5)
                  have hk4 := (HKK.out.trans (kept_of_below hb4)).trans pk4
                  have HK4 := Lib.hid hk4
                  have HS4 := Lib.hid ps4
                  have HOWN := Lib.hid (fun oc => qdefs_own HI0.out.row hk4 oc)
                  have HROW4 := Lib.hid HROW.out
                  clear hb4 st4 gt4 pk4 ps4 hk4
                  go_wp2_with (first
                    | (at_builtin; go_loud (refine wpList_append_lies _ rfl (.tmp 71) (.tmp 78) 45 rfl (w1.heap.size + 1) 53 i0 _ 3 48 Try.underlying45 hi0 hz0 hz1 hz2 rfl (by decide) (.slice x ds.length k) ds.length _ (by rfl) (HOWN.out _) ⟨w4.heap.size, 0, none⟩ 1 1 [.int .i64 ps, .string T, .slice x3 ms.length k3] (by rfl) (by rfl) (news_at53 _ w4.heap.size (by simp) #[.int .i64 ps, .string T, .slice x3 ms.length k3]) (by simp [Value.oneCell']) (by omega) (by simp only [maxLen]; omega) (by omega) (by simp; omega) (w4.heap.size + 1) (by simp) ?_); intro g cap w5 hown1 hgrow hat hlt4
                       have HGR := Lib.hid hgrow
                       have HOW := Lib.hid hown1
                       have HAT := Lib.hid hat
                       clear hgrow hown1 hat))
                  have hF := HI0.out.fail2 hq3 (er := 5) (by decide) (by rw [HOK.out, HX3.out]) HK4.out HS4.out HGR.out
                  go_roundg 0
                  case measure => have := HI0.out.len; have := HI0.out.hq; simp only [List.length_drop] at *; omega
                  case rel => exact .inr ⟨rfl, _, _, _, _, _, rfl, hF⟩
        · obtain ⟨hk1, u, r, ks, y, hr, hs, hps2, hx, hns⟩ := pd_ok_inv hpd
          obtain ⟨hq1, hu, hdr2⟩ := drop_at hr
          subst hu
          have HOK := Lib.hid hok
          obtain ⟨pk, ps0, pb⟩ := HI0.out.pass (.cells #[.int .i64 (ts[q]).kind, .int .i64 (ts[q]).pos, .string (bOf (ts[q]).text), .float .f64 (ts[q]).wt] 60)
          have HP := Lib.hid (q39_yes (c := ca) (HT.out _ pb) hq1 hn hs)
          have he2 : Ends (ts.drop (q + 2)) := by
            have h1 := HI0.out.ends
            rw [HDR.out] at h1
            have h2 := h1.tail (by omega)
            rw [hr] at h2
            rw [show q + 2 = q + 1 + 1 from rfl, hdr2]
            exact h2.tail (by rw [sgn_kind hs]; decide)
          have hgk := heap_alloc_this (wr.setCell ⟨w1.heap.size, 1, none⟩ (.int .i64 ((q : Int) + 1))) (.cells #[.int .i64 (ts[q]).kind, .int .i64 (ts[q]).pos, .string (bOf (ts[q]).text), .float .f64 (ts[q]).wt] 60)
          rw [World.size_setCell] at hgk
          have HGK := Lib.hid hgk
          have HPK := Lib.hid pk
          have HPS := Lib.hid ps0
          rw [hk1] at x0 HP HPK HPS HGK
          have HQ := Lib.hid (fun W (h : Below w1.heap.size w1 W) => q40 (c := ca) (o := .ok ks (y :: l1)) hn (HT.out W h) (by rw [show q + 2 = q + 1 + 1 from rfl, hdr2]; exact hps2) he2)
          have HX := Lib.hid hx
          have HNS := Lib.hid hns
          have HPD := Lib.hid hpd
          have HPM := Lib.hid hpm
          generalize hpp : (ts[q]).pos = ps at *
          generalize hTT : bOf (ts[q]).text = T at *
          have HPP := Lib.hid hpp
          have HTT := Lib.hid hTT
          generalize (ts[q]).wt = wt at *
          clear hps hm hok hpd hk1 pk ps0 pb hr hs hdr2 hps2 he2 hgk hpp hTT hx hns hpm
          have hgo : ((ds.length : Int) == 0) = true ∨ ((ds.length : Int) == 0) = false := by
            cases ((ds.length : Int) == 0)
            · exact .inr rfl
            · exact .inl rfl
          have hne : w1.heap.size ≠ wr.heap.size := by omega
          rcases hgo with hd | hd
          all_goals
            go_wp2_with fail
            refine HP.out.mono ?_
            rintro e w2 ⟨rfl, hb2⟩
            have st2 := (hb2.block _ (lt_of_some HPS.out)).trans HPS.out
            obtain ⟨f0, f1, f2, f3, _⟩ := blk5f st2
            obtain ⟨g0, g1, g2, g3⟩ := blk4 st2
            have hl2 := lt_of_some st2
            have HST2 := Lib.hid st2
            have HB2 := Lib.hid hb2
            clear hb2 st2
            go_wp2_with fail
            obtain ⟨pk2, ps2⟩ := put4 HST2.out (.slice (some ⟨b, of, none⟩) ts.length ca) (.int .i64 ((q : Int) + 2)) (.int .i64 0) (.int .i64 0)
            have hkk := ((HPK.out.trans (kept_of_below HB2.out)).trans pk2)
            refine (HQ.out _ (HI0.out.kb hkk)).mono ?_
            rintro e w3 ⟨q3, x3, k3, ms, hqd, rfl, hns3, hrow, hb3⟩
            obtain ⟨hq3, hx3, hdr3⟩ := drop_at hqd
            have hgt := (hb3.block wr.heap.size (by have := hkk.size; have := lt_of_some HGK.out; have := HB2.out.size; simp only [World.size_setCell] at *; omega)).trans (pk2.get ((HB2.out.block _ (lt_of_some HGK.out)).trans HGK.out) (by omega))
            have st3 := (hb3.block _ (lt_of_some ps2)).trans ps2
            have HST3 := Lib.hid (heap_alloc_keep (o := .cells #[.slice (some ⟨b, of, none⟩) ts.length ca, .int .i64 q3, .int .i64 0, .int .i64 0] 75) st3)
            have HGT3 := Lib.hid (heap_alloc_keep (o := .cells #[.slice (some ⟨b, of, none⟩) ts.length ca, .int .i64 q3, .int .i64 0, .int .i64 0] 75) hgt)
            have hkk3 := (hkk.trans (kept_of_below hb3)).alloc (.cells #[.slice (some ⟨b, of, none⟩) ts.length ca, .int .i64 q3, .int .i64 0, .int .i64 0] 75)
            have HKK := Lib.hid hkk3
            have HROW := Lib.hid (hrow.low hkk.size)
            have HP2 := Lib.hid (q39_yes2 (c := ca) (HT.out _ (HI0.out.kb hkk3)) hq3 hn (by rw [hx3]; exact HX.out))
            have HD3 := Lib.hid hdr3
            have HM3 := Lib.hid hns3
            clear hrow hns3 hqd hdr3 hx3
            clear hb3 hgt st3 pk2 ps2 hkk hkk3 f0 f1 f2 f3 g0 g1 g2 g3 hl2
            go_wp2_with fail
            refine HP2.out.mono ?_
            rintro e w4 ⟨rfl, hb4⟩
            have st4 := (hb4.block _ (lt_of_some HST3.out)).trans HST3.out
            have gt4 := (hb4.block _ (lt_of_some HGT3.out)).trans HGT3.out
            obtain ⟨f0, f1, f2, f3, _⟩ := blk5f st4
            obtain ⟨g0, g1, g2, g3⟩ := blk4 st4
            obtain ⟨j0, j1, j2, j3⟩ := blk4 gt4
            have hl2 := lt_of_some st4
            have hl4 := lt_of_some gt4
            obtain ⟨pk4, ps4⟩ := put4 st4 (.slice (some ⟨b, of, none⟩) ts.length ca) (.int .i64 ((q3 : Int) + 1)) (.int .i64 0) (.int .i64 0)
            have hk4 := (HKK.out.trans (kept_of_below hb4)).trans pk4
            have HK4 := Lib.hid hk4
            have HS4 := Lib.hid ps4
            have HOWN := Lib.hid (fun oc => qdefs_own HI0.out.row hk4 oc)
            have HROW4 := Lib.hid (HROW.out.go ((((Kept.refl (· = w1.heap.size) _).alloc _).trans (kept_of_below hb4)).trans pk4) (fun k hk => by omega))
            clear hb4 st4 gt4 pk4 ps4 hk4
            go_wp2_with (first
              | (at_builtin; go_loud (refine wpList_append_lies _ rfl (.tmp 71) (.tmp 78) 45 rfl (w1.heap.size + 1) 53 i0 _ 3 48 Try.underlying45 hi0 hz0 hz1 hz2 rfl (by decide) (.slice x ds.length k) ds.length _ (by rfl) (HOWN.out _) ⟨w4.heap.size, 0, none⟩ 1 1 [.int .i64 ps, .string T, .slice x3 ms.length k3] (by rfl) (by rfl) (news_at53 _ w4.heap.size (by simp) #[.int .i64 ps, .string T, .slice x3 ms.length k3]) (by simp [Value.oneCell']) (by omega) (by simp only [maxLen]; omega) (by omega) (by simp; omega) (w4.heap.size + 1) (by simp) ?_); intro g cap w5 hown1 hgrow hat hlt4
                 have HGR := Lib.hid hgrow
                 have HOW := Lib.hid hown1
                 have HAT := Lib.hid hat
                 clear hgrow hown1 hat))
            obtain ⟨hF, hlt1⟩ := HI0.out.next (q4 := q3 + 1) (by rw [HD3.out, HDR.out]; exact HPD.out) (by rw [HD3.out]; exact HPM.out) HOK.out (by rw [HNS.out, HM3.out]; unfold defN; rw [HPP.out, HTT.out]) HK4.out HS4.out HROW4.out HGR.out HOW.out (by simpa using HAT.out)
            go_roundg (ts.drop (q3 + 1)).length
            case measure => exact hlt1
            case rel => exact .inl ⟨_, _, _, _, _, by simp, hF⟩
    · have HEv := Lib.hid hE
      obtain ⟨c0, c1, c2, c3⟩ := blk4 hE.st
      have hl0 := lt_of_some hE.st
      have her : (er == 0) = false := by simpa using hE.er0
      have her2 : (er != 0) = true := by simpa using hE.er0
      have hqh := hE.hq
      have HT0 := HT.out _ hE.below
      obtain ⟨b, of, rfl, hbt, x0, x1, x2, x3⟩ := HT0.cells0 hqh
      have hpi : (q : Int) < ts.length := by omega
      clear hE hrel HT0
      go_wp2_with fail
      go_quiet (fail)
      go_wp2_with fail
      go_ret3
      rw [HEv.out.out]
      exact ⟨rfl, HB.out.trans ((below_drewN HEv.out.below nq).mono HB.out.size)⟩
end Go.Proofs.Yticdihfjnmjkmaa
