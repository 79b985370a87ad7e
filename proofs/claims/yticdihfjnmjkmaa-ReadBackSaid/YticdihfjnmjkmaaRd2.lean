/- Pieces of alternatives are read. -/
import Derived.Test.YticdihfjnmjkmaaRd1
import Derived.Deep.LoopGhost
import Derived.Lib.SmallJoins
namespace Go.Proofs.Yticdihfjnmjkmaa
open Go.RowKit
/-- What reads pieces, of at most so many words. -/
def ItemAny (n : Nat) : Prop := ∀ d t r o, d ≤ 16 → startB t = true → Ps .item d (t :: r) o → Ends (t :: r) → (t :: r).length ≤ n → ∀ w rb, RD w rb (t :: r) d → Calls Try.prog 83 #[.pointer (some ⟨rb, 0, none⟩)] w (ItemPost rb d o w)
theorem info68 : (Try.prog.info? 68).map (fun i => (i.zero, i.size, i.bytes)) = some (some (.agg #[.int .i64 0, .int .i64 0, .string ⟨#[]⟩, .slice none 0 0, .int .u8 0]), 5, 64) := by kernel_rfl
theorem info66 : (Try.prog.info? 66).map (fun i => (i.zero, i.size, i.bytes)) = some (some (.agg #[.int .i64 0, .float .f64 0, .slice none 0 0]), 3, 40) := by kernel_rfl
/-- The reader's place, and passing a word, from there on. -/
theorem RD.turn {w : World} {rb : Nat} {t : Tok} {r : List Tok} {d : Nat} (h : RD w rb (t :: r) d) :
    ∃ p : Nat, p < 100000 ∧ w.cell? ⟨rb, 1, none⟩ = some (.int .i64 p) ∧ ∀ (w' : World) (S : Nat → Prop), Kept S w w' → (∀ k, S k → rb < k) → RD (w'.setCell ⟨rb, 1, none⟩ (.int .i64 (p + 1))) rb r d := by
  obtain ⟨a, c, ts, p, h, hl, hn⟩ := h
  obtain ⟨hp, _, h2⟩ := drop_at hl
  exact ⟨p, by omega, h.cells.2.1, fun w' S hk hS => ⟨a, c, ts, p + 1, (h.kept hk hS).set1 (p + 1), h2, hn⟩⟩
theorem RD.few {w : World} {rb : Nat} {l : List Tok} {d : Nat} (h : RD w rb l d) : l.length ≤ 100000 := by
  obtain ⟨a, c, ts, p, h, hl, hn⟩ := h
  rw [← hl, List.length_drop]; omega
theorem Kept.cons {w w' : World} {rb k : Nat} {o : Obj} (h : Kept (· = rb) w w') (hk : w.heap[k]? = some o) (hne : k ≠ rb) : w'.heap[k]? = some o := h.get hk hne
/-- The pieces so far. -/
structure AltInv (n rb d b2 b3 at' wt : Nat) (o : Out) (w wr : World) (m : Nat) (is : List MN) (a : Option Addr) (c : Nat) (t : Tok) (r : List Tok) (ok : Out) : Prop where
  len : m = (t :: r).length
  le : (t :: r).length ≤ n
  few : is.length + (t :: r).length ≤ 100000
  ends : Ends (t :: r)
  res : wr.heap[b2]? = some (.cells #[.int .i64 0, .float .f64 0, .slice none 0 0] 66 (0, 0))
  blk : wr.heap[b3]? = some (.cells #[.int .i64 at', .float .f64 wt, .slice a is.length c] 66 (0, 0))
  row : RowOf wr (b3 + 1) 68 5 66 3 (.slice a is.length c) is
  rd : RD wr rb (t :: r) d
  kept : Kept (· = rb) w wr
  ps : Ps .items d (t :: r) ok
  out : o = ok.pres (is.map MN.pn)
  low : rb < w.heap.size ∧ b2 < b3 ∧ w.heap.size ≤ b2
theorem AltInv.lt {n rb d b2 b3 at' wt : Nat} {o : Out} {w wr : World} {m : Nat} {is : List MN} {a : Option Addr} {c : Nat} {t : Tok} {r : List Tok} {ok : Out} (h : AltInv n rb d b2 b3 at' wt o w wr m is a c t r ok) : b3 < wr.heap.size := lt_of_block h.blk
theorem AltInv.start {n rb d b2 b3 at' wt : Nat} {o : Out} {w wr : World} {t : Tok} {r : List Tok} (hn : (t :: r).length ≤ n) (he : Ends (t :: r)) (h2 : wr.heap[b2]? = some (.cells #[.int .i64 0, .float .f64 0, .slice none 0 0] 66 (0, 0)))
    (h3 : wr.heap[b3]? = some (.cells #[.int .i64 at', .float .f64 wt, .slice none 0 0] 66 (0, 0))) (hr : RD wr rb (t :: r) d) (hk : Kept (· = rb) w wr) (hp : Ps .items d (t :: r) o) (hl : rb < w.heap.size ∧ b2 < b3 ∧ w.heap.size ≤ b2) :
    AltInv n rb d b2 b3 at' wt o w wr (t :: r).length [] none 0 t r o :=
  ⟨rfl, hn, by have := hr.few; simp only [List.length_nil]; omega, he, h2, h3, RowOf.nil _ _ _ _ _ _, hr, hk, hp, (Out.pres_nil _).symm, hl⟩
theorem AltInv.next {n rb d b2 b3 at' wt : Nat} {o : Out} {w wr : World} {m : Nat} {is : List MN} {a : Option Addr} {c : Nat} {t : Tok} {r : List Tok} {ok : Out} (h : AltInv n rb d b2 b3 at' wt o w wr m is a c t r ok)
    {at2 : Nat} {kd op : Int} {tx : ByteArray} {a' : Option Addr} {c' : Nat} {ms : List MN} {ns : List PN} {l1 : List Tok} {o1 : Out} {w1 W5 w2 : World} (hpi : Ps .item d (t :: r) (.ok ns l1)) (hpm : Ps .items d l1 o1) (hok : ok = o1.pres ns)
    (hns : [.node [.int .i64 at2, .int .i64 kd, .string tx] [.int .u8 op] (ms.map MN.pn)] = ns) (hrow : RowOf w1 wr.heap.size 66 3 68 5 (.slice a' ms.length c') ms) (hrd : RD w1 rb l1 d) (hk : Kept (· = rb) wr w1)
    (hb5 : Below w1.heap.size w1 W5) {ob : Obj} (hgr : (W5.alloc ob).grownBy w2 (Value.slice a is.length c).ownBlock) {g cap : Nat}
    (hown : w2.ownsRow (b3 + 1) 68 5 (.slice (some ⟨g, 0, none⟩) (is.length + 1) cap) (is.length + 1) (rowC is ++ [.int .i64 at2, .int .i64 kd, .string tx, .slice a' ms.length c', .int .u8 op]))
    (hat : (Value.slice a is.length c).ownBlock = some g ∨ g = W5.heap.size + 1) :
    ∃ t1 r1, AltInv n rb d b2 b3 at' wt o w (w2.setCell ⟨b3, 2, none⟩ (.slice (some ⟨g, 0, none⟩) (is.length + 1) cap)) l1.length (is ++ [.node [.int .i64 at2, .int .i64 kd, .string tx] [.int .u8 op] (.slice a' ms.length c') ms]) (some ⟨g, 0, none⟩) cap t1 r1 o1 ∧ l1.length < m := by
  obtain ⟨e1, e2, e3⟩ := hpi.res h.ends _ _ rfl
  have e3 := e3 rfl
  obtain ⟨t1, r1, rfl⟩ := e1.ne
  have hb3 := h.lt
  obtain ⟨lo1, lo2, lo3⟩ := h.low
  have s1 := hk.size
  have s5 := hb5.size
  have hle := h.le
  have hfew := h.few
  have hkb : Kept (· = rb) wr W5 := hk.trans (kept_of_below hb5)
  have hm : MN.At W5 wr.heap.size 66 3 68 5 (.node [.int .i64 at2, .int .i64 kd, .string tx] [.int .u8 op] (.slice a' ms.length c') ms) := (hrow.at _ _).below hb5
  have hrow2 := h.row.next hm rfl hkb (fun k hk => by omega) rfl hgr hown hat (by omega)
  have hg3 : (Value.slice a is.length c).ownBlock ≠ some b3 := fun e => by have := (row_lt h.row.row e).1; omega
  have hgr2 : (Value.slice a is.length c).ownBlock ≠ some b2 := fun e => by have := (row_lt h.row.row e).1; omega
  have hgrr : ∀ k, k ≤ rb → (Value.slice a is.length c).ownBlock ≠ some k := fun k hk e => by have := (row_lt h.row.row e).1; omega
  have hkg : Kept (fun k => b3 < k) W5 w2 := (Kept.refl _ _).alloc ob |>.trans ⟨hgr.os, hgr.tape, hgr.output, hgr.size, fun k hk hs => hgr.block k hk (fun e => hs (by have := (row_lt h.row.row e.symm).1; omega))⟩
  have hks : ∀ v, Kept (· = b3) w2 (w2.setCell ⟨b3, 2, none⟩ v) := fun v => Kept.setCell (S := (· = b3)) (Kept.refl _ _) (p := ⟨b3, 2, none⟩) (.inl rfl) v
  have b3w2 : w2.heap[b3]? = some (.cells #[.int .i64 at', .float .f64 wt, .slice a is.length c] 66 (0, 0)) := hkg.get (hkb.get h.blk (by omega)) (by omega)
  have b2w2 : w2.heap[b2]? = some (.cells #[.int .i64 0, .float .f64 0, .slice none 0 0] 66 (0, 0)) := hkg.get (hkb.get h.res (by omega)) (by omega)
  refine ⟨t1, r1, ⟨rfl, by omega, ?_, e1, ?_, ?_, ?_, ?_, ?_, hpm, ?_, h.low⟩, by have := h.len; omega⟩
  · simp only [List.length_append, List.length_cons, List.length_nil] at e3 hfew ⊢; omega
  · exact (hks _).get b2w2 (by omega)
  · have := heap_setCell_known (off := 2) (u := .slice (some ⟨g, 0, none⟩) (is.length + 1) cap) b3w2
    simpa using this
  · rw [List.length_append]
    exact hrow2.go (hks _) (fun k hk => by omega)
  · exact ((hrd.below hb5).kept hkg (fun k hk => by omega)).kept (hks _) (fun k hk => by omega)
  · exact (h.kept.trans hkb).then (hkg.then (hks _) (S'' := fun k => b3 ≤ k) (fun _ _ h => Nat.le_of_lt h) (fun _ _ h => by omega)) (fun _ _ h => h) (fun i hi h => by omega)
  · rw [h.out, hok, ← hns, List.map_append, Out.pres_pres]
    simp [MN.pn, MN.pnL_map]
theorem AltInv.start3 {n rb d b2 b3 at' wt p : Nat} {o : Out} {w w2 : World} {t : Tok} {r : List Tok} (hn : (t :: r).length ≤ n) (he : Ends (t :: r)) (h2 : w2.heap[b2]? = some (.cells #[.int .i64 0, .float .f64 0, .slice none 0 0] 66 (0, 0)))
    (h3 : w2.heap[b3]? = some (.cells #[.int .i64 at', .float .f64 0, .slice none 0 0] 66 (0, 0))) (hr : ∀ (w' : World) (S : Nat → Prop), Kept S w2 w' → (∀ k, S k → rb < k) → RD (w'.setCell ⟨rb, 1, none⟩ (.int .i64 (p + 1))) rb (t :: r) d) (hk : Kept (· = rb) w w2) (hp : Ps .items d (t :: r) o) (hl : rb < w.heap.size ∧ b2 < b3 ∧ w.heap.size ≤ b2) (ob : Obj) :
    AltInv n rb d b2 b3 at' wt o w (((w2.setCell ⟨b3, 1, none⟩ (.float .f64 wt)).setCell ⟨rb, 1, none⟩ (.int .i64 (p + 1))).alloc ob) (t :: r).length [] none 0 t r o := by
  obtain ⟨l1, l2, l3⟩ := hl
  have k1 : Kept (· = b3) w2 (w2.setCell ⟨b3, 1, none⟩ (.float .f64 wt)) := Kept.setCell (S := (· = b3)) (Kept.refl _ _) (p := ⟨b3, 1, none⟩) (.inl rfl) _
  have k2 : ∀ W v, Kept (· = rb) W (W.setCell ⟨rb, 1, none⟩ v) := fun W v => Kept.setCell (S := (· = rb)) (Kept.refl _ _) (p := ⟨rb, 1, none⟩) (.inl rfl) v
  refine .start hn he ?_ ?_ ((hr _ _ k1 (fun k hk => by omega)).alloc _) (((hk.then k1 (fun _ _ h => h) (fun i hi h => by omega)).trans (k2 _ _)).alloc _) hp ⟨l1, l2, l3⟩
  · exact heap_alloc_keep ((k2 _ _).get (k1.get h2 (by omega)) (by omega))
  · have := heap_setCell_known (off := 1) (u := .float .f64 wt) h3
    exact heap_alloc_keep ((k2 _ _).get (by simpa using this) (by omega))
theorem AltInv.after {n rb d b2 b3 at' wt : Nat} {o : Out} {w wr : World} {m : Nat} {is : List MN} {a : Option Addr} {c : Nat} {t : Tok} {r : List Tok} {ok : Out} (h : AltInv n rb d b2 b3 at' wt o w wr m is a c t r ok)
    {w1 w2 : World} (hk : Kept (· = rb) wr w1) {ob oc : Obj} (hgr : ((w1.alloc ob).alloc oc).grownBy w2 (Value.slice a is.length c).ownBlock) : w2.heap[b3]? = some (.cells #[.int .i64 at', .float .f64 wt, .slice a is.length c] 66 (0, 0)) := by
  have hb3 := h.lt
  obtain ⟨lo1, lo2, lo3⟩ := h.low
  have s1 := hk.size
  have hg3 : (Value.slice a is.length c).ownBlock ≠ some b3 := fun e => by have := (row_lt h.row.row e).1; omega
  refine (hgr.block b3 (by simp only [World.size_alloc]; omega) (fun e => hg3 e.symm)).trans ?_
  exact heap_alloc_keep (heap_alloc_keep (hk.get h.blk (by omega)))
theorem AltInv.own {n rb d b2 b3 at' wt : Nat} {o : Out} {w wr : World} {m : Nat} {is : List MN} {a : Option Addr} {c : Nat} {t : Tok} {r : List Tok} {ok : Out} (h : AltInv n rb d b2 b3 at' wt o w wr m is a c t r ok)
    {w1 : World} (hk : Kept (· = rb) wr w1) (ob oc : Obj) : ((w1.alloc ob).alloc oc).ownsRow (b3 + 1) 68 5 (.slice a is.length c) is.length (rowC is) := by
  obtain ⟨lo1, lo2, lo3⟩ := h.low
  exact ((h.row.go hk (fun k hk => by omega)).row.alloc _).alloc _
theorem AltInv.post {n rb d b2 b3 : Nat} {o : Out} {w wr : World} {m : Nat} {is : List MN} {a : Option Addr} {c : Nat} {t : Tok} {r : List Tok} {u : Tok} (h : AltInv n rb d b2 b3 u.pos (if u.kind = 3 then u.wt else 0) o w wr m is a c t r (.ok [] (t :: r)))
    {w1 w2 : World} (hk : Kept (· = rb) wr w1) (hr : RD w1 rb (t :: r) d) {ob : Obj} (hk2 : Kept (· = b2) w1 w2) : AltPost rb d (o.alt u) w (.returned (.agg #[.int .i64 u.pos, .float .f64 (if u.kind = 3 then u.wt else 0), .slice a is.length c])) (w2.alloc ob) := by
  obtain ⟨lo1, lo2, lo3⟩ := h.low
  rw [h.out]
  refine ⟨u.pos, (if u.kind = 3 then u.wt else 0), a, c, is, rfl, ?_, ?_, ?_, ?_⟩
  · simp
  · exact (((h.row.go hk (fun k hk => by omega)).go hk2 (fun k hk => by omega)).go ((Kept.refl (fun _ => False) _).alloc _) (fun _ h => h.elim)).low (by omega)
  · exact (hr.kept hk2 (fun k hk => by omega)).alloc _
  · exact ((h.kept.trans hk).then hk2 (fun _ _ h => h) (fun i hi h => by omega)).alloc _
theorem items_inv {d : Nat} {t : Tok} {r : List Tok} {ok : Out} (h : Ps .items d (t :: r) ok) : (startB t = false ∧ ok = .ok [] (t :: r)) ∨ (startB t = true ∧ ((∃ a l1 o1, Ps .item d (t :: r) (.ok a l1) ∧ Ps .items d l1 o1 ∧ ok = o1.pres a) ∨ ∃ e p, Ps .item d (t :: r) (.err e p) ∧ ok = .err e p)) := by
  cases h with
  | items_nil h => exact .inl ⟨h, rfl⟩
  | items h h1 h2 => exact .inr ⟨h, .inl ⟨_, _, _, h1, h2, rfl⟩⟩
  | items_err h h1 => exact .inr ⟨h, .inr ⟨_, _, h1, rfl⟩⟩
theorem blk3 {w : World} {b : Nat} {x0 x1 x2 : Value} {t : TypeId} (h : w.heap[b]? = some (.cells #[x0, x1, x2] t (0, 0))) :
    w.cell? ⟨b, 0, none⟩ = some x0 ∧ w.cell? ⟨b, 1, none⟩ = some x1 ∧ w.cell? ⟨b, 2, none⟩ = some x2 :=
  ⟨cell_of_block (off := 0) h, cell_of_block (off := 1) h, cell_of_block (off := 2) h⟩
theorem stores3 (w1 : World) (B : Nat) (a b c : Value) : Kept (· = B) w1 (((w1.setCell ⟨B, 0, none⟩ a).setCell ⟨B, 1, none⟩ b).setCell ⟨B, 2, none⟩ c) := by
  refine Kept.setCell (S := (· = B)) ?_ (.inl rfl) _
  refine Kept.setCell (S := (· = B)) ?_ (.inl rfl) _
  refine Kept.setCell (S := (· = B)) ?_ (.inl rfl) _
  exact Kept.refl _ _
end Go.Proofs.Yticdihfjnmjkmaa
namespace Go.Proofs.Yticdihfjnmjkmaa
open Go.RowKit
attribute [local go_sem] run_store_float
set_option maxRecDepth 100000 in
theorem item_name {w : World} {rb : Nat} {t : Tok} {r : List Tok} {d : Nat} (h : RD w rb (t :: r) d) (hk : t.kind = 1) (he : Ends r) :
    Calls Try.prog 83 #[.pointer (some ⟨rb, 0, none⟩)] w (ItemPost rb d (.ok [wordN t (opP r).1] (opP r).2) w) := by
  have HN := fun o => Lib.hid (now_rd (h.alloc o))
  have HR := fun o => Lib.hid (h.alloc o)
  have hlt := h.lt
  clear h
  unfold tokC at HN
  obtain ⟨kd, ps, tx, wt⟩ := t
  simp only at hk
  subst hk
  have HT := Lib.hid (show bOf tx = bOf tx from rfl)
  generalize hTT : bOf tx = T at *
  have HTT := Lib.hid hTT
  clear hTT HT
  go_enter Try.func83, Try.ntmps83
  go_wp2_with fail
  refine (HN _).out.mono ?_
  rintro e w1 ⟨rfl, hb⟩
  have hR1 := (HR _).out.below hb
  have hb1 := Lib.hid hb
  have hw1 := hb.size
  simp only [World.size_alloc] at hw1
  have hwl : w.heap.size < w1.heap.size := (by omega)
  have hwn : w.heap.size ≠ w1.heap.size := (by omega)
  have g0 := hb.block w.heap.size (by simp only [World.size_alloc]; omega)
  rw [heap_alloc_this] at g0
  have G0 := Lib.hid g0
  obtain ⟨p, hp1, c1, hP⟩ := hR1.turn
  have f1 := hR1.free 1
  have hlt1 : rb < w1.heap.size := hR1.lt
  have HK1 := Lib.hid (((Kept.refl (· = rb) w).alloc (.cells #[.int .i64 0, .int .i64 0, .string ⟨#[]⟩, .slice none 0 0, .int .u8 0] 68)).trans (kept_of_below hb))
  have HP := Lib.hid hP
  have kc := fun (W : World) (hg : w1.heap.size + 1 + 1 = W.heap.size) => Joins.run_convert_bytes_const_at (P := Try.prog) W 37 5 #[.int .u8 63, .int .u8 42, .int .u8 43] 3 3 _ hg Try.underlying37 Try.underlying5
  clear hb g0 hP hR1
  go_wp2_with fail
  obtain ⟨u, r', rfl⟩ := he.ne
  clear hb1 hp1 HN HR c1 f1
  go_loopw [86] (fun i wr => ∃ (k : Nat) (o : Int) (u' : Tok) (r2 : List Tok), k ≤ 3 ∧ i = .int .i64 k ∧ Hid (OpsInv w wr rb d w.heap.size (w1.heap.size + 1) (w1.heap.size + 1 + 1) (w1.heap.size + 2) ps 0 T none 0 [] (u :: r') k o u' r2)) (fun i _ => 3 - (intOf i).toNat)
  case atStart =>
    have hsz : (((w1.setCell ⟨rb, 1, none⟩ (.int .i64 (p + 1))).alloc (.cells #[.int .i64 1, .int .i64 ps, .string T, .float .f64 wt] 36)).alloc (.cells #[.int .i64 ps, .int .i64 0, .string T, .slice none 0 0, .int .u8 0] 68)).heap.size = w1.heap.size + 1 + 1 := by simp
    have hsy : ((w1.setCell ⟨rb, 1, none⟩ (.int .i64 (p + 1))).alloc (.cells #[.int .i64 1, .int .i64 ps, .string T, .float .f64 wt] 36)).heap.size = w1.heap.size + 1 := by simp
    have k1 : Kept (· = rb) w1 (w1.setCell ⟨rb, 1, none⟩ (.int .i64 (p + 1))) := Kept.setCell (S := (· = rb)) (Kept.refl _ _) (.inl rfl) _
    refine ⟨0, 0, u, r', by omega, rfl, ?_, ?_, ?_, RowOf.nil _ _ _ _ _ _, ?_, ?_, rfl, he, by omega⟩
    · exact heap_alloc_keep (heap_alloc_keep (heap_alloc_keep (k1.get G0.out (by omega))))
    · have := heap_alloc_this ((w1.setCell ⟨rb, 1, none⟩ (.int .i64 (p + 1))).alloc (.cells #[.int .i64 1, .int .i64 ps, .string T, .float .f64 wt] 36)) (.cells #[.int .i64 ps, .int .i64 0, .string T, .slice none 0 0, .int .u8 0] 68)
      rw [hsy] at this
      exact heap_alloc_keep this
    · rw [← hsz]
      exact heap_alloc_this _ _
    · exact (((HP.out _ _ (Kept.refl (fun _ => False) _) (fun _ h => h.elim)).alloc _).alloc _).alloc _
    · exact (((HK1.out.trans k1).alloc _).alloc _).alloc _
  case round =>
    obtain ⟨k, o, u', r2, hk, rfl, hI⟩ := hrel
    have HI := Lib.hid hI.out
    clear hI
    obtain ⟨c0, c1, c2, c5, f5, hl5⟩ := HI.out.facts
    by_cases hk3 : k = 3
    · subst hk3
      obtain ⟨d0, d1, d2, d3, d4⟩ := HI.out.ends3
      obtain ⟨e0, e1, e2, e3, e4⟩ := HI.out.ends4
      obtain ⟨g0, g1, g2, g3, g4⟩ := HI.out.ends5
      simp only [List.length_nil] at d3
      go_wp2_with fail
      refine bodyPost_ret (v := .tuple #[.agg #[.int .i64 ps, .int .i64 0, .string T, .slice none 0 0, .int .u8 o], .bool true]) (by simp [results, Try.results83, go_sem, *]) rfl ?_
      unfold wordN
      simp only [HTT.out]
      exact HI.out.post ⟨_, _, rfl⟩ (by omega) (stores5 _ _ _ _ _ _ _) _ rfl
    · by_cases ho : o = 0
      · subst ho
        obtain rfl | rfl | rfl : k = 0 ∨ k = 1 ∨ k = 2 := by omega
        · have HS := Lib.hid (HI.out.sign [63])
          cases hx : sgnB u' [63]
          · rw [hx] at HS
            simp only [Bool.false_eq_true, if_false] at HS
            have HX := Lib.hid hx
            clear hx hk3
            go_wp2_with (first | (go_at_call 72; refine HS.out.mono ?_; rintro e w2 ⟨rfl, hr2, hk2⟩; have HR2 := Lib.hid hr2; have HK2 := Lib.hid hk2; clear hr2 hk2))
            go_roundw
            case rel =>
              refine ⟨_, 0, u', r2, ?_, rfl, HI.out.no HX.out HR2.out HK2.out⟩
              exact Nat.le_of_ble_eq_true rfl
            case measure => simp [intOf]
          · rw [hx] at HS
            simp only [if_true] at HS
            have HX := Lib.hid hx
            clear hx hk3
            go_wp2_with (first | (go_at_call 72; refine HS.out.mono ?_; rintro e w2 ⟨rfl, hr2, hk2⟩; have hs2 := hk2.size; have g5 := hk2.get HI.out.blk (by omega); have c52 := cell_of_block (off := 4) g5; have f52 := free_of_block (off := 4) g5; simp only [List.getElem?_toArray, List.getElem?_cons_succ, List.getElem?_cons_zero] at c52; have HR2 := Lib.hid hr2; have HK2 := Lib.hid hk2; clear hr2 hk2 g5))
            obtain ⟨u2, r3, HF⟩ := HI.out.yes HX.out HR2.out HK2.out
            go_roundw
            case rel =>
              refine ⟨_, _, u2, r3, ?_, rfl, HF⟩
              exact Nat.le_of_ble_eq_true rfl
            case measure => simp [intOf]
        · have HS := Lib.hid (HI.out.sign [42])
          cases hx : sgnB u' [42]
          · rw [hx] at HS
            simp only [Bool.false_eq_true, if_false] at HS
            have HX := Lib.hid hx
            clear hx hk3
            go_wp2_with (first | (go_at_call 72; refine HS.out.mono ?_; rintro e w2 ⟨rfl, hr2, hk2⟩; have HR2 := Lib.hid hr2; have HK2 := Lib.hid hk2; clear hr2 hk2))
            go_roundw
            case rel =>
              refine ⟨_, 0, u', r2, ?_, rfl, HI.out.no HX.out HR2.out HK2.out⟩
              exact Nat.le_of_ble_eq_true rfl
            case measure => simp [intOf]
          · rw [hx] at HS
            simp only [if_true] at HS
            have HX := Lib.hid hx
            clear hx hk3
            go_wp2_with (first | (go_at_call 72; refine HS.out.mono ?_; rintro e w2 ⟨rfl, hr2, hk2⟩; have hs2 := hk2.size; have g5 := hk2.get HI.out.blk (by omega); have c52 := cell_of_block (off := 4) g5; have f52 := free_of_block (off := 4) g5; simp only [List.getElem?_toArray, List.getElem?_cons_succ, List.getElem?_cons_zero] at c52; have HR2 := Lib.hid hr2; have HK2 := Lib.hid hk2; clear hr2 hk2 g5))
            obtain ⟨u2, r3, HF⟩ := HI.out.yes HX.out HR2.out HK2.out
            go_roundw
            case rel =>
              refine ⟨_, _, u2, r3, ?_, rfl, HF⟩
              exact Nat.le_of_ble_eq_true rfl
            case measure => simp [intOf]
        · have HS := Lib.hid (HI.out.sign [43])
          cases hx : sgnB u' [43]
          · rw [hx] at HS
            simp only [Bool.false_eq_true, if_false] at HS
            have HX := Lib.hid hx
            clear hx hk3
            go_wp2_with (first | (go_at_call 72; refine HS.out.mono ?_; rintro e w2 ⟨rfl, hr2, hk2⟩; have HR2 := Lib.hid hr2; have HK2 := Lib.hid hk2; clear hr2 hk2))
            go_roundw
            case rel =>
              refine ⟨_, 0, u', r2, ?_, rfl, HI.out.no HX.out HR2.out HK2.out⟩
              exact Nat.le_of_ble_eq_true rfl
            case measure => simp [intOf]
          · rw [hx] at HS
            simp only [if_true] at HS
            have HX := Lib.hid hx
            clear hx hk3
            go_wp2_with (first | (go_at_call 72; refine HS.out.mono ?_; rintro e w2 ⟨rfl, hr2, hk2⟩; have hs2 := hk2.size; have g5 := hk2.get HI.out.blk (by omega); have c52 := cell_of_block (off := 4) g5; have f52 := free_of_block (off := 4) g5; simp only [List.getElem?_toArray, List.getElem?_cons_succ, List.getElem?_cons_zero] at c52; have HR2 := Lib.hid hr2; have HK2 := Lib.hid hk2; clear hr2 hk2 g5))
            obtain ⟨u2, r3, HF⟩ := HI.out.yes HX.out HR2.out HK2.out
            go_roundw
            case rel =>
              refine ⟨_, _, u2, r3, ?_, rfl, HF⟩
              exact Nat.le_of_ble_eq_true rfl
            case measure => simp [intOf]
      · have ho1 : (o == 0) = false := by simpa using ho
        have HO := Lib.hid ho
        clear ho
        obtain rfl | rfl | rfl : k = 0 ∨ k = 1 ∨ k = 2 := by omega
        all_goals
          clear hk3
          go_wp2_with fail
          go_roundw
          case rel =>
            refine ⟨_, o, u', r2, ?_, rfl, HI.out.skip HO.out⟩
            exact Nat.le_of_ble_eq_true rfl
          case measure => simp [intOf]
end Go.Proofs.Yticdihfjnmjkmaa
namespace Go.Proofs.Yticdihfjnmjkmaa
open Go.RowKit
attribute [local go_sem] run_store_float
set_option maxRecDepth 100000 in
theorem item_quote {w : World} {rb : Nat} {t : Tok} {r : List Tok} {d : Nat} (h : RD w rb (t :: r) d) (hk : t.kind = 2) (he : Ends r) :
    Calls Try.prog 83 #[.pointer (some ⟨rb, 0, none⟩)] w (ItemPost rb d (.ok [wordN t (opP r).1] (opP r).2) w) := by
  have HN := fun o => Lib.hid (now_rd (h.alloc o))
  have HR := fun o => Lib.hid (h.alloc o)
  have hlt := h.lt
  clear h
  unfold tokC at HN
  obtain ⟨kd, ps, tx, wt⟩ := t
  simp only at hk
  subst hk
  have HT := Lib.hid (show bOf tx = bOf tx from rfl)
  generalize hTT : bOf tx = T at *
  have HTT := Lib.hid hTT
  clear hTT HT
  go_enter Try.func83, Try.ntmps83
  go_wp2_with fail
  refine (HN _).out.mono ?_
  rintro e w1 ⟨rfl, hb⟩
  have hR1 := (HR _).out.below hb
  have hb1 := Lib.hid hb
  have hw1 := hb.size
  simp only [World.size_alloc] at hw1
  have hwl : w.heap.size < w1.heap.size := (by omega)
  have hwn : w.heap.size ≠ w1.heap.size := (by omega)
  have g0 := hb.block w.heap.size (by simp only [World.size_alloc]; omega)
  rw [heap_alloc_this] at g0
  have G0 := Lib.hid g0
  obtain ⟨p, hp1, c1, hP⟩ := hR1.turn
  have f1 := hR1.free 1
  have hlt1 : rb < w1.heap.size := hR1.lt
  have HK1 := Lib.hid (((Kept.refl (· = rb) w).alloc (.cells #[.int .i64 0, .int .i64 0, .string ⟨#[]⟩, .slice none 0 0, .int .u8 0] 68)).trans (kept_of_below hb))
  have HP := Lib.hid hP
  have kc := fun (W : World) (hg : w1.heap.size + 1 + 1 = W.heap.size) => Joins.run_convert_bytes_const_at (P := Try.prog) W 37 5 #[.int .u8 63, .int .u8 42, .int .u8 43] 3 3 _ hg Try.underlying37 Try.underlying5
  clear hb g0 hP hR1
  go_wp2_with fail
  obtain ⟨u, r', rfl⟩ := he.ne
  clear hb1 hp1 HN HR c1 f1
  go_loopw [86] (fun i wr => ∃ (k : Nat) (o : Int) (u' : Tok) (r2 : List Tok), k ≤ 3 ∧ i = .int .i64 k ∧ Hid (OpsInv w wr rb d w.heap.size (w1.heap.size + 1) (w1.heap.size + 1 + 1) (w1.heap.size + 2) ps 1 T none 0 [] (u :: r') k o u' r2)) (fun i _ => 3 - (intOf i).toNat)
  case atStart =>
    have hsz : (((w1.setCell ⟨rb, 1, none⟩ (.int .i64 (p + 1))).alloc (.cells #[.int .i64 2, .int .i64 ps, .string T, .float .f64 wt] 36)).alloc (.cells #[.int .i64 ps, .int .i64 1, .string T, .slice none 0 0, .int .u8 0] 68)).heap.size = w1.heap.size + 1 + 1 := by simp
    have hsy : ((w1.setCell ⟨rb, 1, none⟩ (.int .i64 (p + 1))).alloc (.cells #[.int .i64 2, .int .i64 ps, .string T, .float .f64 wt] 36)).heap.size = w1.heap.size + 1 := by simp
    have k1 : Kept (· = rb) w1 (w1.setCell ⟨rb, 1, none⟩ (.int .i64 (p + 1))) := Kept.setCell (S := (· = rb)) (Kept.refl _ _) (.inl rfl) _
    refine ⟨0, 0, u, r', by omega, rfl, ?_, ?_, ?_, RowOf.nil _ _ _ _ _ _, ?_, ?_, rfl, he, by omega⟩
    · exact heap_alloc_keep (heap_alloc_keep (heap_alloc_keep (k1.get G0.out (by omega))))
    · have := heap_alloc_this ((w1.setCell ⟨rb, 1, none⟩ (.int .i64 (p + 1))).alloc (.cells #[.int .i64 2, .int .i64 ps, .string T, .float .f64 wt] 36)) (.cells #[.int .i64 ps, .int .i64 1, .string T, .slice none 0 0, .int .u8 0] 68)
      rw [hsy] at this
      exact heap_alloc_keep this
    · rw [← hsz]
      exact heap_alloc_this _ _
    · exact (((HP.out _ _ (Kept.refl (fun _ => False) _) (fun _ h => h.elim)).alloc _).alloc _).alloc _
    · exact (((HK1.out.trans k1).alloc _).alloc _).alloc _
  case round =>
    obtain ⟨k, o, u', r2, hk, rfl, hI⟩ := hrel
    have HI := Lib.hid hI.out
    clear hI
    obtain ⟨c0, c1, c2, c5, f5, hl5⟩ := HI.out.facts
    by_cases hk3 : k = 3
    · subst hk3
      obtain ⟨d0, d1, d2, d3, d4⟩ := HI.out.ends3
      obtain ⟨e0, e1, e2, e3, e4⟩ := HI.out.ends4
      obtain ⟨g0, g1, g2, g3, g4⟩ := HI.out.ends5
      simp only [List.length_nil] at d3
      go_wp2_with fail
      refine bodyPost_ret (v := .tuple #[.agg #[.int .i64 ps, .int .i64 1, .string T, .slice none 0 0, .int .u8 o], .bool true]) (by simp [results, Try.results83, go_sem, *]) rfl ?_
      unfold wordN
      simp only [HTT.out]
      exact HI.out.post ⟨_, _, rfl⟩ (by omega) (stores5 _ _ _ _ _ _ _) _ rfl
    · by_cases ho : o = 0
      · subst ho
        obtain rfl | rfl | rfl : k = 0 ∨ k = 1 ∨ k = 2 := by omega
        · have HS := Lib.hid (HI.out.sign [63])
          cases hx : sgnB u' [63]
          · rw [hx] at HS
            simp only [Bool.false_eq_true, if_false] at HS
            have HX := Lib.hid hx
            clear hx hk3
            go_wp2_with (first | (go_at_call 72; refine HS.out.mono ?_; rintro e w2 ⟨rfl, hr2, hk2⟩; have HR2 := Lib.hid hr2; have HK2 := Lib.hid hk2; clear hr2 hk2))
            go_roundw
            case rel =>
              refine ⟨_, 0, u', r2, ?_, rfl, HI.out.no HX.out HR2.out HK2.out⟩
              exact Nat.le_of_ble_eq_true rfl
            case measure => simp [intOf]
          · rw [hx] at HS
            simp only [if_true] at HS
            have HX := Lib.hid hx
            clear hx hk3
            go_wp2_with (first | (go_at_call 72; refine HS.out.mono ?_; rintro e w2 ⟨rfl, hr2, hk2⟩; have hs2 := hk2.size; have g5 := hk2.get HI.out.blk (by omega); have c52 := cell_of_block (off := 4) g5; have f52 := free_of_block (off := 4) g5; simp only [List.getElem?_toArray, List.getElem?_cons_succ, List.getElem?_cons_zero] at c52; have HR2 := Lib.hid hr2; have HK2 := Lib.hid hk2; clear hr2 hk2 g5))
            obtain ⟨u2, r3, HF⟩ := HI.out.yes HX.out HR2.out HK2.out
            go_roundw
            case rel =>
              refine ⟨_, _, u2, r3, ?_, rfl, HF⟩
              exact Nat.le_of_ble_eq_true rfl
            case measure => simp [intOf]
        · have HS := Lib.hid (HI.out.sign [42])
          cases hx : sgnB u' [42]
          · rw [hx] at HS
            simp only [Bool.false_eq_true, if_false] at HS
            have HX := Lib.hid hx
            clear hx hk3
            go_wp2_with (first | (go_at_call 72; refine HS.out.mono ?_; rintro e w2 ⟨rfl, hr2, hk2⟩; have HR2 := Lib.hid hr2; have HK2 := Lib.hid hk2; clear hr2 hk2))
            go_roundw
            case rel =>
              refine ⟨_, 0, u', r2, ?_, rfl, HI.out.no HX.out HR2.out HK2.out⟩
              exact Nat.le_of_ble_eq_true rfl
            case measure => simp [intOf]
          · rw [hx] at HS
            simp only [if_true] at HS
            have HX := Lib.hid hx
            clear hx hk3
            go_wp2_with (first | (go_at_call 72; refine HS.out.mono ?_; rintro e w2 ⟨rfl, hr2, hk2⟩; have hs2 := hk2.size; have g5 := hk2.get HI.out.blk (by omega); have c52 := cell_of_block (off := 4) g5; have f52 := free_of_block (off := 4) g5; simp only [List.getElem?_toArray, List.getElem?_cons_succ, List.getElem?_cons_zero] at c52; have HR2 := Lib.hid hr2; have HK2 := Lib.hid hk2; clear hr2 hk2 g5))
            obtain ⟨u2, r3, HF⟩ := HI.out.yes HX.out HR2.out HK2.out
            go_roundw
            case rel =>
              refine ⟨_, _, u2, r3, ?_, rfl, HF⟩
              exact Nat.le_of_ble_eq_true rfl
            case measure => simp [intOf]
        · have HS := Lib.hid (HI.out.sign [43])
          cases hx : sgnB u' [43]
          · rw [hx] at HS
            simp only [Bool.false_eq_true, if_false] at HS
            have HX := Lib.hid hx
            clear hx hk3
            go_wp2_with (first | (go_at_call 72; refine HS.out.mono ?_; rintro e w2 ⟨rfl, hr2, hk2⟩; have HR2 := Lib.hid hr2; have HK2 := Lib.hid hk2; clear hr2 hk2))
            go_roundw
            case rel =>
              refine ⟨_, 0, u', r2, ?_, rfl, HI.out.no HX.out HR2.out HK2.out⟩
              exact Nat.le_of_ble_eq_true rfl
            case measure => simp [intOf]
          · rw [hx] at HS
            simp only [if_true] at HS
            have HX := Lib.hid hx
            clear hx hk3
            go_wp2_with (first | (go_at_call 72; refine HS.out.mono ?_; rintro e w2 ⟨rfl, hr2, hk2⟩; have hs2 := hk2.size; have g5 := hk2.get HI.out.blk (by omega); have c52 := cell_of_block (off := 4) g5; have f52 := free_of_block (off := 4) g5; simp only [List.getElem?_toArray, List.getElem?_cons_succ, List.getElem?_cons_zero] at c52; have HR2 := Lib.hid hr2; have HK2 := Lib.hid hk2; clear hr2 hk2 g5))
            obtain ⟨u2, r3, HF⟩ := HI.out.yes HX.out HR2.out HK2.out
            go_roundw
            case rel =>
              refine ⟨_, _, u2, r3, ?_, rfl, HF⟩
              exact Nat.le_of_ble_eq_true rfl
            case measure => simp [intOf]
      · have ho1 : (o == 0) = false := by simpa using ho
        have HO := Lib.hid ho
        clear ho
        obtain rfl | rfl | rfl : k = 0 ∨ k = 1 ∨ k = 2 := by omega
        all_goals
          clear hk3
          go_wp2_with fail
          go_roundw
          case rel =>
            refine ⟨_, o, u', r2, ?_, rfl, HI.out.skip HO.out⟩
            exact Nat.le_of_ble_eq_true rfl
          case measure => simp [intOf]
end Go.Proofs.Yticdihfjnmjkmaa
namespace Go.Proofs.Yticdihfjnmjkmaa
open Go.RowKit
attribute [local go_sem] run_store_float
/-- What reads alternatives, of at most so many words. -/
def AltsAny (n : Nat) : Prop := ∀ d l o, d ≤ 16 → Ps .alts d l o → Ends l → l.length ≤ n → ∀ w rb, RD w rb l d → Calls Try.prog 57 #[.pointer (some ⟨rb, 0, none⟩)] w (AltsPost rb d o w)
set_option maxRecDepth 100000 in
theorem item_deep {w : World} {rb : Nat} {t : Tok} {r : List Tok} (h : RD w rb (t :: r) 16) (hs : sgnB t [40] = true) :
    Calls Try.prog 83 #[.pointer (some ⟨rb, 0, none⟩)] w (ItemPost rb 16 (.err 6 t.pos) w) := by
  have hk := sgn_kind hs
  have ht := sgn_text hs
  have HN := fun o => Lib.hid (now_rd (h.alloc o))
  have HR := fun o => Lib.hid (h.alloc o)
  have hlt := h.lt
  clear h
  unfold tokC at HN
  obtain ⟨kd, ps, tx, wt⟩ := t
  simp only at hk ht
  subst hk ht
  simp only [show bOf [40] = ⟨#[40]⟩ from rfl] at HN
  go_enter Try.func83, Try.ntmps83
  go_wp2_with fail
  refine (HN _).out.mono ?_
  rintro e w1 ⟨rfl, hb⟩
  have hR1 := (HR _).out.below hb
  have HK1 := Lib.hid (((Kept.refl (· = rb) w).alloc (.cells #[.int .i64 0, .int .i64 0, .string ⟨#[]⟩, .slice none 0 0, .int .u8 0] 68)).trans (kept_of_below hb))
  have c2 := hR1.deep
  have HR1 := Lib.hid hR1
  have hlt1 : rb < w1.heap.size := hR1.lt
  clear hb hR1 HR HN
  go_wp2_with fail
  refine (fail_rd ((HR1.out.alloc _).alloc _) 6).mono ?_
  rintro e w2 ⟨rfl, hk2⟩
  have HK2 := Lib.hid (((HK1.out.alloc _).alloc _).trans hk2)
  clear hk2
  go_wp2_with fail
  exact ⟨rfl, rfl, HK2.out⟩
/-- What becomes of a group's piece. -/
inductive ItemOut (t : Tok) : Out → Out → Prop
  | err {e p} : ItemOut t (.err e p) (.err e p)
  | close {ks u r'} : sgnB u [41] = false → ItemOut t (.ok ks (u :: r')) (.err 5 u.pos)
  | ok {ks u r'} : sgnB u [41] = true → ItemOut t (.ok ks (u :: r')) (.ok [groupN t (opP r').1 ks] (opP r').2)
theorem hp_ends {d : Nat} {r : List Tok} {ns : List PN} {u : Tok} {r' : List Tok} (h : Ps .alts d r (.ok ns (u :: r'))) (he : Ends r) : Ends (u :: r') ∧ (u :: r').length ≤ r.length ∧ (u.kind ≠ 0 → Ends r') := by
  obtain ⟨a, b, _⟩ := h.res he _ _ rfl
  exact ⟨a, b, fun hk => a.tail hk⟩
set_option maxRecDepth 100000 in
theorem item_group {n : Nat} (HA : AltsAny n) {w : World} {rb : Nat} {t : Tok} {r : List Tok} {d : Nat} (h : RD w rb (t :: r) d) (hs : sgnB t [40] = true) (hd : d ≠ 16) (hd16 : d ≤ 16) {o : Out} (hp : Ps .alts (d + 1) r o) (he : Ends r) (hn : r.length ≤ n) {o' : Out} (ho : ItemOut t o o') :
    Calls Try.prog 83 #[.pointer (some ⟨rb, 0, none⟩)] w (ItemPost rb d o' w) := by
  have hk := sgn_kind hs
  have ht := sgn_text hs
  have HN := fun o => Lib.hid (now_rd (h.alloc o))
  have HR := fun o => Lib.hid (h.alloc o)
  have hlt := h.lt
  clear h
  unfold tokC at HN
  obtain ⟨kd, ps, tx, wt⟩ := t
  simp only at hk ht
  subst hk ht
  simp only [show bOf [40] = ⟨#[40]⟩ from rfl] at HN
  have hd1 : ((d : Int) == 16) = false := by simpa using (by omega : (d : Int) ≠ 16)
  have HAL := Lib.hid HA
  have hdl : d < 16 := by omega
  clear hs hd HA hd16
  go_enter Try.func83, Try.ntmps83
  go_wp2_with fail
  refine (HN _).out.mono ?_
  rintro e w1 ⟨rfl, hb⟩
  have hR1 := (HR _).out.below hb
  have HK1 := Lib.hid (((Kept.refl (· = rb) w).alloc (.cells #[.int .i64 0, .int .i64 0, .string ⟨#[]⟩, .slice none 0 0, .int .u8 0] 68)).trans (kept_of_below hb))
  have hw1 := hb.size
  simp only [World.size_alloc] at hw1
  have hwl : w.heap.size < w1.heap.size := (by omega)
  have hwn : w.heap.size ≠ w1.heap.size := (by omega)
  have g0 := hb.block w.heap.size (by simp only [World.size_alloc]; omega)
  rw [heap_alloc_this] at g0
  have G0 := Lib.hid g0
  obtain ⟨p, hp1, c1, hP⟩ := hR1.turn
  have f1 := hR1.free 1
  have f2 := hR1.free 2
  have c2 := hR1.deep
  have hlt1 : rb < w1.heap.size := hR1.lt
  have HP := Lib.hid hP
  clear hb g0 hP hR1 HR HN
  go_wp2_with fail
  obtain ⟨W2, hW2⟩ : ∃ W2, W2 = ((((w1.setCell ⟨rb, 1, none⟩ (.int .i64 (p + 1))).setCell ⟨rb, 2, none⟩ (.int .i64 (d + 1))).alloc (.cells #[.int .i64 4, .int .i64 ps, .string ⟨#[40]⟩, .float .f64 wt] 36)).alloc (.cells #[.int .i64 ps, .int .i64 0, .string ⟨#[40]⟩, .slice none 0 0, .int .u8 0] 68)) := ⟨_, rfl⟩
  have hs2 : W2.heap.size = w1.heap.size + 2 := by rw [hW2]; simp
  have k1 : Kept (· = rb) w1 ((w1.setCell ⟨rb, 1, none⟩ (.int .i64 (p + 1))).setCell ⟨rb, 2, none⟩ (.int .i64 (d + 1))) := Kept.setCell (S := (· = rb)) (Kept.setCell (S := (· = rb)) (Kept.refl _ _) (.inl rfl) _) (.inl rfl) _
  have hR2 : RD W2 rb r (d + 1) := by
    rw [hW2]
    exact (((HP.out _ _ (Kept.refl (fun _ => False) _) (fun _ h => h.elim)).dive (d + 1)).alloc _).alloc _
  have hK2 : Kept (· = rb) w W2 := by
    rw [hW2]
    exact ((HK1.out.trans k1).alloc _).alloc _
  have hg2 : W2.heap[w.heap.size]? = some (.cells #[.int .i64 0, .int .i64 0, .string ⟨#[]⟩, .slice none 0 0, .int .u8 0] 68 (0, 0)) := by
    rw [hW2]
    exact heap_alloc_keep (heap_alloc_keep (k1.get G0.out (by omega)))
  have hg5 : W2.heap[w1.heap.size + 1]? = some (.cells #[.int .i64 ps, .int .i64 0, .string ⟨#[40]⟩, .slice none 0 0, .int .u8 0] 68 (0, 0)) := by
    have := heap_alloc_this (((w1.setCell ⟨rb, 1, none⟩ (.int .i64 (p + 1))).setCell ⟨rb, 2, none⟩ (.int .i64 (d + 1))).alloc (.cells #[.int .i64 4, .int .i64 ps, .string ⟨#[40]⟩, .float .f64 wt] 36)) (.cells #[.int .i64 ps, .int .i64 0, .string ⟨#[40]⟩, .slice none 0 0, .int .u8 0] 68)
    rw [show (((w1.setCell ⟨rb, 1, none⟩ (.int .i64 (p + 1))).setCell ⟨rb, 2, none⟩ (.int .i64 (d + 1))).alloc (.cells #[.int .i64 4, .int .i64 ps, .string ⟨#[40]⟩, .float .f64 wt] 36)).heap.size = w1.heap.size + 1 by simp] at this
    rw [hW2]
    exact this
  rw [← hW2]
  refine (HAL.out (d + 1) r o (by omega) hp he hn W2 rb hR2).mono ?_
  have HK2 := Lib.hid hK2
  have HG2 := Lib.hid hg2
  have HG5 := Lib.hid hg5
  have hs2' : w1.heap.size + 2 ≤ W2.heap.size := by omega
  clear hW2 k1 hR2 hK2 hg2 hg5 HP c1 c2 f1 f2 G0 HK1
  cases ho with
  | err =>
    rintro e w3 ⟨rfl, hk3⟩
    have HK3 := Lib.hid hk3
    clear hk3
    go_wp2_with fail
    exact ⟨rfl, rfl, HK2.out.trans HK3.out⟩
  | @close ks u r' hc =>
    rintro e w3 ⟨a, c, ms, rfl, rfl, hrow, hrd, hk3⟩
    have g5 := hk3.get HG5.out (by omega)
    obtain ⟨e0, e1, e2, e3, e4⟩ := blk5 g5
    obtain ⟨f0, f1, f2, f3, f4⟩ := blk5f g5
    have c2 := hrd.deep
    have fr := hrd.free 2
    simp only [Int.natCast_add, Int.cast_ofNat_Int] at c2
    have hl3 := hk3.size
    have h35 : w1.heap.size + 1 < w3.heap.size := by omega
    have h3r : rb < w3.heap.size := by omega
    have G5 := Lib.hid g5
    have HRD := Lib.hid hrd
    have HROW := Lib.hid hrow
    have HK3 := Lib.hid hk3
    clear g5 hrd hrow hk3 HG5 hs2
    go_wp2_with fail
    have kS : Kept (· = w1.heap.size + 1) w3 (((w3.setCell ⟨w1.heap.size + 1, 1, none⟩ (.int .i64 2)).setCell ⟨w1.heap.size + 1, 2, none⟩ (.string ⟨#[]⟩)).setCell ⟨w1.heap.size + 1, 3, none⟩ (.slice a ms.length c)) := Kept.setCell (S := (· = w1.heap.size + 1)) (Kept.setCell (S := (· = w1.heap.size + 1)) (Kept.setCell (S := (· = w1.heap.size + 1)) (Kept.refl _ _) (.inl rfl) _) (.inl rfl) _) (.inl rfl) _
    have kD : ∀ W v, Kept (· = rb) W (World.setCell W ⟨rb, 2, none⟩ v) := fun W v => Kept.setCell (S := (· = rb)) (Kept.refl _ _) (.inl rfl) v
    have hR4 := (HRD.out.kept kS (fun k hk => by omega)).dive d
    have hK4 : Kept (· = rb) w ((((w3.setCell ⟨w1.heap.size + 1, 1, none⟩ (.int .i64 2)).setCell ⟨w1.heap.size + 1, 2, none⟩ (.string ⟨#[]⟩)).setCell ⟨w1.heap.size + 1, 3, none⟩ (.slice a ms.length c)).setCell ⟨rb, 2, none⟩ (.int .i64 d)) := ((HK2.out.trans HK3.out).then kS (fun _ _ h => h) (fun i hi h => by omega)).trans (kD _ _)
    have HW := Lib.hid (want_rd hR4 [41])
    unfold WantP at HW
    rw [hc] at HW
    have HK4 := Lib.hid hK4
    simp only [Bool.false_eq_true, if_false] at HW
    clear kS kD hR4 hK4
    refine HW.out.mono ?_
    rintro e w5 ⟨rfl, hk5⟩
    have HK5 := Lib.hid (HK4.out.trans hk5)
    clear hk5
    go_wp2_with fail
    exact ⟨rfl, rfl, HK5.out⟩
  | @ok ks u r' hc =>
    rintro e w3 ⟨a, c, ms, rfl, rfl, hrow, hrd, hk3⟩
    have g5 := hk3.get HG5.out (by omega)
    obtain ⟨e0, e1, e2, e3, e4⟩ := blk5 g5
    obtain ⟨f0, f1, f2, f3, f4⟩ := blk5f g5
    have c2 := hrd.deep
    have fr := hrd.free 2
    simp only [Int.natCast_add, Int.cast_ofNat_Int] at c2
    have hl3 := hk3.size
    have h35 : w1.heap.size + 1 < w3.heap.size := by omega
    have h3r : rb < w3.heap.size := by omega
    have G5 := Lib.hid g5
    have HRD := Lib.hid hrd
    have HROW := Lib.hid hrow
    have HK3 := Lib.hid hk3
    clear g5 hrd hrow hk3 HG5
    go_wp2_with fail
    have kS : Kept (· = w1.heap.size + 1) w3 (((w3.setCell ⟨w1.heap.size + 1, 1, none⟩ (.int .i64 2)).setCell ⟨w1.heap.size + 1, 2, none⟩ (.string ⟨#[]⟩)).setCell ⟨w1.heap.size + 1, 3, none⟩ (.slice a ms.length c)) := Kept.setCell (S := (· = w1.heap.size + 1)) (Kept.setCell (S := (· = w1.heap.size + 1)) (Kept.setCell (S := (· = w1.heap.size + 1)) (Kept.refl _ _) (.inl rfl) _) (.inl rfl) _) (.inl rfl) _
    have kD : ∀ W v, Kept (· = rb) W (World.setCell W ⟨rb, 2, none⟩ v) := fun W v => Kept.setCell (S := (· = rb)) (Kept.refl _ _) (.inl rfl) v
    have hR4 := (HRD.out.kept kS (fun k hk => by omega)).dive d
    have hK4 : Kept (· = rb) w ((((w3.setCell ⟨w1.heap.size + 1, 1, none⟩ (.int .i64 2)).setCell ⟨w1.heap.size + 1, 2, none⟩ (.string ⟨#[]⟩)).setCell ⟨w1.heap.size + 1, 3, none⟩ (.slice a ms.length c)).setCell ⟨rb, 2, none⟩ (.int .i64 d)) := ((HK2.out.trans HK3.out).then kS (fun _ _ h => h) (fun i hi h => by omega)).trans (kD _ _)
    have HW := Lib.hid (want_rd hR4 [41])
    unfold WantP at HW
    rw [hc] at HW
    have HK4 := Lib.hid hK4
    simp only [if_true] at HW
    have hg4 : ((((w3.setCell ⟨w1.heap.size + 1, 1, none⟩ (.int .i64 2)).setCell ⟨w1.heap.size + 1, 2, none⟩ (.string ⟨#[]⟩)).setCell ⟨w1.heap.size + 1, 3, none⟩ (.slice a ms.length c)).setCell ⟨rb, 2, none⟩ (.int .i64 d)).heap[w1.heap.size + 1]? = some (.cells #[.int .i64 ps, .int .i64 2, .string ⟨#[]⟩, .slice a ms.length c, .int .u8 0] 68 (0, 0)) := by
      refine (kD _ _).get ?_ (by omega)
      have q1 := heap_setCell_known (off := 1) (u := .int .i64 2) G5.out
      have q2 := heap_setCell_known (off := 2) (u := .string ⟨#[]⟩) q1
      have q3 := heap_setCell_known (off := 3) (u := .slice a ms.length c) q2
      simpa using q3
    have hr4 : RowOf _ W2.heap.size 66 3 68 5 (.slice a ms.length c) ms := (HROW.out.go kS (fun k hk => by omega)).go (kD _ (.int .i64 d)) (fun k hk => by omega)
    have hb4 := (kD _ (.int .i64 d)).get (kS.get (HK3.out.get HG2.out (by omega)) (by omega)) (by omega)
    have HG4 := Lib.hid hg4
    have HR4 := Lib.hid hr4
    have HB4 := Lib.hid hb4
    have hs4 : ((((w3.setCell ⟨w1.heap.size + 1, 1, none⟩ (.int .i64 2)).setCell ⟨w1.heap.size + 1, 2, none⟩ (.string ⟨#[]⟩)).setCell ⟨w1.heap.size + 1, 3, none⟩ (.slice a ms.length c)).setCell ⟨rb, 2, none⟩ (.int .i64 d)).heap.size = w3.heap.size := by simp
    refine HW.out.mono ?_
    rintro e w5 ⟨rfl, hr5, hk5⟩
    have hs5 := hk5.size
    rw [hs4] at hs5
    obtain ⟨_, _, hrx⟩ := hp_ends hp he
    have he5 : Ends r' := hrx (by rw [sgn_kind hc]; decide)
    obtain ⟨u, r', rfl⟩ := he5.ne
    have hI0 : OpsInv w (w5.alloc (.cells #[.int .u8 63, .int .u8 42, .int .u8 43] 5 (3, 4))) rb d w.heap.size (w1.heap.size + 1) w5.heap.size W2.heap.size ps 2 ⟨#[]⟩ a c ms (u :: r') 0 0 u r' :=
      ⟨heap_alloc_keep (hk5.get HB4.out (by omega)), heap_alloc_keep (hk5.get HG4.out (by omega)), heap_alloc_this _ _, (HR4.out.go hk5 (fun k hk => by omega)).go ((Kept.refl (fun _ => False) _).alloc _) (fun _ h => h.elim), hr5.alloc _, (HK4.out.trans hk5).alloc _, rfl, he5, by omega⟩
    have HI0 := Lib.hid hI0
    have kc := fun (W : World) (hg : w5.heap.size = W.heap.size) => Joins.run_convert_bytes_const_at (P := Try.prog) W 37 5 #[.int .u8 63, .int .u8 42, .int .u8 43] 3 3 _ hg Try.underlying37 Try.underlying5
    clear kS kD hR4 hK4 hg4 hr4 hb4 hs4 hr5 hk5 hI0 e0 e1 e2 e3 e4 f0 f1 f2 f3 f4 c2 fr hrx
    go_wp2_with fail
    go_loopw [86] (fun i wr => ∃ (k : Nat) (o : Int) (u' : Tok) (r2 : List Tok), k ≤ 3 ∧ i = .int .i64 k ∧ Hid (OpsInv w wr rb d w.heap.size (w1.heap.size + 1) w5.heap.size W2.heap.size ps 2 ⟨#[]⟩ a c ms (u :: r') k o u' r2)) (fun i _ => 3 - (intOf i).toNat)
    case atStart => exact ⟨0, 0, u, r', by omega, rfl, HI0.out⟩
    case round =>
      obtain ⟨k, o, u', r2, hk, rfl, hI⟩ := hrel
      have HI := Lib.hid hI.out
      clear hI
      obtain ⟨c0, c1, c2, c5, f5, hl5⟩ := HI.out.facts
      by_cases hk3 : k = 3
      · subst hk3
        obtain ⟨d0, d1, d2, d3, d4⟩ := HI.out.ends3
        obtain ⟨e0, e1, e2, e3, e4⟩ := HI.out.ends4
        obtain ⟨g0, g1, g2, g3, g4⟩ := HI.out.ends5
        go_wp2_with fail
        refine bodyPost_ret (v := .tuple #[.agg #[.int .i64 ps, .int .i64 2, .string ⟨#[]⟩, .slice a ms.length c, .int .u8 o], .bool true]) (by simp [results, Try.results83, go_sem, *]) rfl ?_
        unfold groupN
        exact HI.out.post ⟨_, _, rfl⟩ (by have := HK2.out.size; omega) (stores5 _ _ _ _ _ _ _) _ rfl
      · by_cases ho : o = 0
        · subst ho
          obtain rfl | rfl | rfl : k = 0 ∨ k = 1 ∨ k = 2 := by omega
          · have HS := Lib.hid (HI.out.sign [63])
            cases hx : sgnB u' [63]
            · rw [hx] at HS
              simp only [Bool.false_eq_true, if_false] at HS
              have HX := Lib.hid hx
              clear hx hk3
              go_wp2_with (first | (go_at_call 72; refine HS.out.mono ?_; rintro e w2 ⟨rfl, hr2, hk2⟩; have HR2 := Lib.hid hr2; have HK2 := Lib.hid hk2; clear hr2 hk2))
              go_roundw
              case rel =>
                refine ⟨_, 0, u', r2, ?_, rfl, HI.out.no HX.out HR2.out HK2.out⟩
                exact Nat.le_of_ble_eq_true rfl
              case measure => simp [intOf]
            · rw [hx] at HS
              simp only [if_true] at HS
              have HX := Lib.hid hx
              clear hx hk3
              go_wp2_with (first | (go_at_call 72; refine HS.out.mono ?_; rintro e w2 ⟨rfl, hr2, hk2⟩; have hs2 := hk2.size; have g5 := hk2.get HI.out.blk (by omega); have c52 := cell_of_block (off := 4) g5; have f52 := free_of_block (off := 4) g5; simp only [List.getElem?_toArray, List.getElem?_cons_succ, List.getElem?_cons_zero] at c52; have HR2 := Lib.hid hr2; have HK2 := Lib.hid hk2; clear hr2 hk2 g5))
              obtain ⟨u2, r3, HF⟩ := HI.out.yes HX.out HR2.out HK2.out
              go_roundw
              case rel =>
                refine ⟨_, _, u2, r3, ?_, rfl, HF⟩
                exact Nat.le_of_ble_eq_true rfl
              case measure => simp [intOf]
          · have HS := Lib.hid (HI.out.sign [42])
            cases hx : sgnB u' [42]
            · rw [hx] at HS
              simp only [Bool.false_eq_true, if_false] at HS
              have HX := Lib.hid hx
              clear hx hk3
              go_wp2_with (first | (go_at_call 72; refine HS.out.mono ?_; rintro e w2 ⟨rfl, hr2, hk2⟩; have HR2 := Lib.hid hr2; have HK2 := Lib.hid hk2; clear hr2 hk2))
              go_roundw
              case rel =>
                refine ⟨_, 0, u', r2, ?_, rfl, HI.out.no HX.out HR2.out HK2.out⟩
                exact Nat.le_of_ble_eq_true rfl
              case measure => simp [intOf]
            · rw [hx] at HS
              simp only [if_true] at HS
              have HX := Lib.hid hx
              clear hx hk3
              go_wp2_with (first | (go_at_call 72; refine HS.out.mono ?_; rintro e w2 ⟨rfl, hr2, hk2⟩; have hs2 := hk2.size; have g5 := hk2.get HI.out.blk (by omega); have c52 := cell_of_block (off := 4) g5; have f52 := free_of_block (off := 4) g5; simp only [List.getElem?_toArray, List.getElem?_cons_succ, List.getElem?_cons_zero] at c52; have HR2 := Lib.hid hr2; have HK2 := Lib.hid hk2; clear hr2 hk2 g5))
              obtain ⟨u2, r3, HF⟩ := HI.out.yes HX.out HR2.out HK2.out
              go_roundw
              case rel =>
                refine ⟨_, _, u2, r3, ?_, rfl, HF⟩
                exact Nat.le_of_ble_eq_true rfl
              case measure => simp [intOf]
          · have HS := Lib.hid (HI.out.sign [43])
            cases hx : sgnB u' [43]
            · rw [hx] at HS
              simp only [Bool.false_eq_true, if_false] at HS
              have HX := Lib.hid hx
              clear hx hk3
              go_wp2_with (first | (go_at_call 72; refine HS.out.mono ?_; rintro e w2 ⟨rfl, hr2, hk2⟩; have HR2 := Lib.hid hr2; have HK2 := Lib.hid hk2; clear hr2 hk2))
              go_roundw
              case rel =>
                refine ⟨_, 0, u', r2, ?_, rfl, HI.out.no HX.out HR2.out HK2.out⟩
                exact Nat.le_of_ble_eq_true rfl
              case measure => simp [intOf]
            · rw [hx] at HS
              simp only [if_true] at HS
              have HX := Lib.hid hx
              clear hx hk3
              go_wp2_with (first | (go_at_call 72; refine HS.out.mono ?_; rintro e w2 ⟨rfl, hr2, hk2⟩; have hs2 := hk2.size; have g5 := hk2.get HI.out.blk (by omega); have c52 := cell_of_block (off := 4) g5; have f52 := free_of_block (off := 4) g5; simp only [List.getElem?_toArray, List.getElem?_cons_succ, List.getElem?_cons_zero] at c52; have HR2 := Lib.hid hr2; have HK2 := Lib.hid hk2; clear hr2 hk2 g5))
              obtain ⟨u2, r3, HF⟩ := HI.out.yes HX.out HR2.out HK2.out
              go_roundw
              case rel =>
                refine ⟨_, _, u2, r3, ?_, rfl, HF⟩
                exact Nat.le_of_ble_eq_true rfl
              case measure => simp [intOf]
        · have ho1 : (o == 0) = false := by simpa using ho
          have HO := Lib.hid ho
          clear ho
          obtain rfl | rfl | rfl : k = 0 ∨ k = 1 ∨ k = 2 := by omega
          all_goals
            clear hk3
            go_wp2_with fail
            go_roundw
            case rel =>
              refine ⟨_, o, u', r2, ?_, rfl, HI.out.skip HO.out⟩
              exact Nat.le_of_ble_eq_true rfl
            case measure => simp [intOf]
end Go.Proofs.Yticdihfjnmjkmaa
