/- The law's copy of alternatives. -/
import Derived.Test.YticdihfjnmjkmaaRr10
import Derived.Deep.RegionLaw
namespace Go.Proofs.Yticdihfjnmjkmaa
open Go.RowKit
def headOK (b : Bool) (pre post : List Value) : Prop :=
  if b = true then ∃ a f : Nat, pre = [.int .i64 a, .float .f64 f] ∧ post = [] else ∃ (a : Nat) (kd op : Int) (tx : ByteArray), pre = [.int .i64 a, .int .i64 kd, .string tx] ∧ post = [.int .u8 op]
mutual
/-- An alternative (true), or a piece. -/
def PN.Form : Bool → PN → Prop
  | b, .node pre post kids => headOK b pre post ∧ PN.FormL (!b) kids
def PN.FormL : Bool → List PN → Prop
  | _, [] => True
  | b, k :: ks => PN.Form b k ∧ PN.FormL b ks
end
theorem PN.formL_iff {b : Bool} {ks : List PN} : PN.FormL b ks ↔ ∀ k ∈ ks, PN.Form b k := by
  induction ks with
  | nil => simp [PN.FormL]
  | cons k ks ih => simp [PN.FormL, ih]
theorem PN.formL_append {b : Bool} {x y : List PN} (h : PN.FormL b x) (k : PN.FormL b y) : PN.FormL b (x ++ y) := by
  rw [PN.formL_iff] at *
  intro n hn
  rcases List.mem_append.1 hn with hn | hn
  · exact h n hn
  · exact k n hn
def Ph.alt? : Ph → Bool | .items => false | .item => false | _ => true
theorem ps_forms {ph : Ph} {d : Nat} {l : List Tok} {o : Out} (h : Ps ph d l o) : ∀ ns r, o = .ok ns r → PN.FormL ph.alt? ns := by
  induction h with
  | alts h1 h2 i1 i2 =>
    intro ns r ho
    obtain ⟨ns', rfl, rfl⟩ := pres_ok ho
    exact PN.formL_append (i1 _ _ rfl) (i2 _ _ rfl)
  | alts_err => intro ns r ho; cases ho
  | more_nil => intro ns r ho; cases ho; exact trivial
  | more hs h1 h2 i1 i2 =>
    intro ns r ho
    obtain ⟨ns', rfl, rfl⟩ := pres_ok ho
    exact PN.formL_append (i1 _ _ rfl) (i2 _ _ rfl)
  | more_err => intro ns r ho; cases ho
  | alt h1 i1 =>
    intro ns r ho
    obtain ⟨ns', rfl, rfl⟩ := alt_ok ho
    exact ⟨⟨⟨_, _, rfl, rfl⟩, i1 _ _ rfl⟩, trivial⟩
  | items_nil => intro ns r ho; cases ho; exact trivial
  | items hs h1 h2 i1 i2 =>
    intro ns r ho
    obtain ⟨ns', rfl, rfl⟩ := pres_ok ho
    exact PN.formL_append (i1 _ _ rfl) (i2 _ _ rfl)
  | items_err => intro ns r ho; cases ho
  | word => intro ns r ho; cases ho; exact ⟨⟨⟨_, _, _, _, rfl, rfl⟩, trivial⟩, trivial⟩
  | deep => intro ns r ho; cases ho
  | group_err => intro ns r ho; cases ho
  | close => intro ns r ho; cases ho
  | group hs hd h1 hc i1 => intro ns r ho; cases ho; exact ⟨⟨⟨_, _, _, _, rfl, rfl⟩, i1 _ _ rfl⟩, trivial⟩
theorem pd_forms {l : List Tok} {ns : List PN} {r : List Tok} (h : Pd l (.ok ns r)) : ∃ t ks, ns = [defN t ks] ∧ PN.FormL true ks := by
  cases h with
  | ok h1 h2 h3 h4 => exact ⟨_, _, rfl, ps_forms h3 _ _ rfl⟩
theorem pds_forms {b : Bool} {l : List Tok} {o : Out} (h : Pds b l o) : ∀ ns r, o = .ok ns r → ∀ n ∈ ns, ∃ t ks, n = defN t ks ∧ PN.FormL true ks := by
  induction h with
  | nil => intro ns r ho; cases ho; simp
  | err => intro ns r ho; cases ho
  | one h1 h2 h3 ih =>
    intro ns r ho
    obtain ⟨ns', rfl, rfl⟩ := pres_ok ho
    intro n hn
    rcases List.mem_append.1 hn with hn | hn
    · obtain ⟨t, ks, rfl, hf⟩ := pd_forms h2
      obtain rfl := List.mem_singleton.1 hn
      exact ⟨t, ks, rfl, hf⟩
    · exact ih _ _ rfl n hn
mutual
/-- No list in it is long. -/
def PN.Few (N : Nat) : PN → Prop
  | .node _ _ kids => kids.length ≤ N ∧ PN.FewL N kids
def PN.FewL (N : Nat) : List PN → Prop
  | [] => True
  | k :: ks => PN.Few N k ∧ PN.FewL N ks
end
theorem PN.fewL_iff {N : Nat} {ks : List PN} : PN.FewL N ks ↔ ∀ k ∈ ks, PN.Few N k := by
  induction ks with
  | nil => simp [PN.FewL]
  | cons k ks ih => simp [PN.FewL, ih]
theorem PN.fewL_append {N : Nat} {x y : List PN} (h : PN.FewL N x) (k : PN.FewL N y) : PN.FewL N (x ++ y) := by
  rw [PN.fewL_iff] at *
  intro n hn
  rcases List.mem_append.1 hn with hn | hn
  · exact h n hn
  · exact k n hn
def Ph.b : Ph → Nat | .alts => 1 | .alt => 1 | _ => 0
theorem ps_few {N : Nat} {ph : Ph} {d : Nat} {l : List Tok} {o : Out} (h : Ps ph d l o) : Ends l → l.length < N → ∀ ns r, o = .ok ns r → ns.length + r.length ≤ l.length + ph.b ∧ PN.FewL N ns := by
  induction h with
  | alts h1 h2 i1 i2 =>
    intro he hn ns r ho
    obtain ⟨ns', rfl, rfl⟩ := pres_ok ho
    obtain ⟨a1, a2, _⟩ := h1.res he _ _ rfl
    obtain ⟨b1, b2⟩ := i1 he hn _ _ rfl
    obtain ⟨c1, c2⟩ := i2 a1 (by omega) _ _ rfl
    simp only [Ph.b] at *
    exact ⟨by simp only [List.length_append]; omega, PN.fewL_append b2 c2⟩
  | alts_err => intro he hn ns r ho; cases ho
  | more_nil => intro he hn ns r ho; cases ho; exact ⟨by simp [Ph.b], trivial⟩
  | more hs h1 h2 i1 i2 =>
    intro he hn ns r ho
    obtain ⟨ns', rfl, rfl⟩ := pres_ok ho
    have her := he.tail (by rw [sgn_kind hs]; decide)
    simp only [List.length_cons] at hn
    obtain ⟨a1, a2, _⟩ := h1.res her _ _ rfl
    obtain ⟨b1, b2⟩ := i1 her (by omega) _ _ rfl
    obtain ⟨c1, c2⟩ := i2 a1 (by omega) _ _ rfl
    simp only [Ph.b] at *
    exact ⟨by simp only [List.length_append, List.length_cons]; omega, PN.fewL_append b2 c2⟩
  | more_err => intro he hn ns r ho; cases ho
  | @alt d t r' o h1 i1 =>
    intro he hn ns r ho
    obtain ⟨ns', rfl, rfl⟩ := alt_ok ho
    have h2 : Ends (if t.kind = 3 then r' else t :: r') ∧ (if t.kind = 3 then r' else t :: r').length ≤ (t :: r').length := by
      split
      · rename_i hk; exact ⟨he.tail (by omega), by simp⟩
      · exact ⟨he, Nat.le_refl _⟩
    obtain ⟨b1, b2⟩ := i1 h2.1 (by omega) _ _ rfl
    simp only [Ph.b, List.length_cons, List.length_nil] at *
    exact ⟨by omega, ⟨by omega, b2⟩, trivial⟩
  | items_nil => intro he hn ns r ho; cases ho; exact ⟨by simp [Ph.b], trivial⟩
  | items hs h1 h2 i1 i2 =>
    intro he hn ns r ho
    obtain ⟨ns', rfl, rfl⟩ := pres_ok ho
    obtain ⟨a1, a2, _⟩ := h1.res he _ _ rfl
    obtain ⟨b1, b2⟩ := i1 he hn _ _ rfl
    obtain ⟨c1, c2⟩ := i2 a1 (by omega) _ _ rfl
    simp only [Ph.b] at *
    exact ⟨by simp only [List.length_append, List.length_cons] at *; omega, PN.fewL_append b2 c2⟩
  | items_err => intro he hn ns r ho; cases ho
  | @word d t r' hk =>
    intro he hn ns r ho; cases ho
    obtain ⟨a1, a2⟩ := opP_ends (he.tail (by omega))
    exact ⟨by simp only [List.length_cons, List.length_nil]; omega, ⟨Nat.zero_le _, trivial⟩, trivial⟩
  | deep => intro he hn ns r ho; cases ho
  | group_err => intro he hn ns r ho; cases ho
  | close => intro he hn ns r ho; cases ho
  | @group d t r' ks u r2 hs hd h1 hc i1 =>
    intro he hn ns r ho; cases ho
    have her := he.tail (by rw [sgn_kind hs]; decide)
    simp only [List.length_cons] at hn
    obtain ⟨a1, a2, _⟩ := h1.res her _ _ rfl
    obtain ⟨b1, b2⟩ := opP_ends (a1.tail (by rw [sgn_kind hc]; decide))
    obtain ⟨c1, c2⟩ := i1 her (by omega) _ _ rfl
    simp only [Ph.b, List.length_cons, List.length_nil] at *
    exact ⟨by omega, ⟨by omega, c2⟩, trivial⟩
theorem pds_few {N : Nat} {b : Bool} {l : List Tok} {o : Out} (h : Pds b l o) : Ends l → l.length < N → ∀ ns r, o = .ok ns r → PN.FewL N ns := by
  induction h with
  | nil => intro he hn ns r ho; cases ho; exact trivial
  | err => intro he hn ns r ho; cases ho
  | one h1 h2 h3 ih =>
    intro he hn ns r ho
    obtain ⟨ns', rfl, rfl⟩ := pres_ok ho
    obtain ⟨a1, a2⟩ := h2.res he _ _ rfl
    refine PN.fewL_append ?_ (ih a1 (by omega) _ _ rfl)
    cases h2 with
    | ok hk hu ha hx =>
      have e1 := he.tail (by omega)
      have e2 := e1.tail (by rw [sgn_kind hu]; decide)
      simp only [List.length_cons] at hn
      obtain ⟨c1, c2⟩ := ps_few (N := N) ha e2 (by omega) _ _ rfl
      simp only [Ph.b, List.length_cons] at c1
      exact ⟨⟨by omega, c2⟩, trivial⟩
/-- Trees in memory of a form. -/
theorem form_alt {m : MN} (h : PN.Form true m.pn) : ∃ (a f : Nat) (v : Value) (kids : List MN), m = .node [.int .i64 a, .float .f64 f] [] v kids ∧ PN.FormL false (kids.map MN.pn) := by
  obtain ⟨pre, post, v, kids⟩ := m
  simp only [MN.pn, PN.Form, MN.pnL_map] at h
  obtain ⟨⟨a, f, rfl, rfl⟩, h2⟩ := h
  exact ⟨a, f, v, kids, rfl, h2⟩
theorem form_item {m : MN} (h : PN.Form false m.pn) : ∃ (a : Nat) (kd op : Int) (tx : ByteArray) (v : Value) (kids : List MN), m = .node [.int .i64 a, .int .i64 kd, .string tx] [.int .u8 op] v kids ∧ PN.FormL true (kids.map MN.pn) := by
  obtain ⟨pre, post, v, kids⟩ := m
  simp only [MN.pn, PN.Form, MN.pnL_map] at h
  obtain ⟨⟨a, kd, op, tx, rfl, rfl⟩, h2⟩ := h
  exact ⟨a, kd, op, tx, v, kids, rfl, h2⟩
theorem rowC_getN (sz : Nat) : ∀ (ms : List MN), (∀ m ∈ ms, m.cells.length = sz) → ∀ i (h : i < ms.length) j, j < sz → (rowC ms)[i * sz + j]? = (ms[i]).cells[j]?
  | [], _, i, h, _, _ => by simp at h
  | m :: ms, hs, i, h, j, hj => by
    have h0 : m.cells.length = sz := hs m (by simp)
    show (m.cells ++ rowC ms)[i * sz + j]? = _
    cases i with
    | zero =>
      rw [Nat.zero_mul, Nat.zero_add, List.getElem?_append_left (by omega)]
      rfl
    | succ i =>
      rw [Nat.succ_mul, List.getElem?_append_right (by rw [h0]; omega), h0, show i * sz + sz + j - sz = i * sz + j by omega]
      exact rowC_getN sz ms (fun m hm => hs m (List.mem_cons_of_mem _ hm)) i (by simpa using h) j hj
theorem rowC_lenN (sz : Nat) : ∀ (ms : List MN), (∀ m ∈ ms, m.cells.length = sz) → (rowC ms).length = ms.length * sz
  | [], _ => by simp [rowC]
  | m :: ms, hs => by
    show (m.cells ++ rowC ms).length = _
    rw [List.length_append, rowC_lenN sz ms (fun m hm => hs m (List.mem_cons_of_mem _ hm)), hs m (by simp), List.length_cons, Nat.succ_mul]
    omega
/-- The cells of a tree's k-th kid. -/
theorem kid_cells {w : World} {lo e sz e' sz' : Nat} {a b : List Value} {v : Value} {kids : List MN} (h : MN.At w lo e sz e' sz' (.node a b v kids)) {k : Nat} (hk : k < kids.length) :
    ∃ g cap, v = .slice (some ⟨g, 0, none⟩) kids.length cap ∧ g < w.heap.size ∧ ∀ j, j < sz → w.cell? ⟨g, k * sz + j, none⟩ = (kids[k]).cells[j]? := by
  obtain ⟨h1, h2, h3⟩ := h
  obtain ⟨g, cap, rfl, hg, hl, hc, hr⟩ := row_cells h1 (by omega)
  refine ⟨g, cap, rfl, hl, fun j hj => ?_⟩
  rw [hr _ (by rw [rowC_lenN sz kids h2]; have := Nat.mul_le_mul_right sz (show k + 1 ≤ kids.length from hk); rw [Nat.succ_mul] at this; omega)]
  exact rowC_getN sz kids h2 k hk j hj
theorem kid_at {w : World} {lo e sz e' sz' : Nat} {a b : List Value} {v : Value} {kids : List MN} (h : MN.At w lo e sz e' sz' (.node a b v kids)) {k : MN} (hk : k ∈ kids) : MN.At w lo e' sz' e sz k := MN.atL_iff.1 h.2.2 k hk
theorem at_shape {w : World} {lo e sz e' sz' : Nat} {a b : List Value} {v : Value} {kids : List MN} (h : MN.At w lo e sz e' sz' (.node a b v kids)) : ∃ x c, v = .slice x kids.length c := row_shape h.1
/-- The rows of two trees' kids lie apart. -/
def Apart (a b : MN) : Prop := ∀ g, a.sl.ownBlock = some g → b.sl.ownBlock ≠ some g
/-- What the copy gives. -/
def PlainPost (ks : List MN) (w : World) (e : Ending) (w' : World) : Prop :=
  ∃ a c ms, e = .returned (.slice a ms.length c) ∧ ms.map MN.pn = ks.map MN.pn ∧ RowOf w' w.heap.size 81 3 83 5 (.slice a ms.length c) ms ∧ Below w.heap.size w w' ∧ ms.Pairwise Apart
/-- The copies so far. -/
structure PlInv (w : World) (ms : List MN) (wr : World) (k : Nat) (is : List MN) (x : Option Addr) (cc : Nat) : Prop where
  len : is.length = k
  pns : is.map MN.pn = (ms.take k).map MN.pn
  row : RowOf wr w.heap.size 81 3 83 5 (.slice x k cc) is
  below : Below w.heap.size w wr
  sep : is.Pairwise Apart
/-- The pieces' copies so far. -/
structure PiInv (W0 : World) (A at' wt : Nat) (its : List MN) (wr : World) (j : Nat) (js : List MN) (y : Option Addr) (cy : Nat) : Prop where
  len : js.length = j
  pns : js.map MN.pn = (its.take j).map MN.pn
  blk : wr.heap[A]? = some (.cells #[.int .i64 at', .float .f64 wt, .slice y j cy] 81 (0, 0))
  row : RowOf wr (A + 1) 83 5 81 3 (.slice y j cy) js
  kept : Kept (· = A) W0 wr
  low : W0.heap.size = A + 1
theorem PiInv.drew {W0 : World} {A at' wt : Nat} {its : List MN} {wr : World} {j : Nat} {js : List MN} {y : Option Addr} {cy : Nat} (h : PiInv W0 A at' wt its wr j js y cy) : PiInv W0 A at' wt its wr.drew j js y cy :=
  ⟨h.len, h.pns, h.blk, h.row.go (S := fun _ => False) ⟨rfl, rfl, rfl, Nat.le_refl _, fun _ _ _ => rfl⟩ (fun _ h => h.elim), h.kept.drew, h.low⟩
theorem PiInv.go {W0 : World} {A at' wt : Nat} {its : List MN} {wr w1 : World} {j : Nat} {js : List MN} {y : Option Addr} {cy : Nat} (h : PiInv W0 A at' wt its wr j js y cy) (hb : Below wr.heap.size wr w1) : PiInv W0 A at' wt its w1 j js y cy :=
  ⟨h.len, h.pns, (hb.block _ (lt_of_some h.blk)).trans h.blk, h.row.go (kept_of_below (S := fun _ => False) hb) (fun _ h => h.elim), h.kept.trans (kept_of_below hb), h.low⟩
theorem PiInv.next {W0 : World} {A at' wt : Nat} {its : List MN} {wr w1 w3 : World} {j : Nat} {js : List MN} {y : Option Addr} {cy : Nat} (h : PiInv W0 A at' wt its wr j js y cy) (hj : j < its.length)
    {m : MN} (hm : m.pn = (its[j]).pn) (hma : MN.At w1 wr.heap.size 81 3 83 5 m) (hms : m.cells.length = 5) (hb : Below wr.heap.size wr w1) {o : Obj} (hgr : (w1.alloc o).grownBy w3 (Value.slice y j cy).ownBlock) {g cap : Nat}
    (hrow : w3.ownsRow (A + 1) 83 5 (.slice (some ⟨g, 0, none⟩) (j + 1) cap) (j + 1) (rowC js ++ m.cells)) (hat : (Value.slice y j cy).ownBlock = some g ∨ g = w1.heap.size + 1) :
    PiInv W0 A at' wt its (w3.setCell ⟨A, 2, none⟩ (.slice (some ⟨g, 0, none⟩) (j + 1) cap)) (j + 1) (js ++ [m]) (some ⟨g, 0, none⟩) cap := by
  obtain ⟨rfl, hpn, hblk, hrw, hkp, hlo⟩ := h
  have hs := hkp.size
  have hlb := lt_of_some hblk
  have hvl : ∀ x, (Value.slice y js.length cy).ownBlock = some x → A + 1 ≤ x ∧ x < wr.heap.size := fun x hx => row_lt hrw.row hx
  have h1 := hrw.next hma hms (kept_of_below (S := fun _ => False) hb) (fun _ h => h.elim) rfl hgr hrow hat (by omega)
  have ks : ∀ v, Kept (· = A) w3 (w3.setCell ⟨A, 2, none⟩ v) := fun v => Kept.setCell (S := (· = A)) (Kept.refl _ _) (p := ⟨A, 2, none⟩) (.inl rfl) v
  have hkg : Kept (fun k => A < k) w1 w3 := (Kept.refl _ _).alloc o |>.trans ⟨hgr.os, hgr.tape, hgr.output, hgr.size, fun k hk hs => hgr.block k hk (fun e => hs (by have := (hvl _ e.symm).1; omega))⟩
  refine ⟨by simp, by rw [List.map_append, hpn, List.take_succ_eq_append_getElem hj, List.map_append]; simp only [List.map_cons, List.map_nil, hm], ?_, ?_, ?_, hlo⟩
  · have := heap_setCell_known (off := 2) (u := .slice (some ⟨g, 0, none⟩) (js.length + 1) cap) (hkg.get ((hb.block _ hlb).trans hblk) (by omega))
    simpa using this
  · exact h1.go (ks _) (fun k hk => by have : k = A := hk; omega)
  · have : Kept (· = A) W0 w3 := (hkp.trans (kept_of_below hb)).then hkg (fun _ _ h => h) (fun i hi h => by omega)
    exact this.trans (ks _)
theorem PlInv.next {w : World} {ms : List MN} {wr : World} {k : Nat} {is : List MN} {x : Option Addr} {cc : Nat} (h : PlInv w ms wr k is x cc) (hk : k < ms.length)
    {at' wt : Nat} {v : Value} {its : List MN} (hmk : ms[k] = .node [.int .i64 at', .float .f64 wt] [] v its) {oa : Obj} {w2 : World} {js : List MN} {y : Option Addr} {cy : Nat}
    (hi : PiInv ((wr.alloc oa).alloc (.cells #[.int .i64 at', .float .f64 wt, .slice none 0 0] 81)) (wr.heap.size + 1) at' wt its w2 its.length js y cy) {w3 : World} {ob : Obj}
    (hgr : (w2.alloc ob).grownBy w3 (Value.slice x k cc).ownBlock) {g cap : Nat} (hrow : w3.ownsRow w.heap.size 81 3 (.slice (some ⟨g, 0, none⟩) (k + 1) cap) (k + 1) (rowC is ++ [.int .i64 at', .float .f64 wt, .slice y its.length cy])) (hat : (Value.slice x k cc).ownBlock = some g ∨ g = w2.heap.size + 1) :
    PlInv w ms w3 (k + 1) (is ++ [.node [.int .i64 at', .float .f64 wt] [] (.slice y its.length cy) js]) (some ⟨g, 0, none⟩) cap := by
  obtain ⟨rfl, hpn, hrw, hbw, hsep⟩ := h
  have hlo := hi.low
  simp only [World.size_alloc] at hlo
  have hs := hbw.size
  have hvl : ∀ i, (Value.slice x is.length cc).ownBlock = some i → w.heap.size ≤ i ∧ i < wr.heap.size := fun i hx => row_lt hrw.row hx
  have hk2 : Kept (fun _ => False) wr w2 := (((Kept.refl _ _).alloc oa).alloc _).then hi.kept (fun _ _ h => h) (fun i hi h => by omega)
  have hjl := hi.len
  have hm : MN.At w2 wr.heap.size 83 5 81 3 (.node [.int .i64 at', .float .f64 wt] [] (.slice y its.length cy) js) := by
    have := (hi.row.at [.int .i64 at', .float .f64 wt] []).low (lo' := wr.heap.size) (by omega)
    exact this
  have h1 := hrw.next hm rfl hk2 (fun _ h => h.elim) rfl hgr hrow hat hs
  refine ⟨by simp, ?_, h1, ?_, ?_⟩
  · rw [List.map_append, hpn, List.take_succ_eq_append_getElem hk, List.map_append, hmk]
    have hp := hi.pns
    rw [List.take_length] at hp
    simp only [List.map_cons, List.map_nil, MN.pn, MN.pnL_map, hp]
  · have hkw : Kept (fun _ => False) w w3 := ((kept_of_below (S := fun _ => False) hbw).then (hk2.alloc ob) (S'' := fun _ => False) (fun _ _ h => h) (fun i hi h => h.elim)).then (S' := fun j => w.heap.size ≤ j) ⟨hgr.os, hgr.tape, hgr.output, hgr.size, fun k hk hs => hgr.block k hk (fun e => hs (hvl _ e.symm).1)⟩ (fun _ _ h => h) (fun i hi h => by omega)
    exact hkw.below (Nat.le_refl _) (fun _ _ h => h)
  · refine List.pairwise_append.2 ⟨hsep, List.pairwise_singleton _ _, fun a ha b hb g hg hg2 => ?_⟩
    obtain rfl := List.mem_singleton.1 hb
    have h2 := (row_lt hi.row.row hg2).1
    have h3 := hrw.lies a ha
    obtain ⟨p1, p2, v1, k1⟩ := a
    have := (row_lt h3.1 hg).2
    omega
end Go.Proofs.Yticdihfjnmjkmaa
namespace Go.Proofs.Yticdihfjnmjkmaa
open Go.RowKit
attribute [local go_sem] run_store_float
def PlainAny (n : Nat) : Prop := ∀ (t : MN), _root_.SizeOf.sizeOf t ≤ n → PN.FormL true (t.kids.map MN.pn) → PN.Few 100001 t.pn → ∀ w, MN.At w 0 66 3 68 5 t → Calls Try.prog 23 #[t.sl] w (PlainPost t.kids w)
theorem Few_kid {N : Nat} {a b : List Value} {v : Value} {kids : List MN} (h : PN.Few N (MN.node a b v kids).pn) : kids.length ≤ N ∧ ∀ k ∈ kids, PN.Few N k.pn := by
  simp only [MN.pn, MN.pnL_map, PN.Few] at h
  refine ⟨by simpa using h.1, fun k hk => PN.fewL_iff.1 h.2 _ (List.mem_map_of_mem hk)⟩
theorem Form_kid {b : Bool} {kids : List MN} (h : PN.FormL b (kids.map MN.pn)) {k : MN} (hk : k ∈ kids) : PN.Form b k.pn := PN.formL_iff.1 h _ (List.mem_map_of_mem hk)
theorem pl_start (w : World) (ms : List MN) : PlInv w ms (w.alloc (.cells #[] 81)) 0 [] (some ⟨w.heap.size, 0, none⟩) 0 :=
  ⟨rfl, by simp, ⟨⟨by simp [rowC], .inr ⟨w.heap.size, 0, #[], rfl, Nat.le_refl _, heap_alloc_this _ _, Nat.le_refl _, Nat.zero_le _, by simp, by simp [rowC]⟩⟩, fun _ h => by simp at h, fun _ h => by simp at h, fun _ h => by simp at h⟩, below_one _ _, List.Pairwise.nil⟩
theorem pi_start (wr : World) (oa : Obj) (at' wt : Nat) (its : List MN) : PiInv ((wr.alloc oa).alloc (.cells #[.int .i64 at', .float .f64 wt, .slice none 0 0] 81)) (wr.heap.size + 1) at' wt its ((wr.alloc oa).alloc (.cells #[.int .i64 at', .float .f64 wt, .slice none 0 0] 81)) 0 [] none 0 :=
  ⟨rfl, by simp, heap_second _ _ _, RowOf.nil _ _ _ _ _ _, Kept.refl _ _, by simp⟩
theorem rounds_lt {t : MN} {a b : List Value} {v : Value} {ms : List MN} (ht : t = .node a b v ms) {m : MN} (hm : m ∈ ms) {a' b' : List Value} {v' : Value} {its : List MN} (hm2 : m = .node a' b' v' its) {i : MN} (hi : i ∈ its) : _root_.SizeOf.sizeOf i < _root_.SizeOf.sizeOf t := by
  subst ht hm2
  exact Nat.lt_trans (MN.size_lt hi) (MN.size_lt hm)
theorem pi_below {w wo wr : World} (h : Below w.heap.size w wo) {oa ob : Obj} {at' wt : Nat} {its : List MN} {j : Nat} {js : List MN} {y : Option Addr} {cy : Nat} (hp : PiInv ((wo.alloc oa).alloc ob) (wo.heap.size + 1) at' wt its wr j js y cy) : Below w.heap.size w wr := by
  have hs := h.size
  have h1 : Below w.heap.size w ((wo.alloc oa).alloc ob) := (h.alloc hs _).alloc (by simp only [World.size_alloc]; omega) _
  exact h1.trans (hp.kept.below (by simp only [World.size_alloc]; omega) (fun k hk hx => by omega))
theorem pl_own {w wo wr : World} {ms is : List MN} {k cc : Nat} {x : Option Addr} (h : PlInv w ms wo k is x cc) {oa ob : Obj} {at' wt : Nat} {its : List MN} {j : Nat} {js : List MN} {y : Option Addr} {cy : Nat} (hp : PiInv ((wo.alloc oa).alloc ob) (wo.heap.size + 1) at' wt its wr j js y cy) (oc : Obj) :
    (wr.alloc oc).ownsRow w.heap.size 81 3 (.slice x k cc) k (rowC is) := by
  obtain ⟨rfl, hpn, hrw, hbw, _⟩ := h
  have hk2 : Kept (fun _ => False) wo wr := (((Kept.refl _ _).alloc oa).alloc _).then hp.kept (fun _ _ h => h) (fun i hi h => by omega)
  exact (hrw.go hk2 (fun _ h => h.elim)).row.alloc _
theorem PiInv.own {W0 : World} {A at' wt : Nat} {its : List MN} {wr w1 : World} {j : Nat} {js : List MN} {y : Option Addr} {cy : Nat} (h : PiInv W0 A at' wt its wr j js y cy) (hb : Below wr.heap.size wr w1) (oc : Obj) : (w1.alloc oc).ownsRow (A + 1) 83 5 (.slice y j cy) j (rowC js) := by
  obtain ⟨rfl, _, _, hrw, _, _⟩ := h
  exact (hrw.go (kept_of_below (S := fun _ => False) hb) (fun _ h => h.elim)).row.alloc _
/-- A block of another type is not the row's. -/
theorem pi_apart {W0 : World} {A at' wt : Nat} {its : List MN} {wr : World} {j : Nat} {js : List MN} {y : Option Addr} {cy : Nat} (h : PiInv W0 A at' wt its wr j js y cy) {C : Nat} {cs : Array Value} (hc : wr.heap[C]? = some (.cells cs 68 (0, 0))) :
    (Value.slice y j cy).ownBlock ≠ some C := fun e => by
  rcases h.row.row.2 with ⟨h1, _⟩ | ⟨g, cap, cur, h1, _, h2, _⟩
  · rw [h1] at e
    simp [Value.ownBlock] at e
  · rw [h1] at e
    simp [Value.ownBlock] at e
    subst e
    rw [hc] at h2
    simp at h2
set_option maxRecDepth 100000 in
set_option maxHeartbeats 4000000 in
theorem plain_step {n : Nat} (IH : PlainAny n) : PlainAny (n + 1) := by
  intro t hsz hform hfew w hat
  obtain ⟨pre, post, v, ms⟩ := t
  obtain ⟨x, c, rfl⟩ := at_shape hat
  obtain ⟨hms, hfk⟩ := Few_kid hfew
  have HAT := Lib.hid hat
  have HFK := Lib.hid hfk
  have HFO := Lib.hid hform
  have HSZ := Lib.hid (fun m hm a' b' v' its hm2 i hi => Nat.lt_of_lt_of_le (rounds_lt (a' := a') (b' := b') (v' := v') (its := its) (i := i) rfl (m := m) hm hm2 hi) hsz)
  have HIH := Lib.hid IH
  simp only [MN.sl, MN.kids] at *
  clear hat hfk hform hfew hsz IH
  go_enter Try.func23, Try.ntmps23
  go_wp2_with fail
  obtain ⟨i0, hi0, hz0, hz1, hz2⟩ := info_parts info81
  obtain ⟨j0, hj0, hy0, hy1, hy2⟩ := info_parts info83
  go_loopw [3, 12] (fun o i wr => ∃ (k : Nat), k ≤ ms.length ∧ i = .int .i64 k ∧ ∃ y cy, o = .slice y k cy ∧ Hid (∃ is, PlInv w ms wr k is y cy)) (fun _ i _ => ms.length - (intOf i).toNat)
  case atStart => exact ⟨0, by omega, rfl, _, _, rfl, _, pl_start w ms⟩
  case round =>
    obtain ⟨k, hk, rfl, y, cy, rfl, hh⟩ := hrel
    obtain ⟨is, hI⟩ := hh.out
    have HI := Lib.hid hI
    have hbs := hI.below.size
    clear hh hI
    by_cases hlt : k < ms.length
    · have hmem := List.getElem_mem hlt
      obtain ⟨at', wt, v2, its, hmk, hfi⟩ := form_alt (Form_kid HFO.out hmem)
      obtain ⟨hil, hif⟩ := Few_kid (by rw [← hmk]; exact HFK.out _ hmem)
      have hka := kid_at HAT.out hmem
      obtain ⟨g, cap, hx, hg, hc⟩ := kid_cells HAT.out hlt
      rw [hmk] at hka hc
      obtain ⟨x2, c2, rfl⟩ := at_shape hka
      simp only [Value.slice.injEq] at hx
      obtain ⟨rfl, _, rfl⟩ := hx
      have cc0 := (HI.out.below.cell (p := ⟨g, k * 3 + 0, none⟩) hg).trans (hc 0 (by omega))
      have cc1 := (HI.out.below.cell (p := ⟨g, k * 3 + 1, none⟩) hg).trans (hc 1 (by omega))
      have cc2 := (HI.out.below.cell (p := ⟨g, k * 3 + 2, none⟩) hg).trans (hc 2 (by omega))
      simp only [MN.cells, List.cons_append, List.nil_append, List.getElem?_cons_succ, List.getElem?_cons_zero, Nat.add_zero] at cc0 cc1 cc2
      have HMK := Lib.hid hmk
      have HKA := Lib.hid hka
      have HFI := Lib.hid hfi
      have HIF := Lib.hid hif
      have hki : (k : Int) < ms.length := by omega
      have hgw : g < wr.heap.size := by omega
      clear hmk hka hfi hif hc
      have HBS := Lib.hid (HI.out.below)
      obtain ⟨wo, hwo⟩ : ∃ x, x = wr := ⟨_, rfl⟩
      subst hwo
      go_wp2_with fail
      go_loopw [24] (fun i wq => ∃ (j : Nat), j ≤ its.length ∧ i = .int .i64 j ∧ Hid (∃ js z cz, PiInv ((wo.alloc (.cells #[.int .i64 at', .float .f64 wt, .slice x2 its.length c2] 66)).alloc (.cells #[.int .i64 at', .float .f64 wt, .slice none 0 0] 81)) (wo.heap.size + 1) at' wt its wq j js z cz)) (fun i _ => its.length - (intOf i).toNat)
      case atStart => exact ⟨0, by omega, rfl, _, _, _, pi_start wo _ at' wt its⟩
      case round =>
        clear cc0 cc1 cc2
        obtain ⟨j, hj, rfl, hh2⟩ := hrel
        obtain ⟨js, z, cz, hP⟩ := hh2.out
        have HP := Lib.hid hP
        have hbq : Below w.heap.size w wr := pi_below HBS.out hP
        have hsq := hbq.size
        have hA := lt_of_some hP.blk
        obtain ⟨a0, a1, a2⟩ := blk3 hP.blk
        have fA2 : wr.frozen? ⟨wo.heap.size + 1, 2, none⟩ = false := free_of_block hP.blk
        clear hh2 hP
        by_cases hlj : j < its.length
        · have hmem2 := List.getElem_mem hlj
          obtain ⟨ai, kd, op, tx, v3, als, hmk3, hfi3⟩ := form_item (Form_kid HFI.out hmem2)
          have hif3 := HIF.out _ hmem2
          have hka3 := kid_at HKA.out hmem2
          obtain ⟨g3, cap3, hx3, hg3, hc3⟩ := kid_cells HKA.out hlj
          rw [hmk3] at hka3 hc3 hif3
          obtain ⟨x3, c3, rfl⟩ := at_shape hka3
          simp only [Value.slice.injEq] at hx3
          obtain ⟨rfl, _, rfl⟩ := hx3
          have cc0 := (hbq.cell (p := ⟨g3, j * 5 + 0, none⟩) hg3).trans (hc3 0 (by omega))
          have cc1 := (hbq.cell (p := ⟨g3, j * 5 + 1, none⟩) hg3).trans (hc3 1 (by omega))
          have cc2 := (hbq.cell (p := ⟨g3, j * 5 + 2, none⟩) hg3).trans (hc3 2 (by omega))
          have cc3 := (hbq.cell (p := ⟨g3, j * 5 + 3, none⟩) hg3).trans (hc3 3 (by omega))
          have cc4 := (hbq.cell (p := ⟨g3, j * 5 + 4, none⟩) hg3).trans (hc3 4 (by omega))
          simp only [MN.cells, List.cons_append, List.nil_append, List.getElem?_cons_succ, List.getElem?_cons_zero, Nat.add_zero] at cc0 cc1 cc2 cc3 cc4
          have HC := Lib.hid (fun W (h : Below w.heap.size w W) => HIH.out (.node [.int .i64 ai, .int .i64 kd, .string tx] [.int .u8 op] (.slice x3 als.length c3) als) (by have := HSZ.out _ hmem _ _ _ its HMK.out _ hmem2; rw [hmk3] at this; omega) hfi3 hif3 W (hka3.below h))
          simp only [MN.sl, MN.kids] at HC
          have hji : (j : Int) < its.length := by omega
          have hgw3 : g3 < wr.heap.size := by omega
          have HM3 := Lib.hid hmk3
          clear hmk3 hka3 hfi3 hif3 hc3
          go_wp2_with fail
          have HW2 := Lib.hid ((HP.out.go (below_one wr (.cells #[.int .i64 ai, .int .i64 kd, .string tx, .slice x3 als.length c3, .int .u8 op] 68))))
          have HBD : Hid (Below w.heap.size w (wr.alloc (.cells #[.int .i64 ai, .int .i64 kd, .string tx, .slice x3 als.length c3, .int .u8 op] 68)).drew) := below_drew (hbq.alloc hsq _)
          have hC := heap_alloc_this wr (.cells #[.int .i64 ai, .int .i64 kd, .string tx, .slice x3 als.length c3, .int .u8 op] 68)
          clear a0 a1 a2 fA2 hA cc0 cc1 cc2 cc3 cc4 hgw3 hbq hsq HP
          generalize wr.heap.size = C at *
          generalize (wr.alloc (.cells #[.int .i64 ai, .int .i64 kd, .string tx, .slice x3 als.length c3, .int .u8 op] 68)) = W2 at *
          obtain ⟨d0, d1, d2, d3, d4⟩ := blk5 hC
          obtain ⟨_, _, a2⟩ := blk3 HW2.out.blk
          have fA2 : W2.frozen? ⟨wo.heap.size + 1, 2, none⟩ = false := free_of_block HW2.out.blk
          have hA := lt_of_some HW2.out.blk
          have hlC := lt_of_some hC
          have HCB := Lib.hid hC
          clear hC
          have HNO := Lib.hid (pi_apart HW2.out HCB.out)
          have hSd : W2.drew.cell? ⟨C, 0, none⟩ = some (.int .i64 ai) ∧ W2.drew.cell? ⟨C, 1, none⟩ = some (.int .i64 kd) ∧ W2.drew.cell? ⟨C, 2, none⟩ = some (.string tx) ∧ W2.drew.cell? ⟨C, 3, none⟩ = some (.slice x3 als.length c3) ∧ W2.drew.cell? ⟨C, 4, none⟩ = some (.int .u8 op) := ⟨d0, d1, d2, d3, d4⟩
          have hCA : C ≠ wo.heap.size + 1 := fun e => by
            have h1 := HCB.out
            rw [e, HW2.out.blk] at h1
            simp at h1
          refine wp_region_held_drew (S := fun w' => w'.cell? ⟨C, 0, none⟩ = some (.int .i64 ai) ∧ w'.cell? ⟨C, 1, none⟩ = some (.int .i64 kd) ∧ w'.cell? ⟨C, 2, none⟩ = some (.string tx) ∧ w'.cell? ⟨C, 3, none⟩ = some (.slice x3 als.length c3) ∧ w'.cell? ⟨C, 4, none⟩ = some (.int .u8 op)) (by kernel_rfl) (hSd) (fun hHeld => ?_)
          refine wpAnyH_take (i := 0) (v := ?_) rfl (by kernel_rfl) (by kernel_rfl) (by kernel_rfl) (fun _ _ _ h => h) (Or.inl ⟨by rfl, ?_⟩) (by with_reducible assumption) ?_
          rotate_left
          · intro w hSw
            try dsimp only at hSw
            go_simp
            try with_reducible rfl
          try simp only [Act.put, List.setIfInBounds_toArray]
          refine wpAnyH_take (i := 2) (v := ?_) rfl (by kernel_rfl) (by kernel_rfl) (by kernel_rfl) (fun _ _ _ h => h) (Or.inl ⟨by rfl, ?_⟩) (by with_reducible assumption) ?_
          rotate_left
          · intro w hSw
            try dsimp only at hSw
            go_simp
            try with_reducible rfl
          try simp only [Act.put]
          refine wpAnyH_take (i := 3) (v := ?_) rfl (by kernel_rfl) (by kernel_rfl) (by kernel_rfl) (fun _ _ _ h => h) (Or.inl ⟨by rfl, ?_⟩) (by with_reducible assumption) ?_
          rotate_left
          · intro w hSw
            try dsimp only at hSw
            go_simp
            try with_reducible rfl
          try simp only [Act.put]
          refine wpAnyH_take (i := 4) (v := ?_) rfl (by kernel_rfl) (by kernel_rfl) (by kernel_rfl) (fun _ _ _ h => h) (Or.inl ⟨by rfl, ?_⟩) (by with_reducible assumption) ?_
          rotate_left
          · intro w hSw
            try dsimp only at hSw
            go_simp
            try with_reducible rfl
          try simp only [Act.put]
          refine wpAnyH_take (i := 5) (v := ?_) rfl (by kernel_rfl) (by kernel_rfl) (by kernel_rfl) (fun _ _ _ h => h) (Or.inl ⟨by rfl, ?_⟩) (by with_reducible assumption) ?_
          rotate_left
          · intro w hSw
            try dsimp only at hSw
            go_simp
            try with_reducible rfl
          try simp only [Act.put]
          refine wpAnyH_take (i := 6) (v := ?_) rfl (by kernel_rfl) (by kernel_rfl) (by kernel_rfl) (fun _ _ _ h => h) (Or.inl ⟨by rfl, ?_⟩) (by with_reducible assumption) ?_
          rotate_left
          · intro w hSw
            try dsimp only at hSw
            go_simp
            try with_reducible rfl
          try simp only [Act.put]
          refine wpAnyH_take (i := 7) (v := ?_) rfl (by kernel_rfl) (by kernel_rfl) (by kernel_rfl) (fun _ _ _ h => h) (Or.inl ⟨by rfl, ?_⟩) (by with_reducible assumption) ?_
          rotate_left
          · intro w hSw
            try dsimp only at hSw
            go_simp
            try with_reducible rfl
          try simp only [Act.put]
          refine wpAnyH_take (i := 8) (v := ?_) rfl (by kernel_rfl) (by kernel_rfl) (by kernel_rfl) (fun _ _ _ h => h) (Or.inl ⟨by rfl, ?_⟩) (by with_reducible assumption) ?_
          rotate_left
          · intro w hSw
            try dsimp only at hSw
            go_simp
            try with_reducible rfl
          try simp only [Act.put]
          refine wpAnyH_take (i := 9) (v := ?_) rfl (by kernel_rfl) (by kernel_rfl) (by kernel_rfl) (fun _ _ _ h => h) (Or.inl ⟨by rfl, ?_⟩) (by with_reducible assumption) ?_
          rotate_left
          · intro w hSw
            try dsimp only at hSw
            go_simp
            try with_reducible rfl
          try simp only [Act.put]
          refine wpAnyH_take (i := 10) (v := ?_) rfl (by kernel_rfl) (by kernel_rfl) (by kernel_rfl) (fun _ _ _ h => h) (Or.inl ⟨by rfl, ?_⟩) (by with_reducible assumption) ?_
          rotate_left
          · intro w hSw
            try dsimp only at hSw
            go_simp
            try with_reducible rfl
          try simp only [Act.put]
          refine wpAnyH_take (i := 11) (v := ?_) rfl (by kernel_rfl) (by kernel_rfl) (by kernel_rfl) (fun _ _ _ h => h) (Or.inl ⟨by rfl, ?_⟩) (by with_reducible assumption) ?_
          rotate_left
          · intro w hSw
            try dsimp only at hSw
            go_simp
            try with_reducible rfl
          try simp only [Act.put]
          refine wpAnyH_ready (rs := [1, 12]) (by kernel_rfl) (by simp) ?_
          refine AllReadyH.cons (o := _) rfl (fun K hK => ?_) ?_
          · go_simp
            refine hK.out _ _ (by with_reducible assumption) (fun hHeld => ?_)
            clear hK K
            try simp only [Act.put, List.setIfInBounds_toArray, List.set_cons_zero, List.set_cons_succ]
            refine wpAnyH_ready (rs := [12]) (by kernel_rfl) (by simp) ?_
            refine AllReadyH.cons (o := _) rfl (fun K hK => ?_) ?_
            · go_simp
              go_at_call 23
              refine (HC.out _ HBD.out).mono ?_
              rintro e w1 ⟨a1', c1', ms1, rfl, hpn1, hrow1, hb1, -⟩
              have hs1 : W2.heap.size ≤ w1.heap.size := hb1.size
              have gN1 : w1.cell? ⟨wo.heap.size + 1, 2, none⟩ = some (.slice z j cz) := (hb1.cell (p := ⟨wo.heap.size + 1, 2, none⟩) hA).trans a2
              have fN1 : w1.frozen? ⟨wo.heap.size + 1, 2, none⟩ = false := (hb1.frozen (p := ⟨wo.heap.size + 1, 2, none⟩) hA).trans fA2
              have gC1 := (hb1.block C hlC).trans HCB.out
              have GC1 := Lib.hid gC1
              have hA1 : wo.heap.size + 1 < w1.heap.size := by omega
              have hlC1 : C < w1.heap.size := by omega
              have HT := Lib.hid (And.intro hpn1 (And.intro hrow1 hb1))
              have HRW := Lib.hid (HW2.out.drew.own hb1 (.cells #[.int .i64 ai, .int .i64 kd, .string tx, .slice a1' ms1.length c1', .int .u8 op] 83))
              clear hpn1 hrow1 hb1 gC1
              refine hK.out _ _ (blk5 GC1.out) (fun hHeld => ?_)
              clear hK K
              try simp only [Act.put, List.setIfInBounds_toArray, List.set_cons_zero, List.set_cons_succ]
              refine wpAnyH_take (i := 13) (v := ?_) rfl (by kernel_rfl) (by kernel_rfl) (by kernel_rfl) (fun _ _ _ h => h) (Or.inl ⟨by rfl, ?_⟩) (by with_reducible assumption) ?_
              rotate_left
              · intro w hSw
                try dsimp only at hSw
                go_simp
                try with_reducible rfl
              try simp only [Act.put, List.setIfInBounds_toArray]
              refine wpAnyH_ready (rs := [14]) (by kernel_rfl) (by simp) ?_
              refine AllReadyH.cons (o := _) rfl (fun K hK => ?_) ?_
              · go_simp
                refine hK.out _ _ (blk5 (heap_alloc_keep GC1.out)) (fun hHeld => ?_)
                clear hK K
                try simp only [Act.put, List.setIfInBounds_toArray, List.set_cons_zero, List.set_cons_succ]
                refine wpAnyH_ready (rs := [15]) (by kernel_rfl) (by simp) ?_
                refine AllReadyH.cons (o := _) rfl (fun K hK => ?_) ?_
                · refine step_append_lies _ (by rfl) (.tmp 29) (.tmp 42) 79 (by rfl) (wo.heap.size + 1 + 1) 83 j0 _ 5 64 Try.underlying79 hj0 hy0 hy1 hy2 rfl (by omega) (.slice z j cz) j _ (by rfl) HRW.out ⟨w1.heap.size, 0, none⟩ 1 1 [.int .i64 ai, .int .i64 kd, .string tx, .slice a1' ms1.length c1', .int .u8 op] (by rfl) (by rfl) (news_at _ w1.heap.size rfl #[.int .i64 ai, .int .i64 kd, .string tx, .slice a1' ms1.length c1', .int .u8 op]) (by simp [Value.oneCell']) (by omega) (by simp only [maxLen]; omega) (by omega) (by simp; omega) (w1.heap.size + 1) (by simp) ?_
                  intro gg cap' w3 hown1 hgrow hat hlt2
                  have gN3 : w3.cell? ⟨wo.heap.size + 1, 2, none⟩ = some (.slice z j cz) := (hgrow.cell ((World.cell?_alloc_past _ _ _ (by omega)).trans gN1) (fun e => by have := (row_lt HW2.out.row.row e.symm).1; simp only at this; omega))
                  have fN3 : w3.frozen? ⟨wo.heap.size + 1, 2, none⟩ = false := ((hgrow.frozen_far _ (by simp; omega) (fun e => by have := (row_lt HW2.out.row.row e.symm).1; simp only at this; omega)).trans ((World.frozen?_alloc_past _ _ _ (by omega)).trans fN1))
                  have GC3 := Lib.hid ((hgrow.block C (by simp; omega) (fun e => HNO.out e.symm)).trans (heap_alloc_keep GC1.out))
                  have HGR := Lib.hid hgrow
                  have HOW := Lib.hid hown1
                  have HAT1 := Lib.hid hat
                  clear hown1 hgrow hat
                  refine hK.out _ _ (blk5 GC3.out) (fun hHeld => ?_)
                  clear hK K
                  try simp only [Act.put, List.setIfInBounds_toArray]
                  refine wpAnyH_take (i := 16) (v := ?_) rfl (by kernel_rfl) (by kernel_rfl) (by kernel_rfl) (fun _ _ _ h => h) (Or.inl ⟨by rfl, ?_⟩) (by with_reducible assumption) ?_
                  rotate_left
                  · intro w hSw
                    try dsimp only at hSw
                    go_simp
                    try with_reducible rfl
                  try simp only [Act.put]
                  refine wpAnyH_ready (rs := [17]) (by kernel_rfl) (by simp) ?_
                  refine AllReadyH.cons (o := _) rfl (fun K hK => ?_) ?_
                  · go_simp
                    refine hK.out _ _ (blk5 ((Kept.setCell (S := (· = wo.heap.size + 1)) (Kept.refl _ w3) (p := ⟨wo.heap.size + 1, 2, none⟩) (.inl rfl) _).get GC3.out hCA)) (fun hHeld => ?_)
                    clear hK K
                    try simp only [Act.put, List.setIfInBounds_toArray, List.set_cons_zero, List.set_cons_succ]
                    refine wpAnyH_done (by kernel_rfl) ?_ _
                    go_wp2
                    go_roundw
                    case rel =>
                      have HF := Lib.hid (HW2.out.drew.next (m := .node [.int .i64 ai, .int .i64 kd, .string tx] [.int .u8 op] (.slice a1' ms1.length c1') ms1) hlj (by rw [HM3.out]; simp only [MN.pn, MN.pnL_map, HT.out.1]) (HT.out.2.1.at _ _) rfl HT.out.2.2 HGR.out HOW.out HAT1.out)
                      exact ⟨j + 1, by omega, by go_num, _, _, _, HF.out⟩
                    case measure => simp [intOf]; omega
                  exact AllReadyH.nil
                exact AllReadyH.nil
              exact AllReadyH.nil
            exact AllReadyH.nil
          refine AllReadyH.cons (o := _) rfl (fun K hK => ?_) ?_
          · go_simp
            go_at_call 23
            refine (HC.out _ HBD.out).mono ?_
            rintro e w1 ⟨a1', c1', ms1, rfl, hpn1, hrow1, hb1, -⟩
            have hs1 : W2.heap.size ≤ w1.heap.size := hb1.size
            have gN1 : w1.cell? ⟨wo.heap.size + 1, 2, none⟩ = some (.slice z j cz) := (hb1.cell (p := ⟨wo.heap.size + 1, 2, none⟩) hA).trans a2
            have fN1 : w1.frozen? ⟨wo.heap.size + 1, 2, none⟩ = false := (hb1.frozen (p := ⟨wo.heap.size + 1, 2, none⟩) hA).trans fA2
            have gC1 := (hb1.block C hlC).trans HCB.out
            have GC1 := Lib.hid gC1
            have hA1 : wo.heap.size + 1 < w1.heap.size := by omega
            have hlC1 : C < w1.heap.size := by omega
            have HT := Lib.hid (And.intro hpn1 (And.intro hrow1 hb1))
            have HRW := Lib.hid (HW2.out.drew.own hb1 (.cells #[.int .i64 ai, .int .i64 kd, .string tx, .slice a1' ms1.length c1', .int .u8 op] 83))
            clear hpn1 hrow1 hb1 gC1
            refine hK.out _ _ (blk5 GC1.out) (fun hHeld => ?_)
            clear hK K
            try simp only [Act.put, List.setIfInBounds_toArray, List.set_cons_zero, List.set_cons_succ]
            refine wpAnyH_take (i := 13) (v := ?_) rfl (by kernel_rfl) (by kernel_rfl) (by kernel_rfl) (fun _ _ _ h => h) (Or.inl ⟨by rfl, ?_⟩) (by with_reducible assumption) ?_
            rotate_left
            · intro w hSw
              try dsimp only at hSw
              go_simp
              try with_reducible rfl
            try simp only [Act.put, List.setIfInBounds_toArray]
            refine wpAnyH_ready (rs := [1, 14]) (by kernel_rfl) (by simp) ?_
            refine AllReadyH.cons (o := _) rfl (fun K hK => ?_) ?_
            · go_simp
              refine hK.out _ _ (by with_reducible assumption) (fun hHeld => ?_)
              clear hK K
              try simp only [Act.put, List.setIfInBounds_toArray, List.set_cons_zero, List.set_cons_succ]
              refine wpAnyH_ready (rs := [14]) (by kernel_rfl) (by simp) ?_
              refine AllReadyH.cons (o := _) rfl (fun K hK => ?_) ?_
              · go_simp
                refine hK.out _ _ (blk5 (heap_alloc_keep GC1.out)) (fun hHeld => ?_)
                clear hK K
                try simp only [Act.put, List.setIfInBounds_toArray, List.set_cons_zero, List.set_cons_succ]
                refine wpAnyH_ready (rs := [15]) (by kernel_rfl) (by simp) ?_
                refine AllReadyH.cons (o := _) rfl (fun K hK => ?_) ?_
                · refine step_append_lies _ (by rfl) (.tmp 29) (.tmp 42) 79 (by rfl) (wo.heap.size + 1 + 1) 83 j0 _ 5 64 Try.underlying79 hj0 hy0 hy1 hy2 rfl (by omega) (.slice z j cz) j _ (by rfl) HRW.out ⟨w1.heap.size, 0, none⟩ 1 1 [.int .i64 ai, .int .i64 kd, .string tx, .slice a1' ms1.length c1', .int .u8 op] (by rfl) (by rfl) (news_at _ w1.heap.size rfl #[.int .i64 ai, .int .i64 kd, .string tx, .slice a1' ms1.length c1', .int .u8 op]) (by simp [Value.oneCell']) (by omega) (by simp only [maxLen]; omega) (by omega) (by simp; omega) (w1.heap.size + 1) (by simp) ?_
                  intro gg cap' w3 hown1 hgrow hat hlt2
                  have gN3 : w3.cell? ⟨wo.heap.size + 1, 2, none⟩ = some (.slice z j cz) := (hgrow.cell ((World.cell?_alloc_past _ _ _ (by omega)).trans gN1) (fun e => by have := (row_lt HW2.out.row.row e.symm).1; simp only at this; omega))
                  have fN3 : w3.frozen? ⟨wo.heap.size + 1, 2, none⟩ = false := ((hgrow.frozen_far _ (by simp; omega) (fun e => by have := (row_lt HW2.out.row.row e.symm).1; simp only at this; omega)).trans ((World.frozen?_alloc_past _ _ _ (by omega)).trans fN1))
                  have GC3 := Lib.hid ((hgrow.block C (by simp; omega) (fun e => HNO.out e.symm)).trans (heap_alloc_keep GC1.out))
                  have HGR := Lib.hid hgrow
                  have HOW := Lib.hid hown1
                  have HAT1 := Lib.hid hat
                  clear hown1 hgrow hat
                  refine hK.out _ _ (blk5 GC3.out) (fun hHeld => ?_)
                  clear hK K
                  try simp only [Act.put, List.setIfInBounds_toArray]
                  refine wpAnyH_take (i := 16) (v := ?_) rfl (by kernel_rfl) (by kernel_rfl) (by kernel_rfl) (fun _ _ _ h => h) (Or.inl ⟨by rfl, ?_⟩) (by with_reducible assumption) ?_
                  rotate_left
                  · intro w hSw
                    try dsimp only at hSw
                    go_simp
                    try with_reducible rfl
                  try simp only [Act.put]
                  refine wpAnyH_ready (rs := [17]) (by kernel_rfl) (by simp) ?_
                  refine AllReadyH.cons (o := _) rfl (fun K hK => ?_) ?_
                  · go_simp
                    refine hK.out _ _ (blk5 ((Kept.setCell (S := (· = wo.heap.size + 1)) (Kept.refl _ w3) (p := ⟨wo.heap.size + 1, 2, none⟩) (.inl rfl) _).get GC3.out hCA)) (fun hHeld => ?_)
                    clear hK K
                    try simp only [Act.put, List.setIfInBounds_toArray, List.set_cons_zero, List.set_cons_succ]
                    refine wpAnyH_done (by kernel_rfl) ?_ _
                    go_wp2
                    go_roundw
                    case rel =>
                      have HF := Lib.hid (HW2.out.drew.next (m := .node [.int .i64 ai, .int .i64 kd, .string tx] [.int .u8 op] (.slice a1' ms1.length c1') ms1) hlj (by rw [HM3.out]; simp only [MN.pn, MN.pnL_map, HT.out.1]) (HT.out.2.1.at _ _) rfl HT.out.2.2 HGR.out HOW.out HAT1.out)
                      exact ⟨j + 1, by omega, by go_num, _, _, _, HF.out⟩
                    case measure => simp [intOf]; omega
                  exact AllReadyH.nil
                exact AllReadyH.nil
              exact AllReadyH.nil
            refine AllReadyH.cons (o := _) rfl (fun K hK => ?_) ?_
            · go_simp
              refine hK.out _ _ (blk5 (heap_alloc_keep GC1.out)) (fun hHeld => ?_)
              clear hK K
              try simp only [Act.put, List.setIfInBounds_toArray, List.set_cons_zero, List.set_cons_succ]
              refine wpAnyH_ready (rs := [1]) (by kernel_rfl) (by simp) ?_
              refine AllReadyH.cons (o := _) rfl (fun K hK => ?_) ?_
              · go_simp
                refine hK.out _ _ (by with_reducible assumption) (fun hHeld => ?_)
                clear hK K
                try simp only [Act.put, List.setIfInBounds_toArray, List.set_cons_zero, List.set_cons_succ]
                refine wpAnyH_ready (rs := [15]) (by kernel_rfl) (by simp) ?_
                refine AllReadyH.cons (o := _) rfl (fun K hK => ?_) ?_
                · refine step_append_lies _ (by rfl) (.tmp 29) (.tmp 42) 79 (by rfl) (wo.heap.size + 1 + 1) 83 j0 _ 5 64 Try.underlying79 hj0 hy0 hy1 hy2 rfl (by omega) (.slice z j cz) j _ (by rfl) HRW.out ⟨w1.heap.size, 0, none⟩ 1 1 [.int .i64 ai, .int .i64 kd, .string tx, .slice a1' ms1.length c1', .int .u8 op] (by rfl) (by rfl) (news_at _ w1.heap.size rfl #[.int .i64 ai, .int .i64 kd, .string tx, .slice a1' ms1.length c1', .int .u8 op]) (by simp [Value.oneCell']) (by omega) (by simp only [maxLen]; omega) (by omega) (by simp; omega) (w1.heap.size + 1) (by simp) ?_
                  intro gg cap' w3 hown1 hgrow hat hlt2
                  have gN3 : w3.cell? ⟨wo.heap.size + 1, 2, none⟩ = some (.slice z j cz) := (hgrow.cell ((World.cell?_alloc_past _ _ _ (by omega)).trans gN1) (fun e => by have := (row_lt HW2.out.row.row e.symm).1; simp only at this; omega))
                  have fN3 : w3.frozen? ⟨wo.heap.size + 1, 2, none⟩ = false := ((hgrow.frozen_far _ (by simp; omega) (fun e => by have := (row_lt HW2.out.row.row e.symm).1; simp only at this; omega)).trans ((World.frozen?_alloc_past _ _ _ (by omega)).trans fN1))
                  have GC3 := Lib.hid ((hgrow.block C (by simp; omega) (fun e => HNO.out e.symm)).trans (heap_alloc_keep GC1.out))
                  have HGR := Lib.hid hgrow
                  have HOW := Lib.hid hown1
                  have HAT1 := Lib.hid hat
                  clear hown1 hgrow hat
                  refine hK.out _ _ (blk5 GC3.out) (fun hHeld => ?_)
                  clear hK K
                  try simp only [Act.put, List.setIfInBounds_toArray]
                  refine wpAnyH_take (i := 16) (v := ?_) rfl (by kernel_rfl) (by kernel_rfl) (by kernel_rfl) (fun _ _ _ h => h) (Or.inl ⟨by rfl, ?_⟩) (by with_reducible assumption) ?_
                  rotate_left
                  · intro w hSw
                    try dsimp only at hSw
                    go_simp
                    try with_reducible rfl
                  try simp only [Act.put]
                  refine wpAnyH_ready (rs := [17]) (by kernel_rfl) (by simp) ?_
                  refine AllReadyH.cons (o := _) rfl (fun K hK => ?_) ?_
                  · go_simp
                    refine hK.out _ _ (blk5 ((Kept.setCell (S := (· = wo.heap.size + 1)) (Kept.refl _ w3) (p := ⟨wo.heap.size + 1, 2, none⟩) (.inl rfl) _).get GC3.out hCA)) (fun hHeld => ?_)
                    clear hK K
                    try simp only [Act.put, List.setIfInBounds_toArray, List.set_cons_zero, List.set_cons_succ]
                    refine wpAnyH_done (by kernel_rfl) ?_ _
                    go_wp2
                    go_roundw
                    case rel =>
                      have HF := Lib.hid (HW2.out.drew.next (m := .node [.int .i64 ai, .int .i64 kd, .string tx] [.int .u8 op] (.slice a1' ms1.length c1') ms1) hlj (by rw [HM3.out]; simp only [MN.pn, MN.pnL_map, HT.out.1]) (HT.out.2.1.at _ _) rfl HT.out.2.2 HGR.out HOW.out HAT1.out)
                      exact ⟨j + 1, by omega, by go_num, _, _, _, HF.out⟩
                    case measure => simp [intOf]; omega
                  exact AllReadyH.nil
                exact AllReadyH.nil
              exact AllReadyH.nil
            exact AllReadyH.nil
          exact AllReadyH.nil
        · obtain rfl : j = its.length := by omega
          have HOWN := Lib.hid (fun oc => pl_own HI.out HP.out oc)
          go_wp2_with (first
            | (at_builtin; go_loud (refine wpList_append_lies _ rfl (.tmp 46) (.tmp 48) 51 rfl w.heap.size 81 i0 _ 3 40 Try.underlying51 hi0 hz0 hz1 hz2 rfl (by decide) (.slice y k cy) k _ (by rfl) (HOWN.out _) ⟨wr.heap.size, 0, none⟩ 1 1 [.int .i64 at', .float .f64 wt, .slice z its.length cz] (by rfl) (by rfl) (news_at81 _ wr.heap.size (by simp) #[.int .i64 at', .float .f64 wt, .slice z its.length cz]) (by simp [Value.oneCell']) (by omega) (by simp only [maxLen]; omega) (by omega) (by simp; omega) (wr.heap.size + 1) (by simp) ?_); intro g4 cap4 w4 hown1 hgrow hat4 hlt4
               have HGR := Lib.hid hgrow
               have HOW := Lib.hid hown1
               have HAT4 := Lib.hid hat4
               clear hgrow hown1 hat4))
          go_roundw
          case rel => exact ⟨k + 1, by omega, by go_num, _, _, rfl, _, HI.out.next hlt HMK.out HP.out HGR.out HOW.out HAT4.out⟩
          case measure => simp [intOf]; omega
    · obtain rfl : k = ms.length := by omega
      go_wp2_with fail
      go_ret
      obtain ⟨hl1, hp1, hr1, hb1, hs1⟩ := HI.out
      rw [List.take_length] at hp1
      exact ⟨y, cy, is, by rw [hl1]; rfl, hp1, by rw [hl1]; exact hr1, hb1, hs1⟩
end Go.Proofs.Yticdihfjnmjkmaa
