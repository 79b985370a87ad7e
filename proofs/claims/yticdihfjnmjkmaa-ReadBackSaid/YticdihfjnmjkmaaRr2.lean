/- The reference's reader: signs, an item. -/
import Derived.Test.YticdihfjnmjkmaaRd7
namespace Go.Proofs.Yticdihfjnmjkmaa
open Go.RowKit
attribute [local go_sem] run_store_float
theorem ToksAt.cells0 {w : World} {a : Option Addr} {ts : List Tok} (h : ToksAt w w.heap.size a ts) {p : Nat} (hp : p < ts.length) :
    ∃ b o, a = some ⟨b, o, none⟩ ∧ b < w.heap.size ∧ w.cell? ⟨b, o + p * 4, none⟩ = some (.int .i64 (ts[p]).kind) ∧ w.cell? ⟨b, o + p * 4 + 1, none⟩ = some (.int .i64 (ts[p]).pos) ∧
      w.cell? ⟨b, o + p * 4 + 2, none⟩ = some (.string (bOf (ts[p]).text)) ∧ w.cell? ⟨b, o + p * 4 + 3, none⟩ = some (.float .f64 (ts[p]).wt) := h.cells (Below.refl _ _) hp
set_option maxRecDepth 100000 in
theorem qsign_any {w : World} {a : Option Addr} {c : Nat} {ts : List Tok} {p d : Nat} {e : Int} (hT : ToksAt w w.heap.size a ts) (hp : p < ts.length) (S : List UInt8) :
    Calls Try.prog 58 #[.agg #[.slice a ts.length c, .int .i64 p, .int .i64 d, .int .i64 e], .string (bOf S)] w fun e w' => e = .returned (.bool (sgnB ts[p] S)) ∧ Below w.heap.size w w' := by
  obtain ⟨b, o, rfl, hb, x0, x1, x2, x3⟩ := hT.cells0 hp
  have hpi : (p : Int) < ts.length := by omega
  have hne : b ≠ w.heap.size := by omega
  have HSG := Lib.hid (show sgnB ts[p] S = (decide ((ts[p]).kind = 4) && decide ((ts[p]).text = S)) from rfl)
  generalize sgnB ts[p] S = x at *
  generalize ts[p] = t at *
  obtain ⟨kd, ps, tx, wt⟩ := t
  simp only at *
  clear hT
  by_cases hk : kd = 4
  · by_cases ht : tx = S
    · have hx : x = true := by rw [HSG.out]; simp [ht, hk]
      clear HSG
      subst hk ht hx
      generalize bOf tx = T at *
      go_enter Try.func58, Try.ntmps58
      go_wp2
      go_ret
      exact ⟨rfl, below_one _ _⟩
    · have hne2 := str_ne ht
      have hx : x = false := by rw [HSG.out]; simp [ht]
      clear HSG
      subst hk hx
      clear ht
      generalize bOf tx = T at *
      generalize bOf S = SS at *
      go_enter Try.func58, Try.ntmps58
      go_wp2
      go_ret
      exact ⟨rfl, below_one _ _⟩
  · have hx : x = false := by rw [HSG.out]; simp [hk]
    have hk1 : (kd == 4) = false := by simpa using hk
    clear HSG
    subst hx
    clear hk
    generalize bOf tx = T at *
    generalize bOf S = SS at *
    go_enter Try.func58, Try.ntmps58
    go_wp2
    go_ret
    exact ⟨rfl, below_one _ _⟩
/-- A sign that must come next. -/
def QPass (a : Option Addr) (n c p d : Nat) (w : World) (e : Ending) (w' : World) : Prop := e = .returned (.agg #[.slice a n c, .int .i64 p, .int .i64 d, .int .i64 0]) ∧ Below w.heap.size w w'
def QBad (a : Option Addr) (n c p d : Nat) (er : Int) (w : World) (e : Ending) (w' : World) : Prop := e = .returned (.agg #[.slice a n c, .int .i64 p, .int .i64 d, .int .i64 er]) ∧ Below w.heap.size w w'
set_option maxRecDepth 100000 in
theorem qpass_err {w : World} {a : Option Addr} {n c p d : Nat} {e : Int} (he : e ≠ 0) (S : ByteArray) :
    Calls Try.prog 39 #[.agg #[.slice a n c, .int .i64 p, .int .i64 d, .int .i64 e], .string S] w (QBad a n c p d e w) := by
  have he1 : (e == 0) = false := by simpa using he
  clear he
  go_enter Try.func39, Try.ntmps39
  go_wp2_with fail
  refine bodyPost_ret (v := .agg #[.slice a n c, .int .i64 p, .int .i64 d, .int .i64 e]) (by simp [results, Try.results39, go_sem, *]) rfl ⟨rfl, ?_⟩
  exact below_two _ _ _
theorem blk4 {w : World} {b : Nat} {x0 x1 x2 x3 : Value} {t : TypeId} (h : w.heap[b]? = some (.cells #[x0, x1, x2, x3] t (0, 0))) :
    w.cell? ⟨b, 0, none⟩ = some x0 ∧ w.cell? ⟨b, 1, none⟩ = some x1 ∧ w.cell? ⟨b, 2, none⟩ = some x2 ∧ w.cell? ⟨b, 3, none⟩ = some x3 :=
  ⟨cell_of_block (off := 0) h, cell_of_block (off := 1) h, cell_of_block (off := 2) h, cell_of_block (off := 3) h⟩
theorem heap_second (w : World) (o o' : Obj) : ((w.alloc o).alloc o').heap[w.heap.size + 1]? = some o' := by
  have := heap_alloc_this (w.alloc o) o'
  simpa using this
/-- Behind a call two blocks that were made ahead of it are as they were. -/
theorem two_after {w w1 : World} {o o' : Obj} (h : Below ((w.alloc o).alloc o').heap.size ((w.alloc o).alloc o') w1) : w1.heap[w.heap.size]? = some o ∧ w1.heap[w.heap.size + 1]? = some o' ∧ w.heap.size + 2 ≤ w1.heap.size := by
  refine ⟨(h.block _ (by simp only [World.size_alloc]; omega)).trans (heap_alloc_keep (heap_alloc_this _ _)), (h.block _ (by simp only [World.size_alloc]; omega)).trans (heap_second _ _ _), ?_⟩
  have := h.size
  simp only [World.size_alloc] at this
  omega
set_option maxRecDepth 100000 in
theorem qpass_yes {w : World} {a : Option Addr} {c : Nat} {ts : List Tok} {p d : Nat} (hT : ToksAt w w.heap.size a ts) (hp : p < ts.length) (hl : ts.length ≤ 100000) {S : List UInt8} (hs : sgnB ts[p] S = true) :
    Calls Try.prog 39 #[.agg #[.slice a ts.length c, .int .i64 p, .int .i64 d, .int .i64 0], .string (bOf S)] w (QPass a ts.length c (p + 1) d w) := by
  have HS := fun o o' => Lib.hid (qsign_any (c := c) (d := d) (e := 0) (hT.go (below_two w o o') (by simp only [World.size_alloc]; omega)) hp S)
  rw [hs] at HS
  generalize bOf S = SS at *
  clear hT hs
  go_enter Try.func39, Try.ntmps39
  go_wp2_with fail
  refine (HS _ _).out.mono ?_
  rintro e w1 ⟨rfl, hb1⟩
  obtain ⟨g0, g1, hs1⟩ := two_after hb1
  obtain ⟨c0, c1, c2, c3⟩ := blk4 g0
  have f1 := free_of_block (off := 1) g0
  obtain ⟨d0, d1, d2, d3⟩ := blk4 g1
  obtain ⟨v0, v1, v2, v3, _⟩ := blk5f g1
  have hl0 : w.heap.size < w1.heap.size := by omega
  have hl1 : w.heap.size + 1 < w1.heap.size := by omega
  have HB := Lib.hid ((below_two w (.cells #[.slice a ts.length c, .int .i64 p, .int .i64 d, .int .i64 0] 75) (.cells #[.slice none 0 0, .int .i64 0, .int .i64 0, .int .i64 0] 75)).trans (hb1.mono (by simp only [World.size_alloc]; omega)))
  clear hb1 g0 g1 HS
  go_wp2_with fail
  refine bodyPost_ret (v := .agg #[.slice a ts.length c, .int .i64 (p + 1), .int .i64 d, .int .i64 0]) (by simp [results, Try.results39, go_sem, *]) rfl ⟨by simp, ?_⟩
  have := HB.out.size
  repeat refine Below.setCell ?_ (by simp) _
  exact HB.out
set_option maxRecDepth 100000 in
theorem qpass_no {w : World} {a : Option Addr} {c : Nat} {ts : List Tok} {p d : Nat} (hT : ToksAt w w.heap.size a ts) (hp : p < ts.length) {S : List UInt8} (hs : sgnB ts[p] S = false) :
    Calls Try.prog 39 #[.agg #[.slice a ts.length c, .int .i64 p, .int .i64 d, .int .i64 0], .string (bOf S)] w (QBad a ts.length c p d 5 w) := by
  have HS := fun o o' => Lib.hid (qsign_any (c := c) (d := d) (e := 0) (hT.go (below_two w o o') (by simp only [World.size_alloc]; omega)) hp S)
  rw [hs] at HS
  generalize bOf S = SS at *
  clear hT hs
  go_enter Try.func39, Try.ntmps39
  go_wp2_with fail
  refine (HS _ _).out.mono ?_
  rintro e w1 ⟨rfl, hb1⟩
  obtain ⟨g0, g1, hs1⟩ := two_after hb1
  obtain ⟨c0, c1, c2, c3⟩ := blk4 g0
  have f1 := free_of_block (off := 3) g0
  obtain ⟨d0, d1, d2, d3⟩ := blk4 g1
  obtain ⟨v0, v1, v2, v3, _⟩ := blk5f g1
  have hl0 : w.heap.size < w1.heap.size := by omega
  have hl1 : w.heap.size + 1 < w1.heap.size := by omega
  have HB := Lib.hid ((below_two w (.cells #[.slice a ts.length c, .int .i64 p, .int .i64 d, .int .i64 0] 75) (.cells #[.slice none 0 0, .int .i64 0, .int .i64 0, .int .i64 0] 75)).trans (hb1.mono (by simp only [World.size_alloc]; omega)))
  clear hb1 g0 g1 HS
  go_wp2_with fail
  refine bodyPost_ret (v := .agg #[.slice a ts.length c, .int .i64 p, .int .i64 d, .int .i64 5]) (by simp [results, Try.results39, go_sem, *]) rfl ⟨rfl, ?_⟩
  have := HB.out.size
  repeat refine Below.setCell ?_ (by simp) _
  exact HB.out
end Go.Proofs.Yticdihfjnmjkmaa
namespace Go.Proofs.Yticdihfjnmjkmaa
open Go.RowKit
/-- Behind alternatives, an alternative, a piece. -/
def QAltsPost (a : Option Addr) (c : Nat) (ts : List Tok) (d : Nat) (o : Out) (w : World) (e : Ending) (w' : World) : Prop :=
  match o with
  | .err er ps => ∃ (q : Nat) (hq : q < ts.length) (x : Option Addr) (n k : Nat), (ts[q]).pos = ps ∧ e = .returned (.tuple #[.agg #[.slice a ts.length c, .int .i64 q, .int .i64 d, .int .i64 er], .slice x n k]) ∧ Below w.heap.size w w'
  | .ok ns r => ∃ (q : Nat) (x : Option Addr) (k : Nat) (ms : List MN), ts.drop q = r ∧ e = .returned (.tuple #[.agg #[.slice a ts.length c, .int .i64 q, .int .i64 d, .int .i64 0], .slice x ms.length k]) ∧ ms.map MN.pn = ns ∧ RowOf w' w.heap.size 81 3 83 5 (.slice x ms.length k) ms ∧ Below w.heap.size w w'
def QAltPost (a : Option Addr) (c : Nat) (ts : List Tok) (d : Nat) (o : Out) (w : World) (e : Ending) (w' : World) : Prop :=
  match o with
  | .err er ps => ∃ (q : Nat) (hq : q < ts.length) (at' wt : Nat) (x : Option Addr) (n k : Nat), (ts[q]).pos = ps ∧ e = .returned (.tuple #[.agg #[.slice a ts.length c, .int .i64 q, .int .i64 d, .int .i64 er], .agg #[.int .i64 at', .float .f64 wt, .slice x n k]]) ∧ Below w.heap.size w w'
  | .ok ns r => ∃ (q at' wt : Nat) (x : Option Addr) (k : Nat) (ms : List MN), ts.drop q = r ∧ e = .returned (.tuple #[.agg #[.slice a ts.length c, .int .i64 q, .int .i64 d, .int .i64 0], .agg #[.int .i64 at', .float .f64 wt, .slice x ms.length k]]) ∧
      [.node [.int .i64 at', .float .f64 wt] [] (ms.map MN.pn)] = ns ∧ RowOf w' w.heap.size 83 5 81 3 (.slice x ms.length k) ms ∧ Below w.heap.size w w'
def QItemPost (a : Option Addr) (c : Nat) (ts : List Tok) (d : Nat) (o : Out) (w : World) (e : Ending) (w' : World) : Prop :=
  match o with
  | .err er ps => ∃ (q : Nat) (hq : q < ts.length) (at' : Nat) (kd op : Int) (tx : ByteArray) (x : Option Addr) (n k : Nat), (ts[q]).pos = ps ∧ e = .returned (.tuple #[.agg #[.slice a ts.length c, .int .i64 q, .int .i64 d, .int .i64 er], .agg #[.int .i64 at', .int .i64 kd, .string tx, .slice x n k, .int .u8 op]]) ∧ Below w.heap.size w w'
  | .ok ns r => ∃ (q at' : Nat) (kd op : Int) (tx : ByteArray) (x : Option Addr) (k : Nat) (ms : List MN), ts.drop q = r ∧ e = .returned (.tuple #[.agg #[.slice a ts.length c, .int .i64 q, .int .i64 d, .int .i64 0], .agg #[.int .i64 at', .int .i64 kd, .string tx, .slice x ms.length k, .int .u8 op]]) ∧
      [.node [.int .i64 at', .int .i64 kd, .string tx] [.int .u8 op] (ms.map MN.pn)] = ns ∧ RowOf w' w.heap.size 81 3 83 5 (.slice x ms.length k) ms ∧ Below w.heap.size w w'
/-- Five blocks in a row. -/
structure Five (w : World) (B : Nat) (o0 o1 o2 o3 o4 : Obj) : Prop where
  b0 : w.heap[B]? = some o0
  b1 : w.heap[B + 1]? = some o1
  b2 : w.heap[B + 1 + 1]? = some o2
  b3 : w.heap[B + 1 + 1 + 1]? = some o3
  b4 : w.heap[B + 1 + 1 + 1 + 1]? = some o4
theorem lt_of_some {w : World} {b : Nat} {o : Obj} (h : w.heap[b]? = some o) : b < w.heap.size := by
  rcases Nat.lt_or_ge b w.heap.size with h' | h'
  · exact h'
  · rw [Array.getElem?_eq_none h'] at h; cases h
theorem Five.go {w w' : World} {B : Nat} {o0 o1 o2 o3 o4 : Obj} (h : Five w B o0 o1 o2 o3 o4) (hb : Below w.heap.size w w') : Five w' B o0 o1 o2 o3 o4 :=
  ⟨(hb.block _ (lt_of_some h.b0)).trans h.b0, (hb.block _ (lt_of_some h.b1)).trans h.b1, (hb.block _ (lt_of_some h.b2)).trans h.b2, (hb.block _ (lt_of_some h.b3)).trans h.b3, (hb.block _ (lt_of_some h.b4)).trans h.b4⟩
theorem five_made (w : World) (o0 o1 o2 o3 o4 : Obj) : Five (((((w.alloc o0).alloc o1).alloc o2).alloc o3).alloc o4) w.heap.size o0 o1 o2 o3 o4 := by
  have h1 := heap_second w o0 o1
  have h2 : (((w.alloc o0).alloc o1).alloc o2).heap[w.heap.size + 1 + 1]? = some o2 := by have := heap_alloc_this ((w.alloc o0).alloc o1) o2; simpa using this
  have h3 : ((((w.alloc o0).alloc o1).alloc o2).alloc o3).heap[w.heap.size + 1 + 1 + 1]? = some o3 := by have := heap_alloc_this (((w.alloc o0).alloc o1).alloc o2) o3; simpa using this
  have h4 : (((((w.alloc o0).alloc o1).alloc o2).alloc o3).alloc o4).heap[w.heap.size + 1 + 1 + 1 + 1]? = some o4 := by have := heap_alloc_this ((((w.alloc o0).alloc o1).alloc o2).alloc o3) o4; simpa using this
  exact ⟨heap_alloc_keep (heap_alloc_keep (heap_alloc_keep (heap_alloc_keep (heap_alloc_this _ _)))), heap_alloc_keep (heap_alloc_keep (heap_alloc_keep h1)), heap_alloc_keep (heap_alloc_keep h2), heap_alloc_keep h3, h4⟩
theorem below_five (w : World) (o0 o1 o2 o3 o4 : Obj) : Below w.heap.size w (((((w.alloc o0).alloc o1).alloc o2).alloc o3).alloc o4) :=
  (below_two w o0 o1).trans (((below_two ((w.alloc o0).alloc o1) o2 o3).trans ((below_one ((((w.alloc o0).alloc o1).alloc o2).alloc o3) o4).mono (by simp only [World.size_alloc]; omega))).mono (by simp only [World.size_alloc]; omega))
def st75 (a : Option Addr) (n c p d : Nat) (e : Int) : Obj := .cells #[.slice a n c, .int .i64 p, .int .i64 d, .int .i64 e] 75
def z75 : Obj := .cells #[.slice none 0 0, .int .i64 0, .int .i64 0, .int .i64 0] 75
def z83 : Obj := .cells #[.int .i64 0, .int .i64 0, .string ⟨#[]⟩, .slice none 0 0, .int .u8 0] 83
attribute [local go_sem] run_store_float
set_option maxRecDepth 100000 in
set_option maxHeartbeats 8000000 in
theorem qitem_name {w : World} {a : Option Addr} {c : Nat} {ts : List Tok} {p d : Nat} (hT : ToksAt w w.heap.size a ts) (hp : p + 1 < ts.length) (hl : ts.length ≤ 100000) (hk : (ts[p]).kind = 1) :
    Calls Try.prog 74 #[.agg #[.slice a ts.length c, .int .i64 p, .int .i64 d, .int .i64 0]] w (QItemPost a c ts d (.ok [wordN ts[p] (opP (ts.drop (p + 1))).1] (opP (ts.drop (p + 1))).2) w) := by
  have HT := Lib.hid hT
  obtain ⟨b, o, rfl, hb, x0, x1, x2, x3⟩ := hT.cells0 (p := p) (by omega)
  rw [hk] at x0
  have hpi : (p : Int) < ts.length := by omega
  have hne : b ≠ w.heap.size := by omega
  have hn1 : b ≠ w.heap.size + 1 := by omega
  have hn2 : b ≠ w.heap.size + 1 + 1 := by omega
  have HS := fun W (h : Below w.heap.size w W) S => Lib.hid (qsign_any (c := c) (d := d) (e := 0) (hT.go h h.size) hp S)
  simp only [Int.natCast_add, Int.cast_ofNat_Int] at HS
  have HDR := Lib.hid (show ts.drop (p + 1) = ts[p + 1] :: ts.drop (p + 1 + 1) from List.drop_eq_getElem_cons hp)
  generalize hX : opP (ts.drop (p + 1)) = X
  have HX := Lib.hid hX
  clear hX
  clear hT
  have hw : wordN ts[p] = fun op => .node [.int .i64 (ts[p]).pos, .int .i64 0, .string (bOf (ts[p]).text)] [.int .u8 op] [] := by funext op; unfold wordN; rw [hk]; rfl
  rw [hw]
  clear hw hk
  generalize ts[p] = t at *
  obtain ⟨kd, ps, tx, wt⟩ := t
  simp only at *
  generalize bOf tx = T at *
  have y : ∀ (k : Nat) (v : Value), w.cell? ⟨b, k, none⟩ = some v → ∀ o0 o1 o2, (((w.alloc o0).alloc o1).alloc o2).cell? ⟨b, k, none⟩ = some v := fun k v h o0 o1 o2 => cell_alloc_keep (by simp only [World.size_alloc]; omega) (cell_alloc_keep (by simp only [World.size_alloc]; omega) (cell_alloc_keep hb h))
  have y0 := y _ _ x0
  have y1 := y _ _ x1
  have y2 := y _ _ x2
  have y3 := y _ _ x3
  clear y
  go_enter Try.func74, Try.ntmps74
  go_wp2_with fail
  have hB5 := below_five w (.cells #[.slice (some ⟨b, o, none⟩) ts.length c, .int .i64 (p + 1), .int .i64 d, .int .i64 0] 75) z75 z83 (.cells #[.int .i64 1, .int .i64 ps, .string T, .float .f64 wt] 60) (.cells #[.int .i64 ps, .int .i64 0, .string T, .slice none 0 0, .int .u8 0] 83)
  have hF := five_made w (.cells #[.slice (some ⟨b, o, none⟩) ts.length c, .int .i64 (p + 1), .int .i64 d, .int .i64 0] 75) z75 z83 (.cells #[.int .i64 1, .int .i64 ps, .string T, .float .f64 wt] 60) (.cells #[.int .i64 ps, .int .i64 0, .string T, .slice none 0 0, .int .u8 0] 83)
  have HB := Lib.hid hB5
  have HF := Lib.hid hF
  unfold z75 z83 at HB HF
  clear hB5 hF x0 x1 x2 x3 y0 y1 y2 y3
  have hne3 : b ≠ w.heap.size + 1 + 1 + 1 + 1 := by omega
  have hpi2 : (p : Int) + 1 < ts.length := by omega
  cases s0 : sgnB ts[p + 1] [63]
  · refine (HS _ HB.out [63]).out.mono ?_
    rw [s0]
    rintro e v1 ⟨rfl, hb1⟩
    have HF1 := Lib.hid (HF.out.go hb1)
    have HB1 := Lib.hid (HB.out.trans (hb1.mono HB.out.size))
    clear hb1
    obtain ⟨m0, m1, m2, m3⟩ := blk4 HF1.out.b0
    have ml := lt_of_some HF1.out.b0
    go_wp2_with fail
    clear m0 m1 m2 m3 ml
    cases s1 : sgnB ts[p + 1] [42]
    · refine (HS _ HB1.out [42]).out.mono ?_
      rw [s1]
      rintro e v2 ⟨rfl, hb2⟩
      have HF2 := Lib.hid (HF1.out.go hb2)
      have HB2 := Lib.hid (HB1.out.trans (hb2.mono HB1.out.size))
      clear hb2
      obtain ⟨m0, m1, m2, m3⟩ := blk4 HF2.out.b0
      have ml := lt_of_some HF2.out.b0
      go_wp2_with fail
      clear m0 m1 m2 m3 ml
      cases s2 : sgnB ts[p + 1] [43]
      · refine (HS _ HB2.out [43]).out.mono ?_
        rw [s2]
        rintro e v3 ⟨rfl, hb3⟩
        have HF3 := Lib.hid (HF2.out.go hb3)
        have HB3 := Lib.hid (HB2.out.trans (hb3.mono HB2.out.size))
        clear hb3
        obtain rfl : X = (0, ts.drop (p + 1)) := by rw [← HX.out, HDR.out, opP_cons, if_neg (by rw [s0]; decide), if_neg (by rw [s1]; decide), if_neg (by rw [s2]; decide), ← HDR.out]
        obtain ⟨c0, c1, c2, c3⟩ := blk4 HF3.out.b0
        obtain ⟨d0, d1, d2, d3⟩ := blk4 HF3.out.b1
        obtain ⟨e0, e1, e2, e3, e4⟩ := blk5 HF3.out.b2
        obtain ⟨g0, g1, g2, g3, g4⟩ := blk5 HF3.out.b4
        obtain ⟨u0, u1, u2, u3, _⟩ := blk5f HF3.out.b1
        obtain ⟨v0, v1, v2, v3, v4⟩ := blk5f HF3.out.b2
        have hl0 := lt_of_some HF3.out.b0
        have hl1 := lt_of_some HF3.out.b1
        have hl2 := lt_of_some HF3.out.b2
        have hl4 := lt_of_some HF3.out.b4
        go_wp2_with fail
        go_region
        all_goals go_wp2
        all_goals refine bodyPost_ret (v := .tuple #[.agg #[.slice (some ⟨b, o, none⟩) ts.length c, .int .i64 (p + 1), .int .i64 d, .int .i64 0], .agg #[.int .i64 ps, .int .i64 0, .string T, .slice none 0 0, .int .u8 0]]) (by simp [results, Try.results74, go_sem, *]) rfl ?_
        all_goals refine ⟨p + 1, ps, 0, 0, T, none, 0, [], rfl, rfl, rfl, RowOf.nil _ _ _ _ _ _, ?_⟩
        all_goals refine Below.drew ?_
        all_goals repeat refine Below.setCell ?_ (by dsimp only; omega) _
        all_goals exact HB3.out
      · have hx1 := sgn_text s2
        refine (HS _ HB2.out [43]).out.mono ?_
        rw [s2]
        rintro e v3 ⟨rfl, hb3⟩
        have HF3 := Lib.hid (HF2.out.go hb3)
        have HB3 := Lib.hid (HB2.out.trans (hb3.mono HB2.out.size))
        clear hb3
        obtain ⟨b', o', hbo, hb', t0, t1, t2, t3⟩ := (HT.out.go HB3.out HB3.out.size).cells0 hp
        obtain ⟨rfl, rfl⟩ : b = b' ∧ o = o' := by simpa using hbo
        rw [hx1] at t2
        simp only [show bOf [43] = ⟨#[43]⟩ from rfl] at t2
        clear t0 t1 t3 hbo hx1
        obtain rfl : X = (43, ts.drop (p + 1 + 1)) := by rw [← HX.out, HDR.out, opP_cons, if_neg (by rw [s0]; decide), if_neg (by rw [s1]; decide), if_pos s2]
        obtain ⟨c0, c1, c2, c3⟩ := blk4 HF3.out.b0
        have f01 := free_of_block (off := 1) HF3.out.b0
        obtain ⟨d0, d1, d2, d3⟩ := blk4 HF3.out.b1
        obtain ⟨e0, e1, e2, e3, e4⟩ := blk5 HF3.out.b2
        obtain ⟨g0, g1, g2, g3, g4⟩ := blk5 HF3.out.b4
        obtain ⟨u0, u1, u2, u3, _⟩ := blk5f HF3.out.b1
        obtain ⟨v0, v1, v2, v3, v4⟩ := blk5f HF3.out.b2
        have f44 := free_of_block (off := 4) HF3.out.b4
        have hl0 := lt_of_some HF3.out.b0
        have hl1 := lt_of_some HF3.out.b1
        have hl2 := lt_of_some HF3.out.b2
        have hl4 := lt_of_some HF3.out.b4
        go_wp2_with fail
        go_region
        all_goals go_wp2
        all_goals refine bodyPost_ret (v := .tuple #[.agg #[.slice (some ⟨b, o, none⟩) ts.length c, .int .i64 (p + 1 + 1), .int .i64 d, .int .i64 0], .agg #[.int .i64 ps, .int .i64 0, .string T, .slice none 0 0, .int .u8 43]]) (by simp [results, Try.results74, go_sem, *]; rfl) rfl ?_
        all_goals refine ⟨p + 1 + 1, ps, 0, 43, T, none, 0, [], rfl, rfl, rfl, RowOf.nil _ _ _ _ _ _, ?_⟩
        all_goals refine Below.drew ?_
        all_goals repeat refine Below.setCell ?_ (by dsimp only; omega) _
        all_goals exact HB3.out
    · have hx1 := sgn_text s1
      refine (HS _ HB1.out [42]).out.mono ?_
      rw [s1]
      rintro e v2 ⟨rfl, hb2⟩
      have HF2 := Lib.hid (HF1.out.go hb2)
      have HB2 := Lib.hid (HB1.out.trans (hb2.mono HB1.out.size))
      clear hb2
      obtain ⟨b', o', hbo, hb', t0, t1, t2, t3⟩ := (HT.out.go HB2.out HB2.out.size).cells0 hp
      obtain ⟨rfl, rfl⟩ : b = b' ∧ o = o' := by simpa using hbo
      rw [hx1] at t2
      simp only [show bOf [42] = ⟨#[42]⟩ from rfl] at t2
      clear t0 t1 t3 hbo hx1
      obtain rfl : X = (42, ts.drop (p + 1 + 1)) := by rw [← HX.out, HDR.out, opP_cons, if_neg (by rw [s0]; decide), if_pos s1]
      obtain ⟨c0, c1, c2, c3⟩ := blk4 HF2.out.b0
      have f01 := free_of_block (off := 1) HF2.out.b0
      obtain ⟨d0, d1, d2, d3⟩ := blk4 HF2.out.b1
      obtain ⟨e0, e1, e2, e3, e4⟩ := blk5 HF2.out.b2
      obtain ⟨g0, g1, g2, g3, g4⟩ := blk5 HF2.out.b4
      obtain ⟨u0, u1, u2, u3, _⟩ := blk5f HF2.out.b1
      obtain ⟨v0, v1, v2, v3, v4⟩ := blk5f HF2.out.b2
      have f44 := free_of_block (off := 4) HF2.out.b4
      have hl0 := lt_of_some HF2.out.b0
      have hl1 := lt_of_some HF2.out.b1
      have hl2 := lt_of_some HF2.out.b2
      have hl4 := lt_of_some HF2.out.b4
      go_wp2_with fail
      go_region
      all_goals go_wp2
      all_goals refine bodyPost_ret (v := .tuple #[.agg #[.slice (some ⟨b, o, none⟩) ts.length c, .int .i64 (p + 1 + 1), .int .i64 d, .int .i64 0], .agg #[.int .i64 ps, .int .i64 0, .string T, .slice none 0 0, .int .u8 42]]) (by simp [results, Try.results74, go_sem, *]; rfl) rfl ?_
      all_goals refine ⟨p + 1 + 1, ps, 0, 42, T, none, 0, [], rfl, rfl, rfl, RowOf.nil _ _ _ _ _ _, ?_⟩
      all_goals refine Below.drew ?_
      all_goals repeat refine Below.setCell ?_ (by dsimp only; omega) _
      all_goals exact HB2.out
  · have hx1 := sgn_text s0
    refine (HS _ HB.out [63]).out.mono ?_
    rw [s0]
    rintro e v1 ⟨rfl, hb1⟩
    have HF1 := Lib.hid (HF.out.go hb1)
    have HB1 := Lib.hid (HB.out.trans (hb1.mono HB.out.size))
    clear hb1
    obtain ⟨b', o', hbo, hb', t0, t1, t2, t3⟩ := (HT.out.go HB1.out HB1.out.size).cells0 hp
    obtain ⟨rfl, rfl⟩ : b = b' ∧ o = o' := by simpa using hbo
    rw [hx1] at t2
    simp only [show bOf [63] = ⟨#[63]⟩ from rfl] at t2
    clear t0 t1 t3 hbo hx1
    obtain rfl : X = (63, ts.drop (p + 1 + 1)) := by rw [← HX.out, HDR.out, opP_cons, if_pos s0]
    obtain ⟨c0, c1, c2, c3⟩ := blk4 HF1.out.b0
    have f01 := free_of_block (off := 1) HF1.out.b0
    obtain ⟨d0, d1, d2, d3⟩ := blk4 HF1.out.b1
    obtain ⟨e0, e1, e2, e3, e4⟩ := blk5 HF1.out.b2
    obtain ⟨g0, g1, g2, g3, g4⟩ := blk5 HF1.out.b4
    obtain ⟨u0, u1, u2, u3, _⟩ := blk5f HF1.out.b1
    obtain ⟨v0, v1, v2, v3, v4⟩ := blk5f HF1.out.b2
    have f44 := free_of_block (off := 4) HF1.out.b4
    have hl0 := lt_of_some HF1.out.b0
    have hl1 := lt_of_some HF1.out.b1
    have hl2 := lt_of_some HF1.out.b2
    have hl4 := lt_of_some HF1.out.b4
    go_wp2_with fail
    go_region
    all_goals go_wp2
    all_goals refine bodyPost_ret (v := .tuple #[.agg #[.slice (some ⟨b, o, none⟩) ts.length c, .int .i64 (p + 1 + 1), .int .i64 d, .int .i64 0], .agg #[.int .i64 ps, .int .i64 0, .string T, .slice none 0 0, .int .u8 63]]) (by simp [results, Try.results74, go_sem, *]; rfl) rfl ?_
    all_goals refine ⟨p + 1 + 1, ps, 0, 63, T, none, 0, [], rfl, rfl, rfl, RowOf.nil _ _ _ _ _ _, ?_⟩
    all_goals refine Below.drew ?_
    all_goals repeat refine Below.setCell ?_ (by dsimp only; omega) _
    all_goals exact HB1.out
set_option maxRecDepth 100000 in
set_option maxHeartbeats 8000000 in
theorem qitem_quote {w : World} {a : Option Addr} {c : Nat} {ts : List Tok} {p d : Nat} (hT : ToksAt w w.heap.size a ts) (hp : p + 1 < ts.length) (hl : ts.length ≤ 100000) (hk : (ts[p]).kind = 2) :
    Calls Try.prog 74 #[.agg #[.slice a ts.length c, .int .i64 p, .int .i64 d, .int .i64 0]] w (QItemPost a c ts d (.ok [wordN ts[p] (opP (ts.drop (p + 1))).1] (opP (ts.drop (p + 1))).2) w) := by
  have HT := Lib.hid hT
  obtain ⟨b, o, rfl, hb, x0, x1, x2, x3⟩ := hT.cells0 (p := p) (by omega)
  rw [hk] at x0
  have hpi : (p : Int) < ts.length := by omega
  have hne : b ≠ w.heap.size := by omega
  have hn1 : b ≠ w.heap.size + 1 := by omega
  have hn2 : b ≠ w.heap.size + 1 + 1 := by omega
  have HS := fun W (h : Below w.heap.size w W) S => Lib.hid (qsign_any (c := c) (d := d) (e := 0) (hT.go h h.size) hp S)
  simp only [Int.natCast_add, Int.cast_ofNat_Int] at HS
  have HDR := Lib.hid (show ts.drop (p + 1) = ts[p + 1] :: ts.drop (p + 1 + 1) from List.drop_eq_getElem_cons hp)
  generalize hX : opP (ts.drop (p + 1)) = X
  have HX := Lib.hid hX
  clear hX
  clear hT
  have hw : wordN ts[p] = fun op => .node [.int .i64 (ts[p]).pos, .int .i64 1, .string (bOf (ts[p]).text)] [.int .u8 op] [] := by funext op; unfold wordN; rw [hk]; rfl
  rw [hw]
  clear hw hk
  generalize ts[p] = t at *
  obtain ⟨kd, ps, tx, wt⟩ := t
  simp only at *
  generalize bOf tx = T at *
  have y : ∀ (k : Nat) (v : Value), w.cell? ⟨b, k, none⟩ = some v → ∀ o0 o1 o2, (((w.alloc o0).alloc o1).alloc o2).cell? ⟨b, k, none⟩ = some v := fun k v h o0 o1 o2 => cell_alloc_keep (by simp only [World.size_alloc]; omega) (cell_alloc_keep (by simp only [World.size_alloc]; omega) (cell_alloc_keep hb h))
  have y0 := y _ _ x0
  have y1 := y _ _ x1
  have y2 := y _ _ x2
  have y3 := y _ _ x3
  clear y
  go_enter Try.func74, Try.ntmps74
  go_wp2_with fail
  have hB5 := below_five w (.cells #[.slice (some ⟨b, o, none⟩) ts.length c, .int .i64 (p + 1), .int .i64 d, .int .i64 0] 75) z75 z83 (.cells #[.int .i64 2, .int .i64 ps, .string T, .float .f64 wt] 60) (.cells #[.int .i64 ps, .int .i64 1, .string T, .slice none 0 0, .int .u8 0] 83)
  have hF := five_made w (.cells #[.slice (some ⟨b, o, none⟩) ts.length c, .int .i64 (p + 1), .int .i64 d, .int .i64 0] 75) z75 z83 (.cells #[.int .i64 2, .int .i64 ps, .string T, .float .f64 wt] 60) (.cells #[.int .i64 ps, .int .i64 1, .string T, .slice none 0 0, .int .u8 0] 83)
  have HB := Lib.hid hB5
  have HF := Lib.hid hF
  unfold z75 z83 at HB HF
  clear hB5 hF x0 x1 x2 x3 y0 y1 y2 y3
  have hne3 : b ≠ w.heap.size + 1 + 1 + 1 + 1 := by omega
  have hpi2 : (p : Int) + 1 < ts.length := by omega
  cases s0 : sgnB ts[p + 1] [63]
  · refine (HS _ HB.out [63]).out.mono ?_
    rw [s0]
    rintro e v1 ⟨rfl, hb1⟩
    have HF1 := Lib.hid (HF.out.go hb1)
    have HB1 := Lib.hid (HB.out.trans (hb1.mono HB.out.size))
    clear hb1
    obtain ⟨m0, m1, m2, m3⟩ := blk4 HF1.out.b0
    have ml := lt_of_some HF1.out.b0
    go_wp2_with fail
    clear m0 m1 m2 m3 ml
    cases s1 : sgnB ts[p + 1] [42]
    · refine (HS _ HB1.out [42]).out.mono ?_
      rw [s1]
      rintro e v2 ⟨rfl, hb2⟩
      have HF2 := Lib.hid (HF1.out.go hb2)
      have HB2 := Lib.hid (HB1.out.trans (hb2.mono HB1.out.size))
      clear hb2
      obtain ⟨m0, m1, m2, m3⟩ := blk4 HF2.out.b0
      have ml := lt_of_some HF2.out.b0
      go_wp2_with fail
      clear m0 m1 m2 m3 ml
      cases s2 : sgnB ts[p + 1] [43]
      · refine (HS _ HB2.out [43]).out.mono ?_
        rw [s2]
        rintro e v3 ⟨rfl, hb3⟩
        have HF3 := Lib.hid (HF2.out.go hb3)
        have HB3 := Lib.hid (HB2.out.trans (hb3.mono HB2.out.size))
        clear hb3
        obtain rfl : X = (0, ts.drop (p + 1)) := by rw [← HX.out, HDR.out, opP_cons, if_neg (by rw [s0]; decide), if_neg (by rw [s1]; decide), if_neg (by rw [s2]; decide), ← HDR.out]
        obtain ⟨c0, c1, c2, c3⟩ := blk4 HF3.out.b0
        obtain ⟨d0, d1, d2, d3⟩ := blk4 HF3.out.b1
        obtain ⟨e0, e1, e2, e3, e4⟩ := blk5 HF3.out.b2
        obtain ⟨g0, g1, g2, g3, g4⟩ := blk5 HF3.out.b4
        obtain ⟨u0, u1, u2, u3, _⟩ := blk5f HF3.out.b1
        obtain ⟨v0, v1, v2, v3, v4⟩ := blk5f HF3.out.b2
        have hl0 := lt_of_some HF3.out.b0
        have hl1 := lt_of_some HF3.out.b1
        have hl2 := lt_of_some HF3.out.b2
        have hl4 := lt_of_some HF3.out.b4
        go_wp2_with fail
        go_region
        all_goals go_wp2
        all_goals refine bodyPost_ret (v := .tuple #[.agg #[.slice (some ⟨b, o, none⟩) ts.length c, .int .i64 (p + 1), .int .i64 d, .int .i64 0], .agg #[.int .i64 ps, .int .i64 1, .string T, .slice none 0 0, .int .u8 0]]) (by simp [results, Try.results74, go_sem, *]) rfl ?_
        all_goals refine ⟨p + 1, ps, 1, 0, T, none, 0, [], rfl, rfl, rfl, RowOf.nil _ _ _ _ _ _, ?_⟩
        all_goals refine Below.drew ?_
        all_goals repeat refine Below.setCell ?_ (by dsimp only; omega) _
        all_goals exact HB3.out
      · have hx1 := sgn_text s2
        refine (HS _ HB2.out [43]).out.mono ?_
        rw [s2]
        rintro e v3 ⟨rfl, hb3⟩
        have HF3 := Lib.hid (HF2.out.go hb3)
        have HB3 := Lib.hid (HB2.out.trans (hb3.mono HB2.out.size))
        clear hb3
        obtain ⟨b', o', hbo, hb', t0, t1, t2, t3⟩ := (HT.out.go HB3.out HB3.out.size).cells0 hp
        obtain ⟨rfl, rfl⟩ : b = b' ∧ o = o' := by simpa using hbo
        rw [hx1] at t2
        simp only [show bOf [43] = ⟨#[43]⟩ from rfl] at t2
        clear t0 t1 t3 hbo hx1
        obtain rfl : X = (43, ts.drop (p + 1 + 1)) := by rw [← HX.out, HDR.out, opP_cons, if_neg (by rw [s0]; decide), if_neg (by rw [s1]; decide), if_pos s2]
        obtain ⟨c0, c1, c2, c3⟩ := blk4 HF3.out.b0
        have f01 := free_of_block (off := 1) HF3.out.b0
        obtain ⟨d0, d1, d2, d3⟩ := blk4 HF3.out.b1
        obtain ⟨e0, e1, e2, e3, e4⟩ := blk5 HF3.out.b2
        obtain ⟨g0, g1, g2, g3, g4⟩ := blk5 HF3.out.b4
        obtain ⟨u0, u1, u2, u3, _⟩ := blk5f HF3.out.b1
        obtain ⟨v0, v1, v2, v3, v4⟩ := blk5f HF3.out.b2
        have f44 := free_of_block (off := 4) HF3.out.b4
        have hl0 := lt_of_some HF3.out.b0
        have hl1 := lt_of_some HF3.out.b1
        have hl2 := lt_of_some HF3.out.b2
        have hl4 := lt_of_some HF3.out.b4
        go_wp2_with fail
        go_region
        all_goals go_wp2
        all_goals refine bodyPost_ret (v := .tuple #[.agg #[.slice (some ⟨b, o, none⟩) ts.length c, .int .i64 (p + 1 + 1), .int .i64 d, .int .i64 0], .agg #[.int .i64 ps, .int .i64 1, .string T, .slice none 0 0, .int .u8 43]]) (by simp [results, Try.results74, go_sem, *]; rfl) rfl ?_
        all_goals refine ⟨p + 1 + 1, ps, 1, 43, T, none, 0, [], rfl, rfl, rfl, RowOf.nil _ _ _ _ _ _, ?_⟩
        all_goals refine Below.drew ?_
        all_goals repeat refine Below.setCell ?_ (by dsimp only; omega) _
        all_goals exact HB3.out
    · have hx1 := sgn_text s1
      refine (HS _ HB1.out [42]).out.mono ?_
      rw [s1]
      rintro e v2 ⟨rfl, hb2⟩
      have HF2 := Lib.hid (HF1.out.go hb2)
      have HB2 := Lib.hid (HB1.out.trans (hb2.mono HB1.out.size))
      clear hb2
      obtain ⟨b', o', hbo, hb', t0, t1, t2, t3⟩ := (HT.out.go HB2.out HB2.out.size).cells0 hp
      obtain ⟨rfl, rfl⟩ : b = b' ∧ o = o' := by simpa using hbo
      rw [hx1] at t2
      simp only [show bOf [42] = ⟨#[42]⟩ from rfl] at t2
      clear t0 t1 t3 hbo hx1
      obtain rfl : X = (42, ts.drop (p + 1 + 1)) := by rw [← HX.out, HDR.out, opP_cons, if_neg (by rw [s0]; decide), if_pos s1]
      obtain ⟨c0, c1, c2, c3⟩ := blk4 HF2.out.b0
      have f01 := free_of_block (off := 1) HF2.out.b0
      obtain ⟨d0, d1, d2, d3⟩ := blk4 HF2.out.b1
      obtain ⟨e0, e1, e2, e3, e4⟩ := blk5 HF2.out.b2
      obtain ⟨g0, g1, g2, g3, g4⟩ := blk5 HF2.out.b4
      obtain ⟨u0, u1, u2, u3, _⟩ := blk5f HF2.out.b1
      obtain ⟨v0, v1, v2, v3, v4⟩ := blk5f HF2.out.b2
      have f44 := free_of_block (off := 4) HF2.out.b4
      have hl0 := lt_of_some HF2.out.b0
      have hl1 := lt_of_some HF2.out.b1
      have hl2 := lt_of_some HF2.out.b2
      have hl4 := lt_of_some HF2.out.b4
      go_wp2_with fail
      go_region
      all_goals go_wp2
      all_goals refine bodyPost_ret (v := .tuple #[.agg #[.slice (some ⟨b, o, none⟩) ts.length c, .int .i64 (p + 1 + 1), .int .i64 d, .int .i64 0], .agg #[.int .i64 ps, .int .i64 1, .string T, .slice none 0 0, .int .u8 42]]) (by simp [results, Try.results74, go_sem, *]; rfl) rfl ?_
      all_goals refine ⟨p + 1 + 1, ps, 1, 42, T, none, 0, [], rfl, rfl, rfl, RowOf.nil _ _ _ _ _ _, ?_⟩
      all_goals refine Below.drew ?_
      all_goals repeat refine Below.setCell ?_ (by dsimp only; omega) _
      all_goals exact HB2.out
  · have hx1 := sgn_text s0
    refine (HS _ HB.out [63]).out.mono ?_
    rw [s0]
    rintro e v1 ⟨rfl, hb1⟩
    have HF1 := Lib.hid (HF.out.go hb1)
    have HB1 := Lib.hid (HB.out.trans (hb1.mono HB.out.size))
    clear hb1
    obtain ⟨b', o', hbo, hb', t0, t1, t2, t3⟩ := (HT.out.go HB1.out HB1.out.size).cells0 hp
    obtain ⟨rfl, rfl⟩ : b = b' ∧ o = o' := by simpa using hbo
    rw [hx1] at t2
    simp only [show bOf [63] = ⟨#[63]⟩ from rfl] at t2
    clear t0 t1 t3 hbo hx1
    obtain rfl : X = (63, ts.drop (p + 1 + 1)) := by rw [← HX.out, HDR.out, opP_cons, if_pos s0]
    obtain ⟨c0, c1, c2, c3⟩ := blk4 HF1.out.b0
    have f01 := free_of_block (off := 1) HF1.out.b0
    obtain ⟨d0, d1, d2, d3⟩ := blk4 HF1.out.b1
    obtain ⟨e0, e1, e2, e3, e4⟩ := blk5 HF1.out.b2
    obtain ⟨g0, g1, g2, g3, g4⟩ := blk5 HF1.out.b4
    obtain ⟨u0, u1, u2, u3, _⟩ := blk5f HF1.out.b1
    obtain ⟨v0, v1, v2, v3, v4⟩ := blk5f HF1.out.b2
    have f44 := free_of_block (off := 4) HF1.out.b4
    have hl0 := lt_of_some HF1.out.b0
    have hl1 := lt_of_some HF1.out.b1
    have hl2 := lt_of_some HF1.out.b2
    have hl4 := lt_of_some HF1.out.b4
    go_wp2_with fail
    go_region
    all_goals go_wp2
    all_goals refine bodyPost_ret (v := .tuple #[.agg #[.slice (some ⟨b, o, none⟩) ts.length c, .int .i64 (p + 1 + 1), .int .i64 d, .int .i64 0], .agg #[.int .i64 ps, .int .i64 1, .string T, .slice none 0 0, .int .u8 63]]) (by simp [results, Try.results74, go_sem, *]; rfl) rfl ?_
    all_goals refine ⟨p + 1 + 1, ps, 1, 63, T, none, 0, [], rfl, rfl, rfl, RowOf.nil _ _ _ _ _ _, ?_⟩
    all_goals refine Below.drew ?_
    all_goals repeat refine Below.setCell ?_ (by dsimp only; omega) _
    all_goals exact HB1.out
end Go.Proofs.Yticdihfjnmjkmaa
