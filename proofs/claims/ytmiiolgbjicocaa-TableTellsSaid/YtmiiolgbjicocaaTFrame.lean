/- The functions as the laws call them. -/
import Derived.Test.YtmiiolgbjicocaaAlive
import Derived.Test.YtmiiolgbjicocaaMoreP
import Derived.Test.YtmiiolgbjicocaaWholeG
namespace Go.Proofs.Ytmiiolgbjicocaa
open Go.RowKit
theorem nt_val {x : Int} (h : -9223372036854775808 ≤ x ∧ x ≤ 9223372036854775807) : nt x = -x - 1 := by
  have e : nt x = IntKind.i64.wrap ((BitVec.ofInt 64 (-1) ^^^ BitVec.ofInt 64 x).toNat : Int) := rfl
  rw [e, show (BitVec.ofInt 64 (-1)) = BitVec.allOnes 64 by decide, BitVec.allOnes_xor, BitVec.toNat_not, IntKind.wrap_i64]
  simp only [BitVec.toNat_ofInt]
  omega
/-- The grammar in the law's variable. -/
def Box (w : World) (g : GramD) (wr : World) : Prop := Boxed w w.heap.size g wr
theorem Box.go {w wr w2 : World} {g : GramD} (h : Box w g wr) (k : Grow wr w2) : Box w g w2 := Boxed.next h (Nat.le_refl _) k
theorem Box.grow {w wr : World} {g : GramD} (h : Box w g wr) : Grow w wr := h.below
theorem Box.c0 {w wr : World} {g : GramD} (h : Box w g wr) : wr.cell? ⟨w.heap.size, 0, none⟩ = some (.slice g.ta g.terms.length g.tc) := cell_of_block h.blk
theorem Box.c1 {w wr : World} {g : GramD} (h : Box w g wr) : wr.cell? ⟨w.heap.size, 1, none⟩ = some (.slice g.va g.vars.length g.vc) := cell_of_block h.blk
theorem Box.c2 {w wr : World} {g : GramD} (h : Box w g wr) : wr.cell? ⟨w.heap.size, 2, none⟩ = some (.slice g.ra g.rules.length g.rc) := cell_of_block h.blk
theorem Box.gram' {w wr : World} {g : GramD} (h : Box w g wr) : GramAt wr wr.heap.size g := gram_up h.gram (Nat.le_of_lt h.size)
theorem box_start {w : World} {g : GramD} (h : GramAt w w.heap.size g) : Box w g (w.alloc (.cells #[.slice g.ta g.terms.length g.tc, .slice g.va g.vars.length g.vc, .slice g.ra g.rules.length g.rc] 25)) := boxed_start h (Nat.le_refl _)
/-- The numbers of a grammar that came in are such as there are. -/
def WfG (g : GramD) : Prop := ∀ i (h : i < g.rules.length), g.rules[i].right.length ≤ g.rules[i].rc ∧ ∀ x ∈ g.rules[i].right, (Lit.int .i64 x).wf = true
structure GoodW (g : GramD) : Prop where
  nv : 0 < g.vars.length ∧ g.vars.length ≤ 8
  nr : g.rules.length ≤ 24
  good : GoodR g.vars.length (rulesOf g)
  left : ∀ i (h : i < g.rules.length), 0 ≤ g.rules[i].left ∧ g.rules[i].right.length ≤ g.rules[i].rc
  up : LeftsUp g.rules
theorem goodW_of {g : GramD} (h : WholeOk g) (hw : WfG g) : GoodW g := by
  obtain ⟨⟨h1, h2⟩, ⟨h3, h4⟩, h5, h6⟩ := h
  refine ⟨⟨h1, h3⟩, h5, fun r hr => ?_, fun i hi => ⟨(h2 i hi).1.1, (hw i hi).1⟩, leftsUp_of (fun k hk l hl e => (h2 k hk).2.2.2 l hl e)⟩
  obtain ⟨i, hi, rfl⟩ := List.mem_iff_getElem.1 hr
  have hil : i < g.rules.length := by simpa [rulesOf] using hi
  have e : (rulesOf g)[i] = (g.rules[i].left.toNat, g.rules[i].right) := by simp [rulesOf]
  rw [e]
  obtain ⟨⟨a1, a2⟩, b, -, -⟩ := h2 i hil
  refine ⟨by show g.rules[i].left.toNat < _; omega, fun s hs => ?_, h6 i hil⟩
  obtain ⟨j, hj, rfl⟩ := List.mem_iff_getElem.1 hs
  obtain ⟨b1, b2⟩ := b j hj
  refine ⟨b1, ?_⟩
  by_cases h0 : g.rules[i].right[j] < 0
  · have h7 := b2 h0
    have h8 := (hw i hil).2 _ hs
    have h9 : -9223372036854775808 ≤ g.rules[i].right[j] ∧ g.rules[i].right[j] ≤ 9223372036854775807 := by
      simpa [Lit.wf, IntKind.min, IntKind.max, IntKind.signed, IntKind.bits] using h8
    rw [nt_val h9] at h7
    show -6 ≤ g.rules[i].right[j]
    omega
  · show -6 ≤ g.rules[i].right[j]
    omega
/-- A table that stands. -/
def TabG (K : Int) (g : GramD) (F Fo : List Wds) (T : List (List TRow)) (tb : Nat) (wr : World) : Prop := ∃ lo ob oc ρ, TabM lo ρ tb ob g.vars.length oc K g T wr ∧ TOf (addsOf K g F Fo g.rules.length) T
theorem TabG.go {K : Int} {g : GramD} {F Fo : List Wds} {T : List (List TRow)} {tb : Nat} {w w' : World} (h : TabG K g F Fo T tb w) (hg : Grow w w') : TabG K g F Fo T tb w' := by
  obtain ⟨lo, ob, oc, ρ, h1, h2⟩ := h
  exact ⟨lo, ob, oc, ρ, h1.grow hg, h2⟩
/-- Sets that stand. -/
theorem GoodSets.ok {K n : Int} {g : GramD} {sb : Nat} {F Fo : List Wds} {w : World} (h : GoodSets K n g sb F Fo w) (hg : GoodW g) (hK : K ≤ 2) : ∀ k, OkW (lookL K g F Fo k) ∧ Sorted (lookL K g F Fo k) := fun k => by
  obtain ⟨-, h1, h2, -⟩ := h
  by_cases hk : k < g.rules.length
  · rw [lookL_at hk]
    obtain ⟨_, h3, _⟩ := hg.good _ (List.mem_of_getElem? (rulesOf_at hk))
    exact ⟨okW_ahead (sysF_ok hK hg.good h1) hK h3 (sysD_ok hK hg.good h2 _), sorted_ahead _ _ _ _⟩
  · unfold lookL
    rw [List.getElem?_eq_none (by omega)]
    exact ⟨fun w hw => by simp at hw, fun i j a b _ h _ => by simp at h⟩
/-- Small rows. -/
def SmallT (T : List (List TRow)) : Prop := ∀ (v : Nat) x, T[v]? = some x → Sorted (x.map Prod.fst) ∧ x.length ≤ 100000 ∧ ∀ r ∈ x, r.1.length ≤ 100000 ∧ r.2.length ≤ 100000
theorem smallT_of {K : Int} {g : GramD} {F Fo : List Wds} {T : List (List TRow)} (hl : ∀ k, OkW (lookL K g F Fo k) ∧ Sorted (lookL K g F Fo k)) (hn : g.rules.length ≤ 24) (h : TOf (addsOf K g F Fo g.rules.length) T) : SmallT T := fun v x hx => by
  have h1 := h v x hx
  have h2 := addsOf_len (fun k => okW_few (hl k).2 (hl k).1) g.rules.length
  obtain ⟨h3, h4⟩ := h1.small (by omega) (addsOf_short (fun k => (hl k).1) _)
  exact ⟨h1.srt, by omega, fun r hr => ⟨by have := (h4 r hr).1; omega, by have := (h4 r hr).2; omega⟩⟩
section
variable {w wr : World} {g : GramD} {K n : Int} {F Fo : List Wds} {T : List (List TRow)} {tb sb : Nat}
theorem whole_bx (h : Box w g wr) : Calls Try.prog 8 #[.agg #[.slice g.ta g.terms.length g.tc, .slice g.va g.vars.length g.vc, .slice g.ra g.rules.length g.rc]] wr (WholePost g wr) := whole_any h.gram' (Nat.le_refl _)
theorem first_bx (h : Box w g wr) (hg : GoodW g) (hK : 1 ≤ K ∧ K ≤ 2) (hn : 0 ≤ n ∧ n ≤ 1000000) : Calls Try.prog 10 #[.agg #[.slice g.ta g.terms.length g.tc, .slice g.va g.vars.length g.vc, .slice g.ra g.rules.length g.rc], .int .i64 K, .int .i64 n] wr (FirstPost K n g wr) :=
  first_any h.gram' (Nat.le_refl _) hK hn hg.nv hg.good hg.nr hg.left
def TabGPost (K : Int) (g : GramD) (F Fo : List Wds) (wr : World) (e : Ending) (w' : World) : Prop := ∃ tb T, e = .returned (.pointer (some ⟨tb, 0, none⟩)) ∧ Grow wr w' ∧ TabG K g F Fo T tb w' ∧ SmallT T ∧ TOf (addsOf K g F Fo g.rules.length) T ∧ T.length = g.vars.length
theorem table_bx (h : Box w g wr) (hg : GoodW g) (hK : 1 ≤ K ∧ K ≤ 2) (hS : GoodSets K n g sb F Fo wr) : Calls Try.prog 11 #[.agg #[.slice g.ta g.terms.length g.tc, .slice g.va g.vars.length g.vc, .slice g.ra g.rules.length g.rc], .pointer (some ⟨sb, 0, none⟩)] wr (TabGPost K g F Fo wr) :=
  (tof_any h.gram' h.gram' rfl rfl (Nat.le_refl _) hS hK hg.nv hg.good hg.nr (fun i hi => (hg.left i hi).1) (fun i hi => (hg.left i hi).1)).mono (fun _ _ h => by
    obtain ⟨tb, rfl, h1, lo, ob, oc, ρ, T, h2, h3⟩ := h
    exact ⟨tb, T, rfl, h1, ⟨lo, ob, oc, ρ, h2, h3⟩, smallT_of (hS.ok hg hK.2) hg.nr h3, h3, h2.len⟩)
theorem clashes_bx (h : Box w g wr) (hg : GoodW g) (hT : TabG K g F Fo T tb wr) (hs : SmallT T) : Calls Try.prog 19 #[.pointer (some ⟨tb, 0, none⟩)] wr (ClashPost (clV g.rules T g.vars.length) wr) := by
  obtain ⟨lo, ob, oc, ρ, h2, h3⟩ := hT
  exact clashes_any h2 h.gram' (Nat.le_refl _) hg.up (by have := hg.nr; omega) (by have := hg.nv; omega) (fun v x hx => (hs v x hx).2)
theorem tabG_at {v : Nat} (hT : TabG K g F Fo T tb wr) (hv : v < g.vars.length) : ∃ x, T[v]? = some x ∧ T.getD v [] = x ∧ TRows wr tb v g.vars.length x := by
  obtain ⟨lo, ob, oc, ρ, h2, h3⟩ := hT
  have hvl : v < T.length := by rw [h2.len]; exact hv
  have h1 := List.getElem?_eq_getElem hvl
  exact ⟨T[v], h1, by rw [List.getD_eq_getElem?_getD, h1]; rfl, h2.read h1⟩
theorem clear_bx {v : Nat} (hT : TabG K g F Fo T tb wr) (hs : SmallT T) (hv : v < g.vars.length) : Calls Try.prog 17 #[.pointer (some ⟨tb, 0, none⟩), .int .i64 (v : Nat)] wr (ClearPost (clearT (T.getD v [])) wr) := by
  obtain ⟨x, h1, h2, h3⟩ := tabG_at hT hv
  rw [h2]
  exact clear_any h3 (hs v x h1).2.2 (hs v x h1).2.1
theorem rows_bx {v : Nat} (hT : TabG K g F Fo T tb wr) (hs : SmallT T) (hv : v < g.vars.length) : Calls Try.prog 13 #[.pointer (some ⟨tb, 0, none⟩), .int .i64 (v : Nat)] wr (RowsPost (T.getD v []) wr) := by
  obtain ⟨x, h1, h2, h3⟩ := tabG_at hT hv
  rw [h2]
  exact rows_any h3 (hs v x h1).2.2 (hs v x h1).2.1
theorem tabG_K (hT : TabG K g F Fo T tb wr) : wr.cell? ⟨tb, 0, none⟩ = some (.int .i64 K) := by
  obtain ⟨lo, ob, oc, ρ, h2, h3⟩ := hT
  exact cell_of_block (off := 0) h2.base.tab
theorem find_bx {v : Nat} {a : Option Addr} {c : Nat} {xs : List Int} (hT : TabG K g F Fo T tb wr) (hs : SmallT T) (hv : v < g.vars.length) (hx : Lst wr a xs) (hn0 : a = none → c = 0) (hxc : xs.length ≤ c) (hxl : xs.length ≤ 100000) : Calls Try.prog 16 #[.pointer (some ⟨tb, 0, none⟩), .int .i64 (v : Nat), .slice a xs.length c] wr (TFindPost (findT (T.getD v []) (cutL xs K)) wr) := by
  obtain ⟨x, h1, h2, h3⟩ := tabG_at hT hv
  rw [h2]
  exact tfind_walk h3 (tabG_K hT) (hs v x h1).1 hx hn0 hxc hxl (hs v x h1).2.2 (hs v x h1).2.1
end
end Go.Proofs.Ytmiiolgbjicocaa
