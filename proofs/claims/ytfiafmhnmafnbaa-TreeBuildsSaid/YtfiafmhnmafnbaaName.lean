/- A symbol as text. -/
import Derived.Test.YtfiafmhnmafnbaaValid
namespace Go.Proofs.Ytfiafmhnmafnbaa
open Go.RowKit
/-- A symbol that has a name. -/
def SymOk (g : GramD) (s : Int) : Prop := s < g.vars.length ∧ (s < 0 → 0 ≤ nt s ∧ nt s < g.terms.length)
/-- Names that are not long. -/
def Brief (g : GramD) : Prop := (∀ i (h : i < g.terms.length), g.terms[i].size ≤ 1048576) ∧ ∀ i (h : i < g.vars.length), g.vars[i].size ≤ 1048576
def quoteS (t : ByteArray) : ByteArray := ByteArray.append (ByteArray.append ⟨#[39]⟩ t) ⟨#[39]⟩
def nameS (g : GramD) (s : Int) : ByteArray := if 0 ≤ s then (g.vars[s.toNat]?).getD ⟨#[]⟩ else quoteS ((g.terms[(nt s).toNat]?).getD ⟨#[]⟩)
def StrPost (x : ByteArray) (w : World) (e : Ending) (w' : World) : Prop := e = .returned (.string x) ∧ Below w.heap.size w w'
set_option maxHeartbeats 1000000 in
theorem rname_any {B : Nat} {g : GramD} {w : World} (h : GramAt w B g) (hB : B ≤ w.heap.size) (hbr : Brief g) {s : Int} (hs : SymOk g s) :
    Calls Try.prog 34 #[GV g, .int .i64 s] w (StrPost (nameS g s) w) := by
  have hb1 : Below w.heap.size w (w.alloc (.cells #[.slice g.ta g.terms.length g.tc, .slice g.va g.vars.length g.vc, .slice g.ra g.rules.length g.rc] 25)) := (Below.refl _ _).alloc (Nat.le_refl _) _
  have HB1 := Lib.hid hb1
  have HG := Lib.hid (h.below (hb1.mono hB))
  by_cases hz : 0 ≤ s
  · have hv : s.toNat < g.vars.length := by have := hs.1; omega
    obtain ⟨b, off, hva, hb, hc, hsz⟩ := HG.out.vars s.toNat hv
    have HE := Lib.hid (show nameS g s = g.vars[s.toNat] by unfold nameS; rw [if_pos hz, List.getElem?_eq_getElem hv]; rfl)
    have hi : s < g.vars.length := hs.1
    have hp1 : s = (s.toNat : Int) := by omega
    obtain ⟨ta, terms, tc, va, vars, vc, ra, rules, rc⟩ := g
    dsimp only at *
    subst hva
    generalize vars[s.toNat] = x at *
    generalize s.toNat = v at *
    subst hp1
    clear h hb1 hs hbr
    unfold GV
    go_enter Try.func34, Try.ntmps34
    go_wp2
    go_ret
    exact ⟨by rw [HE.out]; rfl, HB1.out⟩
  · have hn := hs.2 (by omega)
    have hv : (nt s).toNat < g.terms.length := by omega
    obtain ⟨b, off, hva, hb, hc, hsz⟩ := HG.out.terms (nt s).toNat hv
    have HE := Lib.hid (show nameS g s = quoteS g.terms[(nt s).toNat] by unfold nameS; rw [if_neg hz, List.getElem?_eq_getElem hv]; rfl)
    have hsl : s < 0 := by omega
    have hi : bits .xor .i64 (if IntKind.i64.signed = true then -1 else 9223372036854775807) s < g.terms.length := hn.2
    have hi0 : 0 ≤ bits .xor .i64 (if IntKind.i64.signed = true then -1 else 9223372036854775807) s := hn.1
    have hp1 : nt s = ((nt s).toNat : Int) := by omega
    have hp2 : bits .xor .i64 (if IntKind.i64.signed = true then -1 else 9223372036854775807) s = ((nt s).toNat : Int) := hp1
    have hsz2 := hbr.1 _ hv
    have hxr := nt_run
    obtain ⟨ta, terms, tc, va, vars, vc, ra, rules, rc⟩ := g
    dsimp only at *
    subst hva
    generalize terms[(nt s).toNat] = x at *
    generalize (nt s).toNat = v at *
    clear h hb1 hs hn hbr
    unfold GV
    go_enter Try.func34, Try.ntmps34
    have hn1 : ¬ 9223372036854775807 < 1 + x.size := by omega
    have hn2 : ¬ 9223372036854775807 < 1 + x.size + 1 := by omega
    go_wp2
    go_ret
    exact ⟨by rw [HE.out]; rfl, HB1.out⟩
set_option maxHeartbeats 1000000 in
theorem name_any {B : Nat} {g : GramD} {w : World} (h : GramAt w B g) (hB : B ≤ w.heap.size) (hbr : Brief g) {s : Int} (hs : SymOk g s) :
    Calls Try.prog 36 #[GV g, .int .i64 s] w (StrPost (nameS g s) w) := by
  have hb1 : Below w.heap.size w (w.alloc (.cells #[.slice g.ta g.terms.length g.tc, .slice g.va g.vars.length g.vc, .slice g.ra g.rules.length g.rc] 25)) := (Below.refl _ _).alloc (Nat.le_refl _) _
  have HB1 := Lib.hid hb1
  have HG := Lib.hid (h.below (hb1.mono hB))
  by_cases hz : 0 ≤ s
  · have HI := fun W => Lib.hid (isVar_any s W)
    rw [show isv s = true by simp [isv]; omega] at HI
    have hv : s.toNat < g.vars.length := by have := hs.1; omega
    obtain ⟨b, off, hva, hb, hc, hsz⟩ := HG.out.vars s.toNat hv
    have HE := Lib.hid (show nameS g s = g.vars[s.toNat] by unfold nameS; rw [if_pos hz, List.getElem?_eq_getElem hv]; rfl)
    have hi : s < g.vars.length := hs.1
    have hp1 : s = (s.toNat : Int) := by omega
    obtain ⟨ta, terms, tc, va, vars, vc, ra, rules, rc⟩ := g
    dsimp only at *
    subst hva
    generalize vars[s.toNat] = x at *
    generalize s.toNat = v at *
    subst hp1
    clear h hb1 hs hbr
    unfold GV
    go_enter Try.func36, Try.ntmps36
    go_wp2_with (first | (go_at_call 35; refine (HI _).out.mono ?_; rintro e w' ⟨rfl, rfl⟩))
    go_ret
    exact ⟨by rw [HE.out]; rfl, HB1.out⟩
  · have HI := fun W => Lib.hid (isVar_any s W)
    rw [show isv s = false by simp [isv]; omega] at HI
    have hn := hs.2 (by omega)
    have hv : (nt s).toNat < g.terms.length := by omega
    obtain ⟨b, off, hva, hb, hc, hsz⟩ := HG.out.terms (nt s).toNat hv
    have HE := Lib.hid (show nameS g s = quoteS g.terms[(nt s).toNat] by unfold nameS; rw [if_neg hz, List.getElem?_eq_getElem hv]; rfl)
    have hsl : s < 0 := by omega
    have hi : bits .xor .i64 (if IntKind.i64.signed = true then -1 else 9223372036854775807) s < g.terms.length := hn.2
    have hi0 : 0 ≤ bits .xor .i64 (if IntKind.i64.signed = true then -1 else 9223372036854775807) s := hn.1
    have hp1 : nt s = ((nt s).toNat : Int) := by omega
    have hp2 : bits .xor .i64 (if IntKind.i64.signed = true then -1 else 9223372036854775807) s = ((nt s).toNat : Int) := hp1
    have hsz2 := hbr.1 _ hv
    have hxr := nt_run
    obtain ⟨ta, terms, tc, va, vars, vc, ra, rules, rc⟩ := g
    dsimp only at *
    subst hva
    generalize terms[(nt s).toNat] = x at *
    generalize (nt s).toNat = v at *
    clear h hb1 hs hn hbr
    unfold GV
    go_enter Try.func36, Try.ntmps36
    have hn1 : ¬ 9223372036854775807 < 1 + x.size := by omega
    have hn2 : ¬ 9223372036854775807 < 1 + x.size + 1 := by omega
    go_wp2_with (first | (go_at_call 35; refine (HI _).out.mono ?_; rintro e w' ⟨rfl, rfl⟩))
    go_ret
    exact ⟨by rw [HE.out]; rfl, HB1.out⟩
end Go.Proofs.Ytfiafmhnmafnbaa
