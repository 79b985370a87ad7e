/-
  LexNames answers true, and leaves its argument as it was, for every text. No conditions.
-/
import Derived.Test.YticdihfjnmjkmaaNamesP
import Derived.Test.YticdihfjnmjkmaaRows
import Derived.WalkKit
import Derived.ProofKit
import Derived.OpenShut
import Derived.ShutString
import Derived.ChangeOld
import Derived.ChangeMaps5
import Derived.Below
namespace Go.Proofs.Yticdihfjnmjkmaa.lexNames
open Go.ChangeShapes Go.WideShapes Go.ChangeAt Go.RowKit
set_option linter.unusedVariables false

theorem own : ownKnob Try.prog.godebug = none := by kernel_rfl
theorem laidOut : laidOutB Try.prog = true := by kernel_rfl
attribute [local go_sem] run_store_float run_eqf0
set_option maxRecDepth 100000 in
set_option maxHeartbeats 1000000 in
theorem walk {w : World} (s : ByteArray) (hs : s.size ≤ maxLen) : Calls Try.prog 4 #[.string s] w fun e w' => e = .returned (.bool true) ∧ Below w.heap.size w w' := by
  unfold maxLen at hs
  go_enter Try.func4, Try.ntmps4
  go_wp2_with fail
  refine (alive_any _).mono ?_
  rintro e w1 ⟨rfl, hb⟩
  have H1 := Lib.hid hb
  clear hb
  by_cases hl : (100 : Int) < s.size
  · go_wp2
    go_ret
    exact ⟨rfl, H1.out⟩
  have H14 := fun W => Lib.hid (pname_any s (by omega) W)
  have H15 := fun W => Lib.hid (isName_any s (by omega) W)
  have H16 := fun W => Lib.hid (pquote_any s (by omega) W)
  have H17 := fun W => Lib.hid (isQuote_any s (by omega) W)
  have HA := fun W => Lib.hid (pall_some (s := s) (by omega) W)
  have HAN := fun h W => Lib.hid (pall_two (s := s) (by omega) (name_lex h) W)
  have hsz2 : ((⟨#[39]⟩ : ByteArray) ++ s ++ ⟨#[39]⟩).size ≤ 65536 := by rw [ByteArray.size_append, ByteArray.size_append, show (⟨#[39]⟩ : ByteArray).size = 1 from rfl]; omega
  have hl2 : ((⟨#[39]⟩ : ByteArray) ++ s ++ ⟨#[39]⟩).data.toList = 39 :: (s.data.toList ++ [39]) := by simp
  have HB := fun W => Lib.hid (pall_some hsz2 W)
  have HBQ := fun h W => Lib.hid (pall_two hsz2 (by rw [hl2]; exact quote_lex h) W)
  rw [bOf_self] at HAN HBQ
  clear hsz2 hl2
  generalize nameB s = x at *
  generalize quoteB s = y at *
  cases x
  · cases y
    · clear HAN
      clear HBQ
      go_wp2_with (first
        | (go_at_call 14; refine (H14 _).out.mono ?_; rintro e w' ⟨rfl, rfl⟩)
        | (go_at_call 15; refine (H15 _).out.mono ?_; rintro e w' ⟨rfl, rfl⟩)
        | (go_at_call 16; refine (H16 _).out.mono ?_; rintro e w' ⟨rfl, rfl⟩)
        | (go_at_call 17; refine (H17 _).out.mono ?_; rintro e w' ⟨rfl, rfl⟩)
        | (go_at_call 11; refine (HA _).out.mono ?_; rintro e w2 ⟨ad, n, ca, er, a, rfl, hb⟩; have hw2 := hb.size; have H2 := Lib.hid hb; clear hb HA)
        | (go_at_call 11; refine (HB _).out.mono ?_; rintro e w3 ⟨ad3, n3, ca3, er3, a3, rfl, hb⟩; have hw3 := hb.size; obtain ⟨f0, f1, f2, f3⟩ := fcell (hb.mono (by simp)); have hwl : w2.heap.size < w3.heap.size := (by simp only [World.size_alloc] at hw3; omega); have H3 := Lib.hid hb; clear hb HB))
      go_ret
      refine ⟨rfl, ?_⟩
      have hs1 := H1.out.size
      repeat refine Below.setCell ?_ (by show w.heap.size ≤ w2.heap.size; omega) _
      exact (H1.out.trans (H2.out.mono hs1)).trans (((below_one w2 _).mono (by omega)).trans (H3.out.mono (by simp only [World.size_alloc]; omega)))
    · clear HAN
      have HB' := HBQ rfl
      clear HB HBQ
      go_wp2_with (first
        | (go_at_call 14; refine (H14 _).out.mono ?_; rintro e w' ⟨rfl, rfl⟩)
        | (go_at_call 15; refine (H15 _).out.mono ?_; rintro e w' ⟨rfl, rfl⟩)
        | (go_at_call 16; refine (H16 _).out.mono ?_; rintro e w' ⟨rfl, rfl⟩)
        | (go_at_call 17; refine (H17 _).out.mono ?_; rintro e w' ⟨rfl, rfl⟩)
        | (go_at_call 11; refine (HA _).out.mono ?_; rintro e w2 ⟨ad, n, ca, er, a, rfl, hb⟩; have hw2 := hb.size; have H2 := Lib.hid hb; clear hb HA)
        | (go_at_call 11; refine (HB' _).out.mono ?_; rintro e w3 ⟨g3, ca3, rfl, hg30, hg3, hca3, hb, d0, d1, d2, d3⟩; have hgn3 : g3 ≠ w2.heap.size := (by simp only [World.size_alloc] at hg30; omega); have hgn4 : w2.heap.size ≠ g3 := (Ne.symm hgn3); have hw3 := hb.size; obtain ⟨f0, f1, f2, f3⟩ := fcell (hb.mono (by simp)); have hwl : w2.heap.size < w3.heap.size := (by simp only [World.size_alloc] at hw3; omega); have H3 := Lib.hid hb; clear hb HB'))
      go_ret
      refine ⟨rfl, ?_⟩
      have hs1 := H1.out.size
      repeat refine Below.setCell ?_ (by show w.heap.size ≤ w2.heap.size; omega) _
      exact (H1.out.trans (H2.out.mono hs1)).trans (((below_one w2 _).mono (by omega)).trans (H3.out.mono (by simp only [World.size_alloc]; omega)))
  · cases y
    · have HA' := HAN rfl
      clear HA HAN
      clear HBQ
      go_wp2_with (first
        | (go_at_call 14; refine (H14 _).out.mono ?_; rintro e w' ⟨rfl, rfl⟩)
        | (go_at_call 15; refine (H15 _).out.mono ?_; rintro e w' ⟨rfl, rfl⟩)
        | (go_at_call 16; refine (H16 _).out.mono ?_; rintro e w' ⟨rfl, rfl⟩)
        | (go_at_call 17; refine (H17 _).out.mono ?_; rintro e w' ⟨rfl, rfl⟩)
        | (go_at_call 11; refine (HA' _).out.mono ?_; rintro e w2 ⟨g, ca, rfl, hg0, hg, hca, hb, c0, c1, c2, c3⟩; have hw2 := hb.size; have hgn : g ≠ w2.heap.size := (by omega); have H2 := Lib.hid hb; clear hb HA')
        | (go_at_call 11; refine (HB _).out.mono ?_; rintro e w3 ⟨ad3, n3, ca3, er3, a3, rfl, hb⟩; have hw3 := hb.size; obtain ⟨f0, f1, f2, f3⟩ := fcell (hb.mono (by simp)); have hwl : w2.heap.size < w3.heap.size := (by simp only [World.size_alloc] at hw3; omega); have H3 := Lib.hid hb; clear hb HB))
      go_ret
      refine ⟨rfl, ?_⟩
      have hs1 := H1.out.size
      repeat refine Below.setCell ?_ (by show w.heap.size ≤ w2.heap.size; omega) _
      exact (H1.out.trans (H2.out.mono hs1)).trans (((below_one w2 _).mono (by omega)).trans (H3.out.mono (by simp only [World.size_alloc]; omega)))
    · have HA' := HAN rfl
      clear HA HAN
      have HB' := HBQ rfl
      clear HB HBQ
      go_wp2_with (first
        | (go_at_call 14; refine (H14 _).out.mono ?_; rintro e w' ⟨rfl, rfl⟩)
        | (go_at_call 15; refine (H15 _).out.mono ?_; rintro e w' ⟨rfl, rfl⟩)
        | (go_at_call 16; refine (H16 _).out.mono ?_; rintro e w' ⟨rfl, rfl⟩)
        | (go_at_call 17; refine (H17 _).out.mono ?_; rintro e w' ⟨rfl, rfl⟩)
        | (go_at_call 11; refine (HA' _).out.mono ?_; rintro e w2 ⟨g, ca, rfl, hg0, hg, hca, hb, c0, c1, c2, c3⟩; have hw2 := hb.size; have hgn : g ≠ w2.heap.size := (by omega); have H2 := Lib.hid hb; clear hb HA')
        | (go_at_call 11; refine (HB' _).out.mono ?_; rintro e w3 ⟨g3, ca3, rfl, hg30, hg3, hca3, hb, d0, d1, d2, d3⟩; have hgn3 : g3 ≠ w2.heap.size := (by simp only [World.size_alloc] at hg30; omega); have hgn4 : w2.heap.size ≠ g3 := (Ne.symm hgn3); have hw3 := hb.size; obtain ⟨f0, f1, f2, f3⟩ := fcell (hb.mono (by simp)); have hwl : w2.heap.size < w3.heap.size := (by simp only [World.size_alloc] at hw3; omega); have H3 := Lib.hid hb; clear hb HB'))
      go_ret
      refine ⟨rfl, ?_⟩
      have hs1 := H1.out.size
      repeat refine Below.setCell ?_ (by show w.heap.size ≤ w2.heap.size; omega) _
      exact (H1.out.trans (H2.out.mono hs1)).trans (((below_one w2 _).mono (by omega)).trans (H3.out.mono (by simp only [World.size_alloc]; omega)))

set_option maxRecDepth 100000 in
theorem lifted (os : Os) (started : os.Started) (H : Type) (enc : TypeId × Value → H) :
    ReturnsInHanded {} Try.checked os 4 .any (Rows.lexNamesSpec.pre6 enc Try.prog Try.f4 Rows.lexNamesRow.domain false) (Rows.lexNamesSpec.post enc Try.prog Try.f4 false true false false) := by
  refine returnsInHanded_of_change (C := Try.checked) own started (by kernel_rfl) Try.func4
    (ChangeSpec.witness6 (enc := enc) (C := Try.checked) false ⟨#[], #[.string ⟨#[]⟩], []⟩ 8 (by kernel_rfl) (by kernel_rfl) (by kernel_rfl) (by kernel_rfl)) ?_
  intro W base args ds gs before hval0 hW hcnd _
  have hval : ∀ (j : Nat) t v, Try.f4.params[j]? = some t → args[j]? = some v → Value.okWide Try.prog W .any base t v := hval0
  have hW' := hW
  obtain ⟨p, q, hA0, hV, rfl, hfz, hnd⟩ := hW
  have hA : DataW.TrodAll enc Try.prog W 0 (fun _ => true) true Try.f4.params.toList args.toList ds p := hA0
  rw [Try.params4] at hA hval
  obtain ⟨v0, vs0, d0, ds0, p0, q0, hargs, rfl, rfl, h0, r0⟩ := trodAll_cons hA
  obtain ⟨rfl, rfl, rfl⟩ := trodAll_nil r0
  obtain rfl : args = #[v0] := by cases args; simp_all
  obtain ⟨rfl, rfl⟩ := trodVars_none hV
  obtain ⟨s0, rfl, rfl, rfl, w0⟩ := Go.ChangeMaps.open_string Try.underlying9 (hval 0 9 v0 rfl rfl) h0
  clear hA0 hval0
  refine (walk s0 w0).mono fun e W' ⟨he, bel⟩ => ?_
  subst he
  exact ⟨_, rfl, _, _, _, [], _, [], hW', trodAll_mk1 (shut_bool Try.underlying4 _), (trodAll_cons_mk (Go.ChangeMaps.shut_string Try.underlying9 w0) trodAll_mk0), rfl, bel.frame _, fun h => by cases h⟩

theorem over : Rows.lexNamesRow.holds Try.pinned (OpenSpec.ofChange Rows.lexNamesSpec) :=
  OpenClaim.holds_of_wide 4 Try.f4 rfl rfl rfl rfl rfl rfl rfl ⟨rfl, rfl, rfl, rfl, rfl⟩ rfl rfl rfl rfl rfl (by kernel_rfl) Try.func4 (by kernel_rfl)
    (of_decide_eq_true (by kernel_rfl)) (by unfold Func.isWrapper; first | (rw [if_pos (by decide +kernel)]; kernel_rfl) | (rw [if_neg (by decide +kernel)]; exact ⟨rfl, rfl⟩))
    (fun os started H enc _ => lifted os started H enc)

theorem proved : Rows.LexNamesSaid := over
#print axioms proved
end Go.Proofs.Yticdihfjnmjkmaa.lexNames
