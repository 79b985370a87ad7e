/- Two words behind one another: the program's and the reference's. -/
import Derived.Test.YtoiinikbbkmjoaaCuts
namespace Go.Proofs.Ytoiinikbbkmjoaa
open Go.RowKit
set_option maxHeartbeats 1000000 in
theorem join_any {B : Nat} {a : Option Addr} {cap : Nat} {xs : List Int} {w : World} (h : Ints w B a xs) (hn : a = none → cap = 0) (hl : xs.length ≤ 100000) (hc : xs.length ≤ cap)
    {b : Option Addr} {cb : Nat} {ys : List Int} (h2 : Ints w B b ys) (hn2 : b = none → cb = 0) (hl2 : ys.length ≤ 100000) (hc2 : ys.length ≤ cb) (hB : B ≤ w.heap.size) (k : Int) (hk : -9223372036854775808 ≤ k ∧ k ≤ 9223372036854775807) :
    Calls Try.prog 14 #[.slice a xs.length cap, .slice b ys.length cb, .int .i64 k] w (WPost (joinL xs ys k) w) := by
  have HC := Lib.hid (cut_any (k := k) h hn (by omega) hc)
  have H2 := Lib.hid h2
  clear h h2
  obtain ⟨m, hm, he, hcase⟩ := join_at xs ys k
  have HE := Lib.hid he
  clear he
  have hcl : (cutL xs k).length ≤ xs.length := by unfold cutL; simp; omega
  have hkl : k < 0 → (cutL xs k).length = 0 := fun h => by unfold cutL; rw [show k.toNat = 0 by omega]; rfl
  have hkl2 : (cutL xs k).length ≤ k.toNat := by unfold cutL; simp; omega
  have hs := fun W => slice_h W b ys.length cb m (by omega)
  have HT := Lib.hid (show (ys.take m).length = m by simp; omega)
  have hcm : (m : Int) ≤ cb := by omega
  have hm0 : (0 : Int) ≤ m := by omega
  generalize cutL xs k = C at *
  have hw : IntKind.i64.wrap (k - (C.length : Int)) = k - (C.length : Int) := by rw [IntKind.wrap_i64]; omega
  go_enter Try.func14, Try.ntmps14
  go_wp2_with fail
  refine HC.out.mono ?_
  rintro e w1 ⟨v, rfl, hown, hb⟩
  obtain ⟨va, vc, rfl, hvn, -, hvm, hvl⟩ := hown.shape
  have HO := Lib.hid (And.intro hown (And.intro hb ((H2.out.below (hb.mono hB)).src)))
  clear hown hb
  have hsz := HO.out.2.1.size
  rcases hcase with ⟨h1, h2⟩ | ⟨h1, h2, h3⟩ | ⟨h1, h2⟩
  · have g1 : ¬ (ys.length : Int) < k - (C.length : Int) := by omega
    have g2 : ¬ 0 < k - (C.length : Int) := by omega
    subst h2
    go_wp2_with (first
      | (at_builtin; (refine append_ints rfl (.tmp 11) (.tmp 21) 22 rfl Try.underlying22 info3 w.heap.size (.slice va C.length vc) C rfl HO.out.1 b cb 0 (ys.take 0) rfl (by simp) hn2 (src_take HO.out.2.2 0) (by simp; omega) hsz ?_); intro v' w2 hown hgrow))
    go_ret
    exact ⟨_, rfl, by rw [HE.out]; exact hown, HO.out.2.1.trans (below_grown HO.out.1 hgrow hsz)⟩
  · have g1 : ¬ (ys.length : Int) < k - (C.length : Int) := by omega
    have hs2 : ∀ W, (Instr.slice 22 (.slice b ys.length cb) none (some (.int .i64 (k - (C.length : Int)))) none).run Try.prog W = .ok (.slice b m cb) W := fun W => by rw [← h3]; exact hs W
    have H3 := Lib.hid h3
    clear h3
    by_cases g2 : 0 < k - (C.length : Int)
    · have g3 : k - (C.length : Int) ≤ cb := by omega
      have g4 : 0 ≤ k - (C.length : Int) := by omega
      go_wp2_with (first
        | (at_builtin; (refine append_ints rfl (.tmp 11) (.tmp 21) 22 rfl Try.underlying22 info3 w.heap.size (.slice va C.length vc) C rfl HO.out.1 b cb m (ys.take m) rfl HT.out.symm hn2 (src_take HO.out.2.2 m) (by rw [HT.out]; omega) hsz ?_); intro v' w2 hown hgrow))
      go_ret
      exact ⟨_, rfl, by rw [HE.out]; exact hown, HO.out.2.1.trans (below_grown HO.out.1 hgrow hsz)⟩
    · have hm00 : m = 0 := by have := H3.out; omega
      subst hm00
      go_wp2_with (first
        | (at_builtin; (refine append_ints rfl (.tmp 11) (.tmp 21) 22 rfl Try.underlying22 info3 w.heap.size (.slice va C.length vc) C rfl HO.out.1 b cb 0 (ys.take 0) rfl (by simp) hn2 (src_take HO.out.2.2 0) (by simp; omega) hsz ?_); intro v' w2 hown hgrow))
      go_ret
      exact ⟨_, rfl, by rw [HE.out]; exact hown, HO.out.2.1.trans (below_grown HO.out.1 hgrow hsz)⟩
  · subst h2
    by_cases g2 : 0 < (ys.length : Int)
    · go_wp2_with (first
        | (at_builtin; (refine append_ints rfl (.tmp 11) (.tmp 21) 22 rfl Try.underlying22 info3 w.heap.size (.slice va C.length vc) C rfl HO.out.1 b cb ys.length (ys.take ys.length) rfl HT.out.symm hn2 (src_take HO.out.2.2 ys.length) (by rw [HT.out]; omega) hsz ?_); intro v' w2 hown hgrow))
      go_ret
      exact ⟨_, rfl, by rw [HE.out]; exact hown, HO.out.2.1.trans (below_grown HO.out.1 hgrow hsz)⟩
    · have hx0 : ys = [] := List.eq_nil_of_length_eq_zero (by omega)
      subst hx0
      simp only [List.length_nil] at *
      have h1' : (0 : Int) < k - (C.length : Int) := by omega
      go_wp2_with (first
        | (at_builtin; (refine append_ints rfl (.tmp 11) (.tmp 21) 22 rfl Try.underlying22 info3 w.heap.size (.slice va C.length vc) C rfl HO.out.1 b cb 0 [] rfl (by simp) hn2 (fun i hi => by simp at hi) (by simp; omega) hsz ?_); intro v' w2 hown hgrow))
      go_ret
      exact ⟨_, rfl, by rw [HE.out]; exact hown, HO.out.2.1.trans (below_grown HO.out.1 hgrow hsz)⟩
set_option maxHeartbeats 1000000 in
theorem rjoin_any {B : Nat} {a : Option Addr} {cap : Nat} {xs : List Int} {w : World} (h : Ints w B a xs) (hn : a = none → cap = 0) (hl : xs.length ≤ 100000)
    {b : Option Addr} {cb : Nat} {ys : List Int} (h2 : Ints w B b ys) (hn2 : b = none → cb = 0) (hl2 : ys.length ≤ 100000) (hB : B ≤ w.heap.size) (k : Int) :
    Calls Try.prog 15 #[.slice a xs.length cap, .slice b ys.length cb, .int .i64 k] w (WPost (joinL xs ys k) w) := by
  have HO := Lib.hid (own_empty w (base := w.heap.size) (Nat.le_refl _))
  have hb0 : Below w.heap.size w (w.alloc (.cells #[] 3)) := (Below.refl _ _).alloc (Nat.le_refl _) _
  have H1 := Lib.hid ((h.below (hb0.mono hB)).src)
  have H2 := Lib.hid h2
  have HB0 := Lib.hid hb0
  clear h h2 hb0
  go_enter Try.func15, Try.ntmps15
  go_wp2_with (first
    | (at_builtin; (refine append_ints rfl (.tmp 9) (.tmp 10) 22 rfl Try.underlying22 info3 w.heap.size v1 ([] ++ xs) rfl HG.out.1 b cb ys.length ys rfl rfl hn2 ((H2.out.below (HG.out.2.mono hB)).src) (by rw [List.nil_append]; omega) HG.out.2.size ?_); intro v2 w2 hown2 hgrow2; have HG2 := Lib.hid (And.intro hown2 (HG.out.2.trans (below_grown HG.out.1 hgrow2 HG.out.2.size))); clear hown2 hgrow2 HG)
    | (at_builtin; (refine append_ints rfl (.tmp 7) (.tmp 8) 22 rfl Try.underlying22 info3 w.heap.size (.slice (some ⟨w.heap.size, 0, none⟩) 0 0) [] rfl HO.out a cap xs.length xs rfl rfl hn H1.out (by simp only [List.length_nil]; omega) (by simp) ?_); intro v1 w1 hown1 hgrow1; have HG := Lib.hid (And.intro hown1 (HB0.out.trans (below_grown HO.out hgrow1 (by simp)))); clear hown1 hgrow1 HO)
    | fail)
  obtain ⟨va, vc, hv, -, hvi, -, -⟩ := HG2.out.1.shape
  subst hv
  have hll : ([] ++ xs ++ ys).length ≤ 1000000 := by simp; omega
  have HR := Lib.hid (rcut_any (k := k) (cap := vc) hvi (Nat.le_refl _) hll)
  clear hvi
  refine HR.out.mono ?_
  rintro e w3 ⟨v3, rfl, hown3, hb3⟩
  have HZ := Lib.hid (And.intro (own_mono hown3 HG2.out.2.size) (HG2.out.2.trans (hb3.mono HG2.out.2.size)))
  clear hown3 hb3
  go_wp2
  go_ret
  exact ⟨_, rfl, by have := HZ.out.1; simpa [joinL, cutL] using this, HZ.out.2⟩
end Go.Proofs.Ytoiinikbbkmjoaa
