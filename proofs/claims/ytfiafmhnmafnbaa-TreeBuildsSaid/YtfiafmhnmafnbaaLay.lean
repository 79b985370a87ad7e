/- A derivation under way: symbols laid ahead of what is left. -/
import Derived.Test.YtfiafmhnmafnbaaRStep
import Derived.Test.YtfiafmhnmafnbaaRuns
import Derived.Test.YtfiafmhnmafnbaaQuietTail
import Derived.Deep.LoopGhost
import Derived.Deep.RegionLaw
namespace Go.Proofs.Ytfiafmhnmafnbaa
open Go.RowKit
def LayPost (B rb : Nat) (g : GramD) (dn rem : List Int) (w : World) (e : Ending) (w' : World) : Prop :=
  e = .returned (.tuple #[]) ∧ Below rb w w' ∧ ∃ dv lv, RunAt B rb g dv lv (dn ++ rem.take (firstV rem)) (rem.drop (firstV rem)).reverse w'
theorem _root_.Go.RunAt.drew {B rb : Nat} {g : GramD} {dv lv : Value} {dn lf : List Int} {w : World} (h : RunAt B rb g dv lv dn lf w) : RunAt B rb g dv lv dn lf w.drew :=
  h.next ⟨rfl, rfl, rfl, Nat.le_refl _, fun _ _ => rfl⟩
theorem rev_on (form : List Int) (lf : List Int) (k : Nat) (hk : k < form.length) : lf ++ (form.drop (k + 1)).reverse ++ [form[k]] = lf ++ (form.drop k).reverse := by
  rw [List.drop_eq_getElem_cons hk, List.reverse_cons, List.append_assoc]
theorem own_lies {v : Value} {g n cap H s : Nat} (hat : v.ownBlock = some g ∨ g = H) (hs : s ≤ H) : ∀ k, (Value.slice (some ⟨g, 0, none⟩) n cap).ownBlock = some k → v.ownBlock = some k ∨ s ≤ k := fun k hk => by
  simp [Value.ownBlock] at hk
  subst hk
  rcases hat with h | h
  · exact .inl h
  · exact .inr (by omega)
theorem own_row {w : World} {base : Nat} {v : Value} {n : Nat} {ys : List Int} {us : List Value} (h : w.ownsRow base 3 1 v n us) (hn : n = ys.length) (hu : us = ys.map (Value.int .i64)) : OwnI w base v ys := by
  subst hn hu; exact h
set_option maxRecDepth 100000 in
set_option maxHeartbeats 4000000 in
theorem lay_any {B rb : Nat} {g : GramD} {dv lv : Value} {dn lf : List Int} {w : World} (h : RunAt B rb g dv lv dn lf w) {a : Option Addr} {cap : Nat} {form : List Int} (hf : Ints w B a form) (hl : form.length + lf.length + dn.length ≤ 1000000) :
    Calls Try.prog 68 #[.pointer (some ⟨rb, 0, none⟩), .slice a form.length cap] w (LayPost B rb g dn (form ++ lf.reverse) w) := by
  have H := Lib.hid h
  have HF := Lib.hid hf
  obtain ⟨i0, hi0, hz0, hz1, hz2⟩ := info_parts info3
  clear h hf
  go_enter Try.func68, Try.ntmps68
  go_wp2
  go_loopw [4] (fun i wr => ∃ k lv, k ≤ form.length ∧ i = .int .i64 ((k : Int) - 1) ∧ Hid (RunAt B rb g dv lv dn (lf ++ (form.drop k).reverse) wr ∧ Below rb w wr)) (fun i _ => (intOf i + 1).toNat)
  case atStart => exact ⟨form.length, lv, by omega, rfl, by simpa using H.out, Below.refl _ _⟩
  case round =>
    obtain ⟨k, lv1, hk, rfl, hh⟩ := hrel
    cases k with
    | succ k =>
      have e1 : ((k + 1 : Nat) : Int) - 1 = (k : Int) := by omega
      rw [e1]
      have hki : (k : Int) < form.length := by omega
      have hk0 : (0 : Int) ≤ (k : Int) := by omega
      obtain ⟨b, off, rfl, hb, hc⟩ := (HF.out.below (hh.out.2.mono hh.out.1.low)) k (by omega)
      have hr := lt_of_block hh.out.1.blk
      have HE := Lib.hid (rev_on form lf k (by omega))
      have hLl : (lf ++ (form.drop (k + 1)).reverse).length ≤ 1000000 := by simp; omega
      generalize lf ++ (form.drop (k + 1)).reverse = L at *
      have gL := hh.out.1.cellL
      obtain ⟨la, lc, rfl, hln, hli, hlc, hlc2⟩ := hh.out.1.lown.shape
      have HR := Lib.hid hh.out.1
      have HB := Lib.hid hh.out.2
      clear hh hln hli hlc hlc2
      go_wp2
      have fL : wr.frozen? ⟨rb, 4, none⟩ = false := free_of_block HR.out.blk
      have hlow := HR.out.low
      have hbr : b ≠ rb := by omega
      have hbw : b < wr.heap.size := by omega
      go_region_law
        ((refine step_append_lies _ (by rfl) (.tmp 16) (.tmp 21) 26 (by rfl) (rb + 1) 3 i0 _ 1 8 Try.underlying26 hi0 hz0 hz1 hz2 rfl (by omega) (.slice la L.length lc) L.length _ (by rfl) ((HR.out.lown.alloc _).drew) ⟨wr.heap.size, 0, none⟩ 1 1 [.int .i64 form[k]] (by rfl) (by rfl) (World.news_of_block (cs := #[.int .i64 form[k]]) (t := 3) (fr := (0, 0)) (heap_alloc_new _ _)) (by simp [Value.oneCell']) (by omega) (by simp only [maxLen]; omega) (by omega) (by simp; omega) (wr.heap.size + 1) (by simp) ?_; intro gg cap' w1 hown1 hgrow hat hlt
          have hgL : w1.cell? ⟨rb, 4, none⟩ = some (.slice la L.length lc) := (hgrow.cell ((World.cell?_alloc_past _ _ _ hr).trans gL) (fun e => by have := own_ge HR.out.lown e.symm; simp only at this; omega))
          have hgF : w1.cell? ⟨b, off + k, none⟩ = some (.int .i64 form[k]) := (hgrow.cell ((World.cell?_alloc_past _ _ _ hbw).trans hc) (fun e => by have := own_ge HR.out.lown e.symm; simp only at this; omega))
          have fL2 : w1.frozen? ⟨rb, 4, none⟩ = false := ((hgrow.frozen_far _ (by simp; omega) (fun e => by have := own_ge HR.out.lown e.symm; simp only at this; omega)).trans ((World.frozen?_alloc_past _ _ _ hr).trans fL))))
      all_goals
        go_wp2
        go_roundw
        case rel =>
          have HA : Below wr.heap.size wr (wr.alloc (.cells #[.int .i64 form[k]] 3)).drew := ⟨rfl, rfl, rfl, by simp, fun k hk => Below.heap_alloc _ _ _ hk⟩
          refine ⟨k, .slice (some ⟨gg, 0, none⟩) (L.length + 1) cap', by omega, by go_num, ?_, HB.out.trans (run_grown HR.out.lown (by omega) HA hgrow)⟩
          exact HR.out.pushL HA hgrow (own_lies hat (by omega)) (own_row hown1 (by rw [← HE.out]; simp) (by rw [← HE.out]; simp))
        case measure => simp [intOf]
    | zero =>
      have e0 : ((0 : Nat) : Int) - 1 = -1 := by omega
      rw [e0]
      have HR := Lib.hid hh.out.1
      have HB := Lib.hid hh.out.2
      have hlow := HR.out.low
      have HQ := Lib.hid (show lf ++ (form.drop 0).reverse = (form ++ lf.reverse).reverse by simp)
      rw [HQ.out] at HR
      have hrl : (form ++ lf.reverse).length + dn.length ≤ 1000000 := by simp; omega
      clear hh HQ e0
      generalize form ++ lf.reverse = rem at *
      go_wp2
      go_loopg [] rem.length (fun m ws => ∃ j dv lv, j + m = rem.length ∧ Hid (j ≤ firstV rem ∧ RunAt B rb g dv lv (dn ++ rem.take j) (rem.drop j).reverse ws ∧ Below rb w ws))
      case atStart => exact ⟨0, dv, lv1, by omega, by simp, by simpa using HR.out, HB.out⟩
      case round =>
        clear HR HB
        obtain ⟨j, dv1, lv2, hj, hh2⟩ := hrel
        have hr := lt_of_block hh2.out.2.1.blk
        have fL : wr.frozen? ⟨rb, 4, none⟩ = false := free_of_block hh2.out.2.1.blk
        have fD : wr.frozen? ⟨rb, 3, none⟩ = false := free_of_block hh2.out.2.1.blk
        have gL := hh2.out.2.1.cellL
        have gD := hh2.out.2.1.cellD
        obtain ⟨la, lc, rfl, hln, hli, hlc, hlc2⟩ := hh2.out.2.1.lown.shape
        by_cases hj0 : j = rem.length
        · have hM : (rem.drop j).reverse.length = 0 := by simp; omega
          rw [hM] at gL
          have HE := Lib.hid (show firstV rem = j from Nat.le_antisymm (hj0 ▸ List.findIdx_le_length) hh2.out.1)
          have HP : Hid (Below rb w wr ∧ ∃ dv lv, RunAt B rb g dv lv (dn ++ rem.take (firstV rem)) (rem.drop (firstV rem)).reverse wr) := ⟨hh2.out.2.2, _, _, by rw [HE.out]; exact hh2.out.2.1⟩
          clear hh2 hln hli hM hlc hlc2
          go_wp2
          go_quiet (fail)
          go_wp2
          go_end0
          exact ⟨rfl, HP.out.1.trans ⟨rfl, rfl, rfl, Nat.le_refl _, fun _ _ => rfl⟩, _, _, HP.out.2.choose_spec.choose_spec.next ⟨rfl, rfl, rfl, Nat.le_refl _, fun _ _ => rfl⟩⟩
        · have hjl : j < rem.length := by omega
          obtain ⟨n, hn⟩ : ∃ n, rem.length - j = n + 1 := ⟨rem.length - j - 1, by omega⟩
          have hM : (rem.drop j).reverse.length = n + 1 := by simp; omega
          rw [hM] at gL
          have hx : (rem.drop j).reverse[n]'(by omega) = rem[j] := by
            rw [List.getElem_reverse, List.getElem_drop]
            congr 1
            simp only [List.length_drop]
            omega
          obtain ⟨lb, lo, rfl, hlb, hlx⟩ := hli n (by omega)
          rw [hx] at hlx
          have hn0 : (0 : Int) < ((n + 1 : Nat) : Int) := by omega
          have hn1 : ((n + 1 : Nat) : Int) - 1 = (n : Int) := by omega
          have hn2 : (n : Int) < ((n + 1 : Nat) : Int) := by omega
          have hn3 : (0 : Int) ≤ (n : Int) := by omega
          have HI := fun W => Lib.hid (isVar_any rem[j] W)
          cases hv : isv rem[j]
          · rw [hv] at HI
            have HF1 := Lib.hid (firstV_on hjl hh2.out.1 (by simpa [isv] using hv))
            have HT := Lib.hid (show dn ++ rem.take (j + 1) = dn ++ rem.take j ++ [rem[j]] by rw [List.take_succ_eq_append_getElem hjl, List.append_assoc])
            have HT2 := Lib.hid (show (rem.drop (j + 1)).reverse = (rem.drop j).reverse.take n by
              have e : (rem.drop j).reverse = (rem.drop (j + 1)).reverse ++ [rem[j]] := by rw [List.drop_eq_getElem_cons hjl, List.reverse_cons]
              have el : (rem.drop (j + 1)).reverse.length = n := by simp; omega
              rw [e, List.take_append_of_le_length (by omega), List.take_of_length_le (by omega)])
            have hdl : (dn ++ rem.take j).length ≤ 1000000 := by simp; omega
            rw [hM] at hh2
            have hnc : n + 1 ≤ lc := by omega
            have hn5 : (n : Int) < (n : Int) + 1 := by omega
            have hwr : IntKind.i64.wrap (n : Int) = (n : Int) := by have := hlc; simp only [maxLen] at this; simp [IntKind.wrap, IntKind.bits]; omega
            clear hx hli hln
            generalize dn ++ rem.take j = D at *
            clear hM hlc2
            generalize (rem.drop j).reverse = M at *
            generalize rem[j] = x at *
            have HR2 : ∀ m, Hid (RunAt B rb g dv1 (.slice (some ⟨lb, lo, none⟩) (n + 1) lc) D M (wr.drewN m)) := fun m => hh2.out.2.1.next ⟨rfl, rfl, rfl, Nat.le_refl _, fun _ _ => rfl⟩
            have HB2 : ∀ m, Hid (Below rb w (wr.drewN m)) := fun m => hh2.out.2.2.trans ⟨rfl, rfl, rfl, Nat.le_refl _, fun _ _ => rfl⟩
            obtain ⟨da, dc, rfl, hdn, hdi, hdc, hdc2⟩ := hh2.out.2.1.down.shape
            clear hh2 hlc hv hdn hdi
            go_wp2
            go_quiet (first | (go_at_call 35; exact Calls.quiet_of_same ((HI _).out.mono (fun _ _ h => ⟨h.1, h.2.symm⟩))))
            have HR3 := HR2 nq
            have HB3 := HB2 nq
            have hlx3 : (wr.drewN nq).cell? ⟨lb, lo + n, none⟩ = some (.int .i64 x) := hlx
            have hlb3 : lb < (wr.drewN nq).heap.size := hlb
            clear HR2 HB2 hlx hlb gL gD fL fD hr HI
            generalize wr.drewN nq = W2 at *
            have hr := lt_of_block HR3.out.blk
            have fL : W2.frozen? ⟨rb, 4, none⟩ = false := free_of_block HR3.out.blk
            have fD : W2.frozen? ⟨rb, 3, none⟩ = false := free_of_block HR3.out.blk
            have gL := HR3.out.cellL
            have gD := HR3.out.cellD
            go_wp2
            go_region_law
              ((refine step_append_lies _ (by rfl) (.tmp 51) (.tmp 64) 26 (by rfl) (rb + 1) 3 i0 _ 1 8 Try.underlying26 hi0 hz0 hz1 hz2 rfl (by omega) (.slice da D.length dc) D.length _ (by rfl) ((HR3.out.down.alloc _).drew) ⟨W2.heap.size, 0, none⟩ 1 1 [.int .i64 x] (by rfl) (by rfl) (World.news_of_block (cs := #[.int .i64 x]) (t := 3) (fr := (0, 0)) (heap_alloc_new _ _)) (by simp [Value.oneCell']) (by omega) (by simp only [maxLen]; omega) (by omega) (by simp; omega) (W2.heap.size + 1) (by simp) ?_; intro gg cap' w1 hown1 hgrow hat hlt
                have hgD : w1.cell? ⟨rb, 3, none⟩ = some (.slice da D.length dc) := (hgrow.cell ((World.cell?_alloc_past _ _ _ hr).trans gD) (fun e => by have := own_ge HR3.out.down e.symm; simp only at this; omega))
                have fD2 : w1.frozen? ⟨rb, 3, none⟩ = false := ((hgrow.frozen_far _ (by simp; omega) (fun e => by have := own_ge HR3.out.down e.symm; simp only at this; omega)).trans ((World.frozen?_alloc_past _ _ _ hr).trans fD))))
            all_goals
              have HA : Below W2.heap.size W2 (W2.alloc (.cells #[.int .i64 x] 3)).drew := ⟨rfl, rfl, rfl, by simp, fun k hk => Below.heap_alloc _ _ _ hk⟩
              have HR4 := Lib.hid (HR3.out.pushD HA hgrow (own_lies hat (by omega)) (own_row hown1 (ys := D ++ [x]) (by simp) (by simp)))
              have HB4 := Lib.hid (HB3.out.trans (run_grown (off := 3) (u := .slice (some ⟨gg, 0, none⟩) (D.length + 1) cap') HR3.out.down (by omega) HA hgrow))
              clear HA hgrow hat hown1 hlt hgD fD2 gL gD fL fD
              generalize w1.setCell ⟨rb, 3, none⟩ (.slice (some ⟨gg, 0, none⟩) (D.length + 1) cap') = W4 at *
              have gL := HR4.out.cellL
              have fL : W4.frozen? ⟨rb, 4, none⟩ = false := free_of_block HR4.out.blk
              have HZ : Hid (RunAt B rb g (.slice (some ⟨gg, 0, none⟩) (D.length + 1) cap') (.slice (some ⟨lb, lo, none⟩) n lc) (dn ++ rem.take (j + 1)) (rem.drop (j + 1)).reverse (W4.setCell ⟨rb, 4, none⟩ (.slice (some ⟨lb, lo, none⟩) n lc)).drew) := by
                rw [HT.out, HT2.out]
                exact HR4.out.pop.drew
              go_wp2
              go_region
              go_wp2
              go_roundg (rem.length - (j + 1))
              case rel =>
                exact ⟨j + 1, _, _, by omega, HF1.out, HZ.out, (HB4.out.trans (run_slot _)).drew⟩
              case measure => omega
          · rw [hv] at HI
            have HE := Lib.hid (firstV_at hjl hh2.out.1 (by simpa [isv] using hv))
            have HP : Hid (Below rb w wr ∧ ∃ dv lv, RunAt B rb g dv lv (dn ++ rem.take (firstV rem)) (rem.drop (firstV rem)).reverse wr) := ⟨hh2.out.2.2, _, _, by rw [HE.out]; exact hh2.out.2.1⟩
            clear hh2 hln hli hM hlc hlc2 hv hx
            generalize rem[j] = x at *
            go_wp2
            go_quiet (first | (go_at_call 35; exact Calls.quiet_of_same ((HI _).out.mono (fun _ _ h => ⟨h.1, h.2.symm⟩))))
            go_wp2
            go_end0
            exact ⟨rfl, HP.out.1.trans ⟨rfl, rfl, rfl, Nat.le_refl _, fun _ _ => rfl⟩, _, _, HP.out.2.choose_spec.choose_spec.next ⟨rfl, rfl, rfl, Nat.le_refl _, fun _ _ => rfl⟩⟩
end Go.Proofs.Ytfiafmhnmafnbaa
