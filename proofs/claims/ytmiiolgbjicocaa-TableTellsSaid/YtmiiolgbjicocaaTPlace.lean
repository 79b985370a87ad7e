/- A table's rows: where a lookahead's row is, or would be. -/
import Derived.Test.YtmiiolgbjicocaaLook
namespace Go.Proofs.Ytmiiolgbjicocaa
open Go.RowKit
/-- A variable's rows in a table, as they are read. -/
def TRead (w : World) (tb v nv : Nat) (L : Wds) : Prop :=
  ∃ ob oc ra rc, w.cell? ⟨tb, 1, none⟩ = some (.slice (some ⟨ob, 0, none⟩) nv oc) ∧ v < nv ∧ tb < w.heap.size ∧ ob < w.heap.size ∧ w.cell? ⟨ob, v, none⟩ = some (.slice ra L.length rc) ∧
    ∀ i (h : i < L.length), ∃ rb la lc, ra = some ⟨rb, 0, none⟩ ∧ rb < w.heap.size ∧ w.cell? ⟨rb, i * 2, none⟩ = some (.slice la L[i].length lc) ∧ Lst w la L[i]
theorem TRead.grow {w w' : World} {tb v nv : Nat} {L : Wds} (h : TRead w tb v nv L) (hg : Grow w w') : TRead w' tb v nv L := by
  obtain ⟨ob, oc, ra, rc, h1, h2, h3, h4, h5, h6⟩ := h
  refine ⟨ob, oc, ra, rc, (below_cell hg h3).trans h1, h2, Nat.lt_of_lt_of_le h3 hg.size, Nat.lt_of_lt_of_le h4 hg.size, (below_cell hg h4).trans h5, fun i hi => ?_⟩
  obtain ⟨rb, la, lc, h7, h8, h9, h10⟩ := h6 i hi
  exact ⟨rb, la, lc, h7, Nat.lt_of_lt_of_le h8 hg.size, (below_cell hg h8).trans h9, h10.go hg⟩
set_option maxRecDepth 100000 in
set_option maxHeartbeats 1000000 in
theorem tclosure_any {tb v nv ba bt bv : Nat} {L : Wds} {a : Option Addr} {c : Nat} {xs : List Int} {w : World} (ht : TRead w tb v nv L) (h1 : w.heap[ba]? = some (.cells #[.slice a xs.length c] 26 (0, 0))) (h2 : w.heap[bt]? = some (.cells #[.pointer (some ⟨tb, 0, none⟩)] 37 (0, 0))) (h3 : w.heap[bv]? = some (.cells #[.int .i64 (v : Nat)] 3 (0, 0)))
    (hx : Ints w w.heap.size a xs) (hxl : xs.length ≤ 100000) (hL : ∀ y ∈ L, y.length ≤ 100000) {i : Nat} (hi : i < L.length) :
    Calls Try.prog 68 #[.int .i64 (i : Nat), .pointer (some ⟨ba, 0, none⟩), .pointer (some ⟨bt, 0, none⟩), .pointer (some ⟨bv, 0, none⟩)] w fun e w' => e = .returned (.int .i64 (cmpL xs L[i])) ∧ ∃ n, w' = w.drewN n := by
  obtain ⟨ob, oc, ra, rc, q1, hv, htb, hob, q2, hrow⟩ := ht
  obtain ⟨rb, la, lc, rfl, hrb, q3, hin⟩ := hrow i hi
  have HC := fun n => Lib.hid (compare_any (ca := c) (cb := lc) (w := w.drewN n) (B := w.heap.size) (a := a) (b := la) (xs := xs) (ys := L[i]) hx hin (by omega) (by have := hL _ (List.getElem_mem hi); omega))
  have g1 : w.cell? ⟨ba, 0, none⟩ = some (.slice a xs.length c) := cell_of_block h1
  have g2 : w.cell? ⟨bt, 0, none⟩ = some (.pointer (some ⟨tb, 0, none⟩)) := cell_of_block h2
  have g3 : w.cell? ⟨bv, 0, none⟩ = some (.int .i64 (v : Nat)) := cell_of_block h3
  have hi1 : (i : Int) < L.length := by omega
  have hv1 : (v : Int) < nv := by omega
  clear h1 h2 h3 hx hin hrow
  generalize L[i] = y at *
  go_enter Try.func68, Try.ntmps68
  go_wp2
  go_quiet (first | (go_at_call 69; exact Calls.quiet_of_same ((HC _).out.mono (fun _ _ h => ⟨h.1, h.2.symm⟩))))
  go_wp2
  go_ret
  exact ⟨rfl, _, rfl⟩
set_option maxHeartbeats 1000000 in
theorem tfind_any {tb v nv ba bt bv : Nat} {L : Wds} {a : Option Addr} {c : Nat} {xs : List Int} {w : World} (ht : TRead w tb v nv L) (h1 : w.heap[ba]? = some (.cells #[.slice a xs.length c] 26 (0, 0))) (h2 : w.heap[bt]? = some (.cells #[.pointer (some ⟨tb, 0, none⟩)] 37 (0, 0))) (h3 : w.heap[bv]? = some (.cells #[.int .i64 (v : Nat)] 3 (0, 0)))
    (hx : Ints w w.heap.size a xs) (hxl : xs.length ≤ 100000) (hL : ∀ y ∈ L, y.length ≤ 100000) (hn : L.length ≤ 100000) :
    Calls Try.prog 67 #[.int .i64 (L.length : Nat), .func (.func 68) #[] #[.pointer (some ⟨ba, 0, none⟩), .pointer (some ⟨bt, 0, none⟩), .pointer (some ⟨bv, 0, none⟩)]] w (FindPost L xs w) := by
  have HC : Hid (∀ (n i : Nat) (hi : i < L.length), Calls Try.prog 68 #[.int .i64 (i : Nat), .pointer (some ⟨ba, 0, none⟩), .pointer (some ⟨bt, 0, none⟩), .pointer (some ⟨bv, 0, none⟩)] (w.drewN n) fun e w' => e = .returned (.int .i64 (cmpL xs L[i])) ∧ ∃ m, w' = (w.drewN n).drewN m) := Lib.hid (fun n i hi =>
    tclosure_any (w := w.drewN n) (ht.grow ⟨rfl, rfl, rfl, Nat.le_refl _, fun _ _ => rfl⟩) h1 h2 h3 hx hxl hL hi)
  clear ht h1 h2 h3 hx hL
  go_enter Try.func67, Try.ntmps67
  go_wp2
  go_loopw [4, 6] (fun i j wr => ∃ p q : Nat, p ≤ q ∧ q ≤ L.length ∧ i = .int .i64 p ∧ j = .int .i64 q ∧ Hid ((∀ t, p = t + 1 → ∃ y, L[t]? = some y ∧ 0 < cmpL xs y) ∧ (∀ y, L[q]? = some y → cmpL xs y ≤ 0)) ∧ ∃ n, wr = w.drewN n) (fun i j _ => (intOf j).toNat - (intOf i).toNat)
  case atStart => exact ⟨0, L.length, by omega, by omega, rfl, rfl, Lib.hid ⟨fun t h => by omega, fun y h => by simp at h⟩, 0, rfl⟩
  case round =>
    obtain ⟨p, q, hpq, hq, rfl, rfl, hf, n, rfl⟩ := hrel
    by_cases hlt : p < q
    · have hki : (p : Int) < q := by omega
      obtain ⟨m, hm⟩ : ∃ m, m = (p + q) / 2 := ⟨_, rfl⟩
      have hml : m < L.length := by omega
      have hmi : ((p : Int) + (q : Int)) / 2 = (m : Int) := by omega
      have hmp : p ≤ m := by omega
      have hmq : m < q := by omega
      have HCm := Lib.hid (HC.out n m hml)
      clear hm
      go_wp2_with fail
      refine HCm.out.mono ?_
      rintro e w1 ⟨rfl, n1, rfl⟩
      have HY := Lib.hid (List.getElem?_eq_getElem hml)
      clear hmi HCm
      generalize L[m] = y at *
      by_cases hg : 0 < cmpL xs y
      · have HG := Lib.hid hg
        go_wp2
        go_roundw
        case rel => exact ⟨m + 1, q, by omega, hq, by go_num, rfl, Lib.hid ⟨fun t ht => ⟨y, by rw [show t = m by omega]; exact HY.out, HG.out⟩, hf.out.2⟩, _, rfl⟩
        case measure => simp [intOf]; omega
      · have HG := Lib.hid (Int.not_lt.1 hg)
        go_wp2
        go_roundw
        case rel => exact ⟨p, m, by omega, by omega, rfl, rfl, Lib.hid ⟨hf.out.1, fun y' hy => by rw [HY.out] at hy; injection hy with hy; rw [← hy]; exact HG.out⟩, _, rfl⟩
        case measure => simp [intOf]; omega
    · have hpq2 : q = p := by omega
      subst hpq2
      have hki : ¬ ((q : Int) < (q : Int)) := by omega
      by_cases hl : q < L.length
      · have hli : (q : Int) < L.length := by omega
        have HCm := Lib.hid (HC.out n q hl)
        go_wp2_with fail
        refine HCm.out.mono ?_
        rintro e w1 ⟨rfl, n1, rfl⟩
        have HD : Hid ((cmpL xs L[q] == 0) = decide (L[q]? = some xs)) := Lib.hid (by
          rw [List.getElem?_eq_getElem hl, Bool.eq_iff_iff]
          simp [cmpL_zero])
        clear HCm
        generalize cmpL xs L[q] = cv at *
        go_wp2
        go_ret2
        exact ⟨q, ⟨hq, hf.out.1, hf.out.2⟩, by rw [← HD.out]; rfl, _, rfl⟩
      · have hli : ¬ (q : Int) < L.length := by omega
        have HD : Hid (decide (L[q]? = some xs) = false) := Lib.hid (by rw [List.getElem?_eq_none (by omega)]; rfl)
        go_wp2
        go_ret2
        exact ⟨q, ⟨hq, hf.out.1, hf.out.2⟩, by rw [HD.out]; rfl, n, rfl⟩
/-- The place: its boxes besides. -/
def TPlacePost (L : Wds) (xs : List Int) (w : World) (e : Ending) (w' : World) : Prop :=
  ∃ p, PlaceOK L xs p ∧ e = .returned (.tuple #[.int .i64 (p : Nat), .bool (decide (L[p]? = some xs))]) ∧ Grow w w'
set_option maxRecDepth 100000 in
set_option maxHeartbeats 1000000 in
theorem tplace_any {tb v nv : Nat} {L : Wds} {a : Option Addr} {c : Nat} {xs : List Int} {w : World} (ht : TRead w tb v nv L) (hx : Lst w a xs) (hxl : xs.length ≤ 100000) (hL : ∀ y ∈ L, y.length ≤ 100000) (hn : L.length ≤ 100000) :
    Calls Try.prog 41 #[.pointer (some ⟨tb, 0, none⟩), .int .i64 (v : Nat), .slice a xs.length c] w (TPlacePost L xs w) := by
  have HT := Lib.hid ht
  have HX := Lib.hid hx
  clear ht hx
  go_enter Try.func41, Try.ntmps41
  go_wp2_with fail
  obtain ⟨f1, f2, f3⟩ := heap_three w (.cells #[.pointer (some ⟨tb, 0, none⟩)] 37) (.cells #[.int .i64 (v : Nat)] 3) (.cells #[.slice a xs.length c] 26)
  have HGR := Lib.hid (((grow_one w (.cells #[.pointer (some ⟨tb, 0, none⟩)] 37)).trans (grow_one _ (.cells #[.int .i64 (v : Nat)] 3))).trans (grow_one _ (.cells #[.slice a xs.length c] 26)))
  generalize ((w.alloc (.cells #[.pointer (some ⟨tb, 0, none⟩)] 37)).alloc (.cells #[.int .i64 (v : Nat)] 3)).alloc (.cells #[.slice a xs.length c] 26) = W at *
  have hT1 := HT.out.grow (HGR.out.trans (grow_drew W))
  have HF := Lib.hid (tfind_any (c := c) hT1 f3 f1 f2 (HX.out.go (HGR.out.trans (grow_drew W))) hxl hL hn)
  obtain ⟨ob, oc, ra, rc, q1, hv, htb, hob, q2, -⟩ := hT1
  have hv1 : (v : Int) < nv := by omega
  have e1 : W.drew.cell? ⟨w.heap.size, 0, none⟩ = some (.pointer (some ⟨tb, 0, none⟩)) := cell_of_block (off := 0) f1
  have e2 : W.drew.cell? ⟨w.heap.size + 1, 0, none⟩ = some (.int .i64 (v : Nat)) := cell_of_block (off := 0) f2
  have hmf : ∀ (fn : Fn) (first cap : Array Value) (w : World), (Instr.makeFunc fn first cap).run Try.prog w = .ok (.func fn first cap) w := fun _ _ _ _ => rfl
  have hSd : W.drew.cell? ⟨w.heap.size, 0, none⟩ = some (.pointer (some ⟨tb, 0, none⟩)) ∧ W.drew.cell? ⟨w.heap.size + 1, 0, none⟩ = some (.int .i64 (v : Nat)) ∧ W.drew.cell? ⟨tb, 1, none⟩ = some (.slice (some ⟨ob, 0, none⟩) nv oc) ∧ W.drew.cell? ⟨ob, v, none⟩ = some (.slice ra (List.length L) rc) := ⟨e1, e2, q1, q2⟩
  clear f1 f2 f3
  go_region_held3 (fun w' => w'.cell? ⟨w.heap.size, 0, none⟩ = some (.pointer (some ⟨tb, 0, none⟩)) ∧ w'.cell? ⟨w.heap.size + 1, 0, none⟩ = some (.int .i64 (v : Nat)) ∧ w'.cell? ⟨tb, 1, none⟩ = some (.slice (some ⟨ob, 0, none⟩) nv oc) ∧ w'.cell? ⟨ob, v, none⟩ = some (.slice ra (List.length L) rc))
    (exact hSd)
    (first
    | (go_at_call 67; refine HF.out.mono ?_; rintro e w3 ⟨p, hp, rfl, n3, rfl⟩
       have HP := Lib.hid hp
       clear hp))
  all_goals
    go_wp2_with fail
    go_ret2
    exact ⟨p, HP.out, rfl, HGR.out.trans ⟨rfl, rfl, rfl, Nat.le_refl _, fun _ _ => rfl⟩⟩
end Go.Proofs.Ytmiiolgbjicocaa
