/- What a lookahead means, by a table: the walk of Find. -/
import Derived.Test.YtmiiolgbjicocaaTPlace
namespace Go.Proofs.Ytmiiolgbjicocaa
open Go.RowKit
/-- A row: a lookahead, and its rules. -/
abbrev TRow := List Int × List Int
/-- A variable's rows in a table: all of them. -/
def TRows (w : World) (tb v nv : Nat) (T : List TRow) : Prop :=
  ∃ ob oc ra rc, w.cell? ⟨tb, 1, none⟩ = some (.slice (some ⟨ob, 0, none⟩) nv oc) ∧ v < nv ∧ tb < w.heap.size ∧ ob < w.heap.size ∧ w.cell? ⟨ob, v, none⟩ = some (.slice ra T.length rc) ∧
    ∀ i (h : i < T.length), ∃ rb la lc ua uc, ra = some ⟨rb, 0, none⟩ ∧ rb < w.heap.size ∧ w.cell? ⟨rb, i * 2, none⟩ = some (.slice la T[i].1.length lc) ∧ Lst w la T[i].1 ∧ w.cell? ⟨rb, i * 2 + 1, none⟩ = some (.slice ua T[i].2.length uc) ∧ Lst w ua T[i].2 ∧ (la = none → lc = 0) ∧ (ua = none → uc = 0)
theorem TRows.grow {w w' : World} {tb v nv : Nat} {T : List TRow} (h : TRows w tb v nv T) (hg : Grow w w') : TRows w' tb v nv T := by
  obtain ⟨ob, oc, ra, rc, h1, h2, h3, h4, h5, h6⟩ := h
  refine ⟨ob, oc, ra, rc, (below_cell hg h3).trans h1, h2, Nat.lt_of_lt_of_le h3 hg.size, Nat.lt_of_lt_of_le h4 hg.size, (below_cell hg h4).trans h5, fun i hi => ?_⟩
  obtain ⟨rb, la, lc, ua, uc, h7, h8, h9, h10, h11, h12, h13, h14⟩ := h6 i hi
  exact ⟨rb, la, lc, ua, uc, h7, Nat.lt_of_lt_of_le h8 hg.size, (below_cell hg h8).trans h9, h10.go hg, (below_cell hg h8).trans h11, h12.go hg, h13, h14⟩
theorem TRows.read {w : World} {tb v nv : Nat} {T : List TRow} (h : TRows w tb v nv T) : TRead w tb v nv (T.map Prod.fst) := by
  obtain ⟨ob, oc, ra, rc, h1, h2, h3, h4, h5, h6⟩ := h
  refine ⟨ob, oc, ra, rc, h1, h2, h3, h4, by rw [List.length_map]; exact h5, fun i hi => ?_⟩
  simp only [List.length_map] at hi
  obtain ⟨rb, la, lc, ua, uc, h7, h8, h9, h10, _⟩ := h6 i hi
  exact ⟨rb, la, lc, h7, h8, by rw [List.getElem_map]; exact h9, by rw [List.getElem_map]; exact h10⟩
/-- The rules of a lookahead's row, or none. -/
def findT (T : List TRow) (a : List Int) : List Int := match T.find? (fun r => decide (r.1 = a)) with | some r => r.2 | none => []
theorem findT_hit {T : List TRow} {a : List Int} (hs : Sorted (T.map Prod.fst)) {p : Nat} (hp : (T.map Prod.fst)[p]? = some a) : ∃ h : p < T.length, findT T a = T[p].2 := by
  obtain ⟨h1, h2⟩ := List.getElem?_eq_some_iff.1 hp
  simp only [List.length_map] at h1
  rw [List.getElem_map] at h2
  refine ⟨h1, ?_⟩
  unfold findT
  have : T.find? (fun r => decide (r.1 = a)) = some T[p] := by
    rw [List.find?_eq_some_iff_getElem]
    refine ⟨by simpa using h2, p, h1, rfl, fun j hj => ?_⟩
    simp only [Bool.not_eq_true', decide_eq_false_iff_not]
    intro e
    have h5 := hs j p a a hj (by rw [List.getElem?_map, List.getElem?_eq_getElem (by omega)]; exact congrArg some e) hp
    rw [lessL_irr] at h5; cases h5
  rw [this]
theorem findT_miss {T : List TRow} {a : List Int} (hs : Sorted (T.map Prod.fst)) {p : Nat} (hp : PlaceOK (T.map Prod.fst) a p) (hn : (T.map Prod.fst)[p]? ≠ some a) : findT T a = [] := by
  have hm : a ∉ T.map Prod.fst := fun h => hn ((place_mem hs hp).2 h)
  unfold findT
  have : T.find? (fun r => decide (r.1 = a)) = none := by
    rw [List.find?_eq_none]
    intro r hr
    simp only [decide_eq_true_eq]
    intro e
    exact hm (List.mem_map.2 ⟨r, hr, e⟩)
  rw [this]
theorem tf_case {w : World} {tb v nv : Nat} {T : List TRow} {zs : List Int} (ht : TRows w tb v nv T) (hs : Sorted (T.map Prod.fst)) (hL : ∀ r ∈ T, r.1.length ≤ 100000 ∧ r.2.length ≤ 100000) {p : Nat} (hp : PlaceOK (T.map Prod.fst) zs p) {ob oc : Nat} {ra : Option Addr} {rc : Nat} (q1 : w.cell? ⟨tb, 1, none⟩ = some (.slice (some ⟨ob, 0, none⟩) nv oc)) (q2 : w.cell? ⟨ob, v, none⟩ = some (.slice ra T.length rc)) :
    (decide ((T.map Prod.fst)[p]? = some zs) = true ∧ ∃ rb ua uc, ra = some ⟨rb, 0, none⟩ ∧ rb < w.heap.size ∧ p < T.length ∧ w.cell? ⟨rb, p * 2 + 1, none⟩ = some (.slice ua (findT T zs).length uc) ∧ Lst w ua (findT T zs) ∧ (ua = none → uc = 0) ∧ (findT T zs).length ≤ 100000) ∨ (decide ((T.map Prod.fst)[p]? = some zs) = false ∧ findT T zs = []) := by
  by_cases hh : (T.map Prod.fst)[p]? = some zs
  · obtain ⟨h1, h2⟩ := findT_hit hs hh
    obtain ⟨ob', oc', ra', rc', e1, _, _, _, e2, hrow⟩ := ht
    rw [q1] at e1
    simp only [Option.some.injEq, Value.slice.injEq, Addr.mk.injEq, and_true, true_and] at e1
    obtain ⟨rfl, rfl⟩ := e1
    rw [q2] at e2
    simp only [Option.some.injEq, Value.slice.injEq, true_and] at e2
    obtain ⟨rfl, rfl⟩ := e2
    obtain ⟨rb, la, lc, ua, uc, h7, h8, h9, h10, h11, h12, h13, h14⟩ := hrow p h1
    refine .inl ⟨decide_eq_true hh, rb, ua, uc, h7, h8, h1, ?_, ?_, h14, ?_⟩
    · rw [h2]; exact h11
    · rw [h2]; exact h12
    · rw [h2]; exact (hL _ (List.getElem_mem h1)).2
  · exact .inr ⟨decide_eq_false hh, findT_miss hs hp hh⟩
def TFindPost (ys : List Int) (w : World) (e : Ending) (w' : World) : Prop := ∃ a c, e = .returned (.slice a ys.length c) ∧ Lst w' a ys ∧ (a = none → c = 0) ∧ Grow w w'
set_option maxRecDepth 100000 in
set_option maxHeartbeats 1000000 in
theorem tfind_walk {tb v nv : Nat} {K : Int} {T : List TRow} {a : Option Addr} {c : Nat} {xs : List Int} {w : World} (ht : TRows w tb v nv T) (hK : w.cell? ⟨tb, 0, none⟩ = some (.int .i64 K)) (hs : Sorted (T.map Prod.fst)) (hx : Lst w a xs) (hn0 : a = none → c = 0) (hxc : xs.length ≤ c) (hxl : xs.length ≤ 100000) (hL : ∀ r ∈ T, r.1.length ≤ 100000 ∧ r.2.length ≤ 100000) (hn : T.length ≤ 100000) :
    Calls Try.prog 16 #[.pointer (some ⟨tb, 0, none⟩), .int .i64 (v : Nat), .slice a xs.length c] w (TFindPost (findT T (cutL xs K)) w) := by
  have HT := Lib.hid ht
  have HS := Lib.hid hs
  have HCUT := Lib.hid (cut_any (cap := c) hx hn0 (by omega) hxc K)
  have HPL := Lib.hid (fun W (hg : Grow w W) ca cc (hc : Lst W ca (cutL xs K)) => tplace_any (c := cc) ((HT.out.grow hg).read) hc (by unfold cutL; rw [List.length_take]; omega) (fun y hy => by obtain ⟨r, hr, rfl⟩ := List.mem_map.1 hy; exact (hL r hr).1) (by rw [List.length_map]; exact hn))
  have HLL := Lib.hid hL
  obtain ⟨ob, oc, ra, rc, q1, hv, htb, hob, q2, -⟩ := ht
  have hv1 : (v : Int) < nv := by omega
  clear hs hx hn0 hL
  have hd1 : decide ((v : Int) < 0) = false := decide_eq_false (by omega)
  have hd2 : decide ((nv : Int) ≤ v) = false := decide_eq_false (by omega)
  generalize cutL xs K = zs at *
  go_enter Try.func16, Try.ntmps16
  go_wp2_with (first
    | (at_builtin; (refine append_ints rfl (.const (.slice none 0 0)) (.tmp 44) 26 rfl Try.underlying26 info3 w2.heap.size (.slice none 0 0) [] rfl (own_nil _ _) ua uc _ (findT T zs) rfl rfl u3 HU.out.src (by simp only [List.length_nil]; omega) (Nat.le_refl _) ?_); intro v' w3 hown3 hgrow3
       obtain ⟨ya, yc, rfl, hyn, hyi, -, -⟩ := hown3.shape
       have HY := Lib.hid (And.intro hyi (And.intro (fun h => (hyn h).1) hgrow3))
       clear hown3 hyi hyn hgrow3)
    | (go_at_call 41; refine (HPL.out _ HG1.out _ _ HLZ.out).mono ?_; rintro e w2 ⟨p, hp, rfl, hg2⟩
       have HP := Lib.hid hp
       have HG2 := Lib.hid (HG1.out.trans hg2)
       have t1 := (below_cell HG2.out htb).trans q1
       have t2 := (below_cell HG2.out hob).trans q2
       have htb2 : tb < w2.heap.size := Nat.lt_of_lt_of_le htb HG2.out.size
       have HT2 := Lib.hid (HT.out.grow HG2.out)
       clear hp hg2
       rcases tf_case HT2.out HS.out HLL.out HP.out t1 t2 with ⟨hd, rb, ua, uc, rfl, hrb, hpl, u1, u2, u3, u4⟩ | ⟨hd, hnil⟩
       all_goals
         rw [hd]
         try (have hpi := Int.ofNat_lt.2 hpl; have HU := Lib.hid u2; clear u2))
    | (go_at_call 42; refine HCUT.out.mono ?_; rintro e w1 ⟨z, rfl, hown, hb⟩
       obtain ⟨za, zc, rfl, -, hzi, -, -⟩ := hown.shape
       have HG1 := Lib.hid (show Grow w w1 from hb)
       have HLZ := Lib.hid (show Lst w1 za zs from hzi)
       clear hown hb hzi))
  all_goals first
    | (exfalso; omega)
    | (go_ret
       exact ⟨none, 0, by rw [hnil]; rfl, by rw [hnil]; exact lst_nil _ _, fun _ => rfl, HG2.out⟩)
    | (go_ret
       exact ⟨ya, yc, rfl, HY.out.1, HY.out.2.1, HG2.out.trans ⟨HY.out.2.2.os, HY.out.2.2.tape, HY.out.2.2.output, HY.out.2.2.size, fun k hk => HY.out.2.2.block k hk (fun h => by simp [Value.ownBlock] at h)⟩⟩)
end Go.Proofs.Ytmiiolgbjicocaa
