/- A rule put into a lookahead's row. -/
import Derived.Test.YtmiiolgbjicocaaTabC
import Derived.Deep.RegionHeld3
namespace Go.Proofs.Ytmiiolgbjicocaa
open Go.RowKit
theorem info44 : (Try.prog.info? 44).map (fun i => (i.zero, i.size, i.bytes)) = some (some (.agg #[.slice none 0 0, .slice none 0 0]), 2, 48) := by kernel_rfl
/-- A rule put in, at a place. -/
def addT (x : List TRow) (p : Nat) (look : List Int) (i : Int) : List TRow := if (x.map Prod.fst)[p]? = some look then x.set p (look, (x.getD p ([], [])).2 ++ [i]) else insAt x p (look, [i])
def TAddPost (lo : Nat) (ρ : Nat → Role) (tb ob nv oc : Nat) (K : Int) (g : GramD) (T : List (List TRow)) (v : Nat) (x : List TRow) (look : List Int) (i : Int) (w : World) (e : Ending) (w' : World) : Prop :=
  e = .returned (.tuple #[]) ∧ ∃ p ρ', PlaceOK (x.map Prod.fst) look p ∧ TabM lo ρ' tb ob nv oc K g (T.set v (addT x p look i)) w' ∧ Kept (fun k => ρ k ≠ .other) w w' ∧ ∀ k, k < w.heap.size → ρ' k = ρ k
section
variable {lo tb ob nv oc v : Nat} {ρ : Nat → Role} {K : Int} {g : GramD} {T : List (List TRow)} {x : List TRow} {la : Option Addr} {lc : Nat} {look : List Int} {w : World}
theorem sorted_apart {L : List (List Int)} (hs : Sorted L) {i j : Nat} {a : List Int} (hi : L[i]? = some a) (hj : L[j]? = some a) : i = j := by
  rcases Nat.lt_trichotomy i j with h | h | h
  · have := hs i j a a h hi hj
    rw [lessL_irr] at this; cases this
  · exact h
  · have := hs j i a a h hj hi
    rw [lessL_irr] at this; cases this
theorem Mid.cellAt {gb cap m : Nat} {xs : List Value} {rs : List (Value × Value)} (h : Mid lo ρ tb ob nv oc K g T v gb cap m xs rs x w) {j : Nat} (hj : j < m * 2) : w.cell? ⟨gb, j, none⟩ = xs[j]? ∧ w.frozen? ⟨gb, j, none⟩ = false ∧ gb < w.heap.size ∧ m ≤ cap ∧ cap ≤ maxLen := by
  have ho := h.own
  rcases h.own.2 with ⟨h0, _⟩ | ⟨g', cap', cur, e, _, hcur, h1, h2, _⟩
  · cases h0
  · injection e with e1 e2 e3
    injection e1 with e1
    injection e1 with e1
    subst e1 e3
    exact ⟨ho.cellAt j hj, free_of_block hcur, lt_of_block hcur, h1, h2⟩
/-- What the last step finds: the row's rules, and what their turning leaves. -/
structure LastI (lo : Nat) (ρ : Nat → Role) (tb ob nv oc : Nat) (K : Int) (g : GramD) (T : List (List TRow)) (v p m gb cap : Nat) (u : Value) (look us : List Int) (i : Int) (x : List TRow) (wb w : World) : Prop where
  c1 : w.cell? ⟨tb, 1, none⟩ = some (.slice (some ⟨ob, 0, none⟩) nv oc)
  c2 : w.cell? ⟨ob, v, none⟩ = some (.slice (some ⟨gb, 0, none⟩) m cap)
  c3 : w.cell? ⟨gb, p * 2 + 1, none⟩ = some u
  f3 : w.frozen? ⟨gb, p * 2 + 1, none⟩ = false
  own : w.ownsRow lo 3 1 u us.length (us.map (Value.int .i64))
  hp : p < m
  los : lo ≤ w.heap.size
  tbl : tb < w.heap.size
  obl : ob < w.heap.size
  gbl : gb < w.heap.size
  gne : gb ≠ tb ∧ gb ≠ ob
  ne : some tb ≠ u.ownBlock ∧ some ob ≠ u.ownBlock ∧ some gb ≠ u.ownBlock
  next : ∀ (w2 w3 : World) (ub ucap n : Nat), Grow w w2 → w2.grownBy w3 u.ownBlock → w3.ownsRow lo 3 1 (.slice (some ⟨ub, 0, none⟩) n ucap) n (us.map (Value.int .i64) ++ [.int .i64 i]) → n = us.length + 1 → (u.ownBlock = some ub ∨ ub = w2.heap.size) →
    ∃ ρ', TabM lo ρ' tb ob nv oc K g (T.set v (x.set p (look, us ++ [i]))) (w3.setCell ⟨gb, p * 2 + 1, none⟩ (.slice (some ⟨ub, 0, none⟩) n ucap)) ∧ Kept (fun k => ρ k ≠ .other) wb (w3.setCell ⟨gb, p * 2 + 1, none⟩ (.slice (some ⟨ub, 0, none⟩) n ucap)) ∧ ∀ k, k < wb.heap.size → ρ' k = ρ k
theorem LastI.grow {p m gb cap : Nat} {u : Value} {us : List Int} {i : Int} {wb w' : World} (h : LastI lo ρ tb ob nv oc K g T v p m gb cap u look us i x wb w) (hg : Grow w w') : LastI lo ρ tb ob nv oc K g T v p m gb cap u look us i x wb w' :=
  ⟨(below_cell hg h.tbl).trans h.c1, (below_cell hg h.obl).trans h.c2, (below_cell hg h.gbl).trans h.c3, (World.frozen?_of_block (hg.block gb h.gbl)).trans h.f3, own_stay h.own (fun k hk => hg.block k (own_lt h.own hk).1), h.hp, Nat.le_trans h.los hg.size, Nat.lt_of_lt_of_le h.tbl hg.size, Nat.lt_of_lt_of_le h.obl hg.size, Nat.lt_of_lt_of_le h.gbl hg.size, h.gne, h.ne, fun w2 w3 ub ucap n h1 => h.next w2 w3 ub ucap n (hg.trans h1)⟩
theorem TabM.last (h : TabM lo ρ tb ob nv oc K g T w) (hx : T[v]? = some x) (hs : Sorted (x.map Prod.fst)) {p : Nat} {us : List Int} (hp : x[p]? = some (look, us)) (i : Int) : ∃ gb cap u, LastI lo ρ tb ob nv oc K g T v p x.length gb cap u look us i x w w := by
  have hpl := (List.getElem?_eq_some_iff.1 hp).1
  have hv : v < nv := by rw [← h.len]; exact (List.getElem?_eq_some_iff.1 hx).1
  obtain ⟨gb, cap, rs, hl, hm⟩ := h.mid hx (by omega)
  have hr : rs[p]? = some (rs[p]'(by omega)) := List.getElem?_eq_getElem _
  generalize rs[p]'(by omega) = r at hr
  obtain ⟨q1, q2, q3, -, -⟩ := hm.cellAt (j := p * 2 + 1) (by omega)
  rw [(flatR_get rs p r hr).2] at q1
  have hD := hm.ds p r _ hr hp
  have hne : ∀ k, ρ k ≠ .rules v look → some k ≠ r.2.ownBlock := fun k hk e => hk (hD.role k e.symm)
  refine ⟨gb, cap, r.2, cell_of_block (off := 1) hm.base.tab, hm.cell, q1, q2, hD.own, hpl, hm.base.los, lt_of_block hm.base.tab, hm.base.obs, q3, ⟨(fun e => by have h1 := hm.role; rw [e, hm.base.rtab] at h1; cases h1), (fun e => by have h1 := hm.role; rw [e, hm.base.rout] at h1; cases h1)⟩, ⟨hne _ (by rw [hm.base.rtab]; exact nofun), hne _ (by rw [hm.base.rout]; exact nofun), hne _ (by rw [hm.role]; exact nofun)⟩, fun w2 w3 ub ucap n hg hgr ho hn hat => ?_⟩
  exact TabM.rule hm hv hl hr hp (fun j z hz hj e => hj (sorted_apart hs (a := look) (by rw [List.getElem?_map, hz]; exact congrArg some e) (by rw [List.getElem?_map, hp]; rfl))) hg hgr (us := us ++ [i]) (by rw [List.map_append]; exact ho) (by rw [List.length_append]; exact hn) hat
set_option maxRecDepth 100000 in
set_option maxHeartbeats 4000000 in
theorem add_old {w : World} (h : TabM lo ρ tb ob nv oc K g T w) (hx : T[v]? = some x) (hs : Sorted (x.map Prod.fst)) (hL : ∀ r ∈ x, r.1.length ≤ 100000 ∧ r.2.length ≤ 100000) (hn : x.length ≤ 100000) (hl : LookD ρ (.slice la look.length lc) look w) (hll : look.length ≤ 100000) (i : Int) (hin : look ∈ x.map Prod.fst) :
    Calls Try.prog 36 #[.pointer (some ⟨tb, 0, none⟩), .int .i64 (v : Nat), .slice la look.length lc, .int .i64 i] w (TAddPost lo ρ tb ob nv oc K g T v x look i w) := by
  have HPL := Lib.hid (tplace_any (c := lc) ((h.read hx).read) (a := la) (xs := look) (by
    obtain ⟨la', lc', e, h2, -⟩ := hl
    injection e with e1 e2 e3
    rw [e1]; exact h2) hll (fun y hy => by
    obtain ⟨r, hr, rfl⟩ := List.mem_map.1 hy
    exact (hL r hr).1) (by simpa using hn))
  obtain ⟨i0, hi0, hz0, hz1, hz2⟩ := info_parts info3
  have hv : v < nv := by rw [← h.len]; exact (List.getElem?_eq_some_iff.1 hx).1
  have hvi : (v : Int) < nv := by omega
  have HFIN : Hid (∀ p us w1, PlaceOK (x.map Prod.fst) look p → Grow w w1 → x[p]? = some (look, us) → ∃ gb cap u, Hid (LastI lo ρ tb ob nv oc K g T v p x.length gb cap u look us i x w1 w1) ∧ us.length ≤ 100000 ∧ ∀ ρ' w4, TabM lo ρ' tb ob nv oc K g (T.set v (x.set p (look, us ++ [i]))) w4 → Kept (fun k => ρ k ≠ .other) w1 w4 → (∀ k, k < w1.heap.size → ρ' k = ρ k) → TAddPost lo ρ tb ob nv oc K g T v x look i w (.returned (.tuple #[])) w4) := Lib.hid (fun p us w1 h1 h2 h3 => by
    obtain ⟨gb, cap, u, h4⟩ := (h.grow h2).last hx hs h3 i
    refine ⟨gb, cap, u, Lib.hid h4, (hL _ (List.mem_of_getElem? h3)).2, fun ρ' w4 h5 h6 h7 => ⟨rfl, p, ρ', h1, ?_, (kept_of_below h2 _).trans h6, fun k hk => h7 k (Nat.lt_of_lt_of_le hk h2.size)⟩⟩
    unfold addT
    rw [if_pos (by rw [List.getElem?_map, h3]; rfl), List.getD_eq_getElem?_getD, h3]
    exact h5)
  have HIN : Hid (∀ p, PlaceOK (x.map Prod.fst) look p → decide ((x.map Prod.fst)[p]? = some look) = true ∧ ∃ us, x[p]? = some (look, us)) := Lib.hid (fun p hp => by
    have h1 := (place_mem hs hp).2 hin
    refine ⟨decide_eq_true h1, ?_⟩
    rw [List.getElem?_map] at h1
    cases h2 : x[p]? with
    | none => rw [h2] at h1; cases h1
    | some r =>
      rw [h2] at h1
      injection h1 with h1
      exact ⟨r.2, by rw [← h1]⟩)
  have HXN : Hid (x.length ≤ 100000) := Lib.hid hn
  clear h hx hs hL hl hin hn
  generalize TAddPost lo ρ tb ob nv oc K g T v x look i w = Po at *
  go_enter Try.func36, Try.ntmps36
  go_wp2_with fail
  refine HPL.out.mono ?_
  rintro e w1 ⟨p, hp, rfl, hg1⟩
  obtain ⟨hdec, us, hus⟩ := HIN.out p hp
  rw [hdec]
  obtain ⟨gb, cap, u, HI, hul, hfin⟩ := HFIN.out p us w1 hp hg1 hus
  have HF := Lib.hid hfin
  clear hfin HFIN HIN HPL hdec hus hp hg1
  obtain ⟨m, hm⟩ : ∃ m, x.length = m := ⟨_, rfl⟩
  rw [hm] at HI
  have hp1 : p < m := HI.out.hp
  have hp2 : (p : Int) < m := by omega
  clear hm HXN
  go_wp2_with fail
  have HI0 := Lib.hid (HI.out.grow (grow_drew w1))
  clear HI
  have HA := Lib.hid (HI0.out.grow (grow_one w1.drew (.cells #[.int .i64 i] 3)))
  have z1 := HI0.out.c1
  have z2 := HI0.out.c2
  have z3 := HI0.out.c3
  have a1 := HA.out.c1
  have a2 := HA.out.c2
  have a3 := HA.out.c3
  have HNA := Lib.hid (World.news_of_block (w := (w1.drew.alloc (.cells #[.int .i64 i] 3))) (cs := #[.int .i64 i]) (t := 3) (fr := (0, 0)) (heap_alloc_new _ _))
  refine wp_region_held_drew (S := fun w' => w'.cell? ⟨tb, 1, none⟩ = some (.slice (some ⟨ob, 0, none⟩) nv oc) ∧ w'.cell? ⟨ob, v, none⟩ = some (.slice (some ⟨gb, 0, none⟩) m cap)) (by kernel_rfl) (⟨z1, z2⟩) (fun hHeld => ?_)
  generalize w1.drew = W0 at *
  refine wpAnyH_take (i := 0) (v := ?_) rfl (by kernel_rfl) (by kernel_rfl) (by kernel_rfl) (fun _ _ _ h => h) (Or.inl ⟨by rfl, ?_⟩) (by with_reducible assumption) ?_
  rotate_left
  · intro w hSw
    try dsimp only at hSw
    go_simp
    try with_reducible rfl
  try simp only [Act.put, List.setIfInBounds_toArray]
  refine wpAnyH_take (i := 1) (v := ?_) rfl (by kernel_rfl) (by kernel_rfl) (by kernel_rfl) (fun _ _ _ h => h) (Or.inl ⟨by rfl, ?_⟩) (by with_reducible assumption) ?_
  rotate_left
  · intro w hSw
    try dsimp only at hSw
    go_simp
    try with_reducible rfl
  try simp only [Act.put]
  refine wpAnyH_take (i := 2) (v := ?_) rfl (by kernel_rfl) (by kernel_rfl) (by kernel_rfl) (fun _ _ _ h => h) (Or.inl ⟨by rfl, ?_⟩) (by with_reducible assumption) ?_
  rotate_left
  · intro w hSw
    try dsimp only at hSw
    go_simp
    try with_reducible rfl
  try simp only [Act.put]
  refine wpAnyH_take (i := 3) (v := ?_) rfl (by kernel_rfl) (by kernel_rfl) (by kernel_rfl) (fun _ _ _ h => h) (Or.inl ⟨by rfl, ?_⟩) (by with_reducible assumption) ?_
  rotate_left
  · intro w hSw
    try dsimp only at hSw
    go_simp
    try with_reducible rfl
  try simp only [Act.put]
  refine wpAnyH_take (i := 4) (v := ?_) rfl (by kernel_rfl) (by kernel_rfl) (by kernel_rfl) (fun _ _ _ h => h) (Or.inl ⟨by rfl, ?_⟩) (by with_reducible assumption) ?_
  rotate_left
  · intro w hSw
    try dsimp only at hSw
    go_simp
    try with_reducible rfl
  try simp only [Act.put]
  refine wpAnyH_take (i := 5) (v := ?_) rfl (by kernel_rfl) (by kernel_rfl) (by kernel_rfl) (fun _ _ _ h => h) (Or.inl ⟨by rfl, ?_⟩) (by with_reducible assumption) ?_
  rotate_left
  · intro w hSw
    try dsimp only at hSw
    go_simp
    try with_reducible rfl
  try simp only [Act.put]
  refine wpAnyH_take (i := 6) (v := ?_) rfl (by kernel_rfl) (by kernel_rfl) (by kernel_rfl) (fun _ _ _ h => h) (Or.inl ⟨by rfl, ?_⟩) (by with_reducible assumption) ?_
  rotate_left
  · intro w hSw
    try dsimp only at hSw
    go_simp
    try with_reducible rfl
  try simp only [Act.put]
  refine wpAnyH_take (i := 7) (v := ?_) rfl (by kernel_rfl) (by kernel_rfl) (by kernel_rfl) (fun _ _ _ h => h) (Or.inl ⟨by rfl, ?_⟩) (by with_reducible assumption) ?_
  rotate_left
  · intro w hSw
    try dsimp only at hSw
    go_simp
    try with_reducible rfl
  try simp only [Act.put]
  refine wpAnyH_take (i := 8) (v := ?_) rfl (by kernel_rfl) (by kernel_rfl) (by kernel_rfl) (fun _ _ _ h => h) (Or.inl ⟨by rfl, ?_⟩) (by with_reducible assumption) ?_
  rotate_left
  · intro w hSw
    try dsimp only at hSw
    go_simp
    try with_reducible rfl
  try simp only [Act.put]
  refine wpAnyH_take (i := 9) (v := ?_) rfl (by kernel_rfl) (by kernel_rfl) (by kernel_rfl) (fun _ _ _ h => h) (Or.inl ⟨by rfl, ?_⟩) (by with_reducible assumption) ?_
  rotate_left
  · intro w hSw
    try dsimp only at hSw
    go_simp
    try with_reducible rfl
  try simp only [Act.put]
  refine wpAnyH_take (i := 10) (v := ?_) rfl (by kernel_rfl) (by kernel_rfl) (by kernel_rfl) (fun _ _ _ h => h) (Or.inl ⟨by rfl, ?_⟩) (by with_reducible assumption) ?_
  rotate_left
  · intro w hSw
    try dsimp only at hSw
    go_simp
    try with_reducible rfl
  try simp only [Act.put]
  refine wpAnyH_take (i := 11) (v := ?_) rfl (by kernel_rfl) (by kernel_rfl) (by kernel_rfl) (fun _ _ _ h => h) (Or.inl ⟨by rfl, ?_⟩) (by with_reducible assumption) ?_
  rotate_left
  · intro w hSw
    try dsimp only at hSw
    go_simp
    try with_reducible rfl
  try simp only [Act.put]
  refine wpAnyH_take (i := 12) (v := ?_) rfl (by kernel_rfl) (by kernel_rfl) (by kernel_rfl) (fun _ _ _ h => h) (Or.inl ⟨by rfl, ?_⟩) (by with_reducible assumption) ?_
  rotate_left
  · intro w hSw
    try dsimp only at hSw
    go_simp
    try with_reducible rfl
  try simp only [Act.put]
  refine wpAnyH_take (i := 13) (v := ?_) rfl (by kernel_rfl) (by kernel_rfl) (by kernel_rfl) (fun _ _ _ h => h) (Or.inl ⟨by rfl, ?_⟩) (by with_reducible assumption) ?_
  rotate_left
  · intro w hSw
    try dsimp only at hSw
    go_simp
    try with_reducible rfl
  try simp only [Act.put]
  refine wpAnyH_take (i := 14) (v := ?_) rfl (by kernel_rfl) (by kernel_rfl) (by kernel_rfl) (fun _ _ _ h => h) (Or.inl ⟨by rfl, ?_⟩) (by with_reducible assumption) ?_
  rotate_left
  · intro w hSw
    try dsimp only at hSw
    go_simp
    try with_reducible rfl
  try simp only [Act.put]
  refine wpAnyH_take (i := 15) (v := ?_) rfl (by kernel_rfl) (by kernel_rfl) (by kernel_rfl) (fun _ _ _ h => h) (Or.inl ⟨by rfl, ?_⟩) (by with_reducible assumption) ?_
  rotate_left
  · intro w hSw
    try dsimp only at hSw
    go_simp
    try with_reducible rfl
  try simp only [Act.put]
  refine wpAnyH_take (i := 16) (v := ?_) rfl (by kernel_rfl) (by kernel_rfl) (by kernel_rfl) (fun _ _ _ h => h) (Or.inl ⟨by rfl, ?_⟩) (by with_reducible assumption) ?_
  rotate_left
  · intro w hSw
    try dsimp only at hSw
    go_simp
    try with_reducible rfl
  try simp only [Act.put]
  refine wpAnyH_take (i := 17) (v := ?_) rfl (by kernel_rfl) (by kernel_rfl) (by kernel_rfl) (fun _ _ _ h => h) (Or.inl ⟨by rfl, ?_⟩) (by with_reducible assumption) ?_
  rotate_left
  · intro w hSw
    try dsimp only at hSw
    go_simp
    try with_reducible rfl
  try simp only [Act.put]
  refine wpAnyH_take (i := 19) (v := ?_) rfl (by kernel_rfl) (by kernel_rfl) (by kernel_rfl) (fun _ _ _ h => h) (Or.inl ⟨by rfl, ?_⟩) (by with_reducible assumption) ?_
  rotate_left
  · intro w hSw
    try dsimp only at hSw
    go_simp
    try with_reducible rfl
  try simp only [Act.put]
  refine wpAnyH_ready (rs := [18, 20]) (by kernel_rfl) (by simp) ?_
  refine AllReadyH.cons (o := _) rfl (fun K hK => ?_) ?_
  · go_simp
    refine hK.out _ _ (hHeld) (fun hHeld => ?_)
    clear hK K
    try simp only [Act.put, List.setIfInBounds_toArray, List.set_cons_zero, List.set_cons_succ]
    refine wpAnyH_ready (rs := [20]) (by kernel_rfl) (by simp) ?_
    refine AllReadyH.cons (o := _) rfl (fun K hK => ?_) ?_
    · go_simp
      refine hK.out _ _ (⟨a1, a2⟩) (fun hHeld => ?_)
      clear hK K
      try simp only [Act.put, List.setIfInBounds_toArray, List.set_cons_zero, List.set_cons_succ]
      refine wpAnyH_ready (rs := [21]) (by kernel_rfl) (by simp) ?_
      refine AllReadyH.cons (o := _) rfl (fun K hK => ?_) ?_
      · refine step_append_lies _ (by rfl) (.tmp 84) (.tmp 86) 26 (by rfl) lo 3 i0 _ 1 8 Try.underlying26 hi0 hz0 hz1 hz2 rfl (by decide) u us.length _ (by rfl) HA.out.own ⟨W0.heap.size, 0, none⟩ 1 1 [.int .i64 i] (by rfl) (by rfl) HNA.out (by simp [Value.oneCell']) (by decide) (by simp only [maxLen]; omega) (by omega) HA.out.los (W0.heap.size + 1) (by simp) ?_
        intro ub ucap w3 hown hgrow hat hlt
        have HX := Lib.hid (HA.out.next _ w3 ub ucap (us.length + 1) (Grow.refl _) hgrow hown rfl (hat.elim .inl (fun h => .inr (by simpa using h))))
        have b1 : w3.cell? ⟨tb, 1, none⟩ = some (.slice (some ⟨ob, 0, none⟩) nv oc) := (hgrow.cell_far _ HA.out.tbl HA.out.ne.1).trans a1
        have b2 : w3.cell? ⟨ob, v, none⟩ = some (.slice (some ⟨gb, 0, none⟩) m cap) := (hgrow.cell_far _ HA.out.obl HA.out.ne.2.1).trans a2
        have b3 : w3.cell? ⟨gb, p * 2 + 1, none⟩ = some u := (hgrow.cell_far _ HA.out.gbl HA.out.ne.2.2).trans a3
        have bf : w3.frozen? ⟨gb, p * 2 + 1, none⟩ = false := (hgrow.frozen_far _ HA.out.gbl HA.out.ne.2.2).trans HA.out.f3
        have HS := Lib.hid (And.intro ((World.cell?_setCell_far w3 ⟨gb, p * 2 + 1, none⟩ ⟨tb, 1, none⟩ (.slice (some ⟨ub, 0, none⟩) (us.length + 1) ucap) HA.out.gne.1).trans b1) ((World.cell?_setCell_far w3 ⟨gb, p * 2 + 1, none⟩ ⟨ob, v, none⟩ (.slice (some ⟨ub, 0, none⟩) (us.length + 1) ucap) HA.out.gne.2).trans b2))
        clear hown hgrow hat hlt
        refine hK.out _ _ (⟨b1, b2⟩) (fun hHeld => ?_)
        clear hK K
        try simp only [Act.put, List.setIfInBounds_toArray]
        refine wpAnyH_take (i := 22) (v := ?_) rfl (by kernel_rfl) (by kernel_rfl) (by kernel_rfl) (fun _ _ _ h => h) (Or.inl ⟨by rfl, ?_⟩) (by with_reducible assumption) ?_
        rotate_left
        · intro w hSw
          try dsimp only at hSw
          go_simp
          try with_reducible rfl
        try simp only [Act.put]
        refine wpAnyH_take (i := 23) (v := ?_) rfl (by kernel_rfl) (by kernel_rfl) (by kernel_rfl) (fun _ _ _ h => h) (Or.inl ⟨by rfl, ?_⟩) (by with_reducible assumption) ?_
        rotate_left
        · intro w hSw
          try dsimp only at hSw
          go_simp
          try with_reducible rfl
        try simp only [Act.put]
        refine wpAnyH_ready (rs := [24]) (by kernel_rfl) (by simp) ?_
        refine AllReadyH.cons (o := _) rfl (fun K hK => ?_) ?_
        · go_simp
          refine hK.out _ _ (HS.out) (fun hHeld => ?_)
          clear hK K
          try simp only [Act.put, List.setIfInBounds_toArray, List.set_cons_zero, List.set_cons_succ]
          refine wpAnyH_done (by kernel_rfl) ?_ _
          go_wp2
          go_end0
          obtain ⟨ρ5, e5, e6, e7⟩ := HX.out
          exact HF.out ρ5 _ e5 e6 e7
        exact AllReadyH.nil
      exact AllReadyH.nil
    exact AllReadyH.nil
  refine AllReadyH.cons (o := _) rfl (fun K hK => ?_) ?_
  · go_simp
    refine hK.out _ _ (⟨a1, a2⟩) (fun hHeld => ?_)
    clear hK K
    try simp only [Act.put, List.setIfInBounds_toArray, List.set_cons_zero, List.set_cons_succ]
    refine wpAnyH_ready (rs := [18]) (by kernel_rfl) (by simp) ?_
    refine AllReadyH.cons (o := _) rfl (fun K hK => ?_) ?_
    · go_simp
      refine hK.out _ _ (hHeld) (fun hHeld => ?_)
      clear hK K
      try simp only [Act.put, List.setIfInBounds_toArray, List.set_cons_zero, List.set_cons_succ]
      refine wpAnyH_ready (rs := [21]) (by kernel_rfl) (by simp) ?_
      refine AllReadyH.cons (o := _) rfl (fun K hK => ?_) ?_
      · refine step_append_lies _ (by rfl) (.tmp 84) (.tmp 86) 26 (by rfl) lo 3 i0 _ 1 8 Try.underlying26 hi0 hz0 hz1 hz2 rfl (by decide) u us.length _ (by rfl) HA.out.own ⟨W0.heap.size, 0, none⟩ 1 1 [.int .i64 i] (by rfl) (by rfl) HNA.out (by simp [Value.oneCell']) (by decide) (by simp only [maxLen]; omega) (by omega) HA.out.los (W0.heap.size + 1) (by simp) ?_
        intro ub ucap w3 hown hgrow hat hlt
        have HX := Lib.hid (HA.out.next _ w3 ub ucap (us.length + 1) (Grow.refl _) hgrow hown rfl (hat.elim .inl (fun h => .inr (by simpa using h))))
        have b1 : w3.cell? ⟨tb, 1, none⟩ = some (.slice (some ⟨ob, 0, none⟩) nv oc) := (hgrow.cell_far _ HA.out.tbl HA.out.ne.1).trans a1
        have b2 : w3.cell? ⟨ob, v, none⟩ = some (.slice (some ⟨gb, 0, none⟩) m cap) := (hgrow.cell_far _ HA.out.obl HA.out.ne.2.1).trans a2
        have b3 : w3.cell? ⟨gb, p * 2 + 1, none⟩ = some u := (hgrow.cell_far _ HA.out.gbl HA.out.ne.2.2).trans a3
        have bf : w3.frozen? ⟨gb, p * 2 + 1, none⟩ = false := (hgrow.frozen_far _ HA.out.gbl HA.out.ne.2.2).trans HA.out.f3
        have HS := Lib.hid (And.intro ((World.cell?_setCell_far w3 ⟨gb, p * 2 + 1, none⟩ ⟨tb, 1, none⟩ (.slice (some ⟨ub, 0, none⟩) (us.length + 1) ucap) HA.out.gne.1).trans b1) ((World.cell?_setCell_far w3 ⟨gb, p * 2 + 1, none⟩ ⟨ob, v, none⟩ (.slice (some ⟨ub, 0, none⟩) (us.length + 1) ucap) HA.out.gne.2).trans b2))
        clear hown hgrow hat hlt
        refine hK.out _ _ (⟨b1, b2⟩) (fun hHeld => ?_)
        clear hK K
        try simp only [Act.put, List.setIfInBounds_toArray]
        refine wpAnyH_take (i := 22) (v := ?_) rfl (by kernel_rfl) (by kernel_rfl) (by kernel_rfl) (fun _ _ _ h => h) (Or.inl ⟨by rfl, ?_⟩) (by with_reducible assumption) ?_
        rotate_left
        · intro w hSw
          try dsimp only at hSw
          go_simp
          try with_reducible rfl
        try simp only [Act.put]
        refine wpAnyH_take (i := 23) (v := ?_) rfl (by kernel_rfl) (by kernel_rfl) (by kernel_rfl) (fun _ _ _ h => h) (Or.inl ⟨by rfl, ?_⟩) (by with_reducible assumption) ?_
        rotate_left
        · intro w hSw
          try dsimp only at hSw
          go_simp
          try with_reducible rfl
        try simp only [Act.put]
        refine wpAnyH_ready (rs := [24]) (by kernel_rfl) (by simp) ?_
        refine AllReadyH.cons (o := _) rfl (fun K hK => ?_) ?_
        · go_simp
          refine hK.out _ _ (HS.out) (fun hHeld => ?_)
          clear hK K
          try simp only [Act.put, List.setIfInBounds_toArray, List.set_cons_zero, List.set_cons_succ]
          refine wpAnyH_done (by kernel_rfl) ?_ _
          go_wp2
          go_end0
          obtain ⟨ρ5, e5, e6, e7⟩ := HX.out
          exact HF.out ρ5 _ e5 e6 e7
        exact AllReadyH.nil
      exact AllReadyH.nil
    exact AllReadyH.nil
  exact AllReadyH.nil
/-- What the first step finds, where the lookahead is new: the variable's rows, and what one more leaves. -/
structure RowI (lo : Nat) (ρ : Nat → Role) (tb ob nv oc : Nat) (K : Int) (g : GramD) (T : List (List TRow)) (v : Nat) (x : List TRow) (rv : Value) (rs : List (Value × Value)) (wb w : World) : Prop where
  c1 : w.cell? ⟨tb, 1, none⟩ = some (.slice (some ⟨ob, 0, none⟩) nv oc)
  c2 : w.cell? ⟨ob, v, none⟩ = some rv
  f2 : w.frozen? ⟨ob, v, none⟩ = false
  own : w.ownsRow lo 44 2 rv rs.length (flatR rs)
  hl : rs.length = x.length
  los : lo ≤ w.heap.size
  tbl : tb < w.heap.size
  obl : ob < w.heap.size
  ont : ob ≠ tb
  ne : some tb ≠ rv.ownBlock ∧ some ob ≠ rv.ownBlock
  next : ∀ (w2 w3 : World) (gb cap m : Nat), Grow w w2 → w2.grownBy w3 rv.ownBlock → w3.ownsRow lo 44 2 (.slice (some ⟨gb, 0, none⟩) m cap) m (flatR rs ++ [.slice none 0 0, .slice none 0 0]) → (rv.ownBlock = some gb ∨ gb = w2.heap.size) →
    ∃ ρ', Mid lo ρ' tb ob nv oc K g T v gb cap m (flatR rs ++ [.slice none 0 0, .slice none 0 0]) rs x (w3.setCell ⟨ob, v, none⟩ (.slice (some ⟨gb, 0, none⟩) m cap)) ∧ Kept (fun k => ρ k ≠ .other) wb (w3.setCell ⟨ob, v, none⟩ (.slice (some ⟨gb, 0, none⟩) m cap)) ∧ ∀ k, k < wb.heap.size → ρ' k = ρ k
theorem RowI.grow {rv : Value} {rs : List (Value × Value)} {wb w' : World} (h : RowI lo ρ tb ob nv oc K g T v x rv rs wb w) (hg : Grow w w') : RowI lo ρ tb ob nv oc K g T v x rv rs wb w' :=
  ⟨(below_cell hg h.tbl).trans h.c1, (below_cell hg h.obl).trans h.c2, (World.frozen?_of_block (hg.block ob h.obl)).trans h.f2, own_stay h.own (fun k hk => hg.block k (own_lt h.own hk).1), h.hl, Nat.le_trans h.los hg.size, Nat.lt_of_lt_of_le h.tbl hg.size, Nat.lt_of_lt_of_le h.obl hg.size, h.ont, h.ne, fun w2 w3 gb cap m h1 => h.next w2 w3 gb cap m (hg.trans h1)⟩
theorem TabM.rowI (h : TabM lo ρ tb ob nv oc K g T w) (hx : T[v]? = some x) : ∃ rv rs, RowI lo ρ tb ob nv oc K g T v x rv rs w w := by
  obtain ⟨rv, rs, h1, h2, h3, h4, h5⟩ := h.rows v x hx
  exact ⟨rv, rs, cell_of_block (off := 1) h.base.tab, h1, h2, h3.own, h4, h.base.los, lt_of_block h.base.tab, h.base.obs, (fun e => by have h1 := h.base.rout; rw [e, h.base.rtab] at h1; cases h1),
    ⟨fun e => (by have h1 := h.base.rtab; rw [h3.role tb e.symm] at h1; cases h1), fun e => (by have h1 := h.base.rout; rw [h3.role ob e.symm] at h1; cases h1)⟩,
    fun w2 w3 gb cap m hg hgr ho hat => h.more hx h2 h3 h5 hg hgr ho hat⟩
theorem insAt_map {α β : Type} (f : α → β) (x : List α) (p : Nat) (y : α) : (insAt x p y).map f = insAt (x.map f) p (f y) := by
  unfold insAt
  rw [List.map_append, List.map_cons, List.map_take, List.map_drop]
theorem insAt_set {α : Type} {x : List α} {p : Nat} {y z : α} (hp : p ≤ x.length) : (insAt x p y).set p z = insAt x p z := by
  unfold insAt
  have hl : (x.take p).length = p := by rw [List.length_take]; omega
  rw [List.set_append_right _ _ (by omega), hl, Nat.sub_self]
  rfl
/-- The place of a new lookahead: what is sorted stays so. -/
theorem insAt_sorted {look : List Int} {i : List Int} {p : Nat} (hs : Sorted (x.map Prod.fst)) (hp : PlaceOK (x.map Prod.fst) look p) (hn : look ∉ x.map Prod.fst) : Sorted ((insAt x p (look, i)).map Prod.fst) := by
  have h1 := place_spot hs hp
  unfold addL at h1
  rw [if_neg (fun e => hn ((place_mem hs hp).1 e))] at h1
  rw [insAt_map]
  have e : insAt (x.map Prod.fst) p look = rAdd (x.map Prod.fst) look := by
    rw [← h1]
    unfold insAt
    rw [List.append_assoc]
    rfl
  rw [e]
  exact rAdd_sorted hs look
set_option maxRecDepth 100000 in
set_option maxHeartbeats 4000000 in
theorem add_new {w : World} (h : TabM lo ρ tb ob nv oc K g T w) (hx : T[v]? = some x) (hs : Sorted (x.map Prod.fst)) (hL : ∀ r ∈ x, r.1.length ≤ 100000 ∧ r.2.length ≤ 100000) (hn : x.length ≤ 100000) (hl : LookD ρ (.slice la look.length lc) look w) (hll : look.length ≤ 100000) (i : Int) (hin : look ∉ x.map Prod.fst) :
    Calls Try.prog 36 #[.pointer (some ⟨tb, 0, none⟩), .int .i64 (v : Nat), .slice la look.length lc, .int .i64 i] w (TAddPost lo ρ tb ob nv oc K g T v x look i w) := by
  have HPL := Lib.hid (tplace_any (c := lc) ((h.read hx).read) (a := la) (xs := look) (by
    obtain ⟨la', lc', e, h2, -⟩ := hl
    injection e with e1 e2 e3
    rw [e1]; exact h2) hll (fun y hy => by
    obtain ⟨r, hr, rfl⟩ := List.mem_map.1 hy
    exact (hL r hr).1) (by simpa using hn))
  obtain ⟨i0, hi0, hz0, hz1, hz2⟩ := info_parts info3
  obtain ⟨i4, hi4, hy0, hy1, hy2⟩ := info_parts info44
  have hv : v < nv := by rw [← h.len]; exact (List.getElem?_eq_some_iff.1 hx).1
  have hvi : (v : Int) < nv := by omega
  have HIN : Hid (∀ p, PlaceOK (x.map Prod.fst) look p → decide ((x.map Prod.fst)[p]? = some look) = false ∧ p ≤ x.length) := Lib.hid (fun p hp =>
    ⟨decide_eq_false (fun h1 => hin ((place_mem hs hp).1 h1)), by have := hp.1; simpa using this⟩)
  have HR : Hid (∀ w1, Grow w w1 → ∃ rv rs, Hid (RowI lo ρ tb ob nv oc K g T v x rv rs w1 w1)) := Lib.hid (fun w1 hg => by
    obtain ⟨rv, rs, h1⟩ := (h.grow hg).rowI hx
    exact ⟨rv, rs, h1⟩)
  have HLK : Hid (∀ (w1 W : World) (ρ2 : Nat → Role), Grow w w1 → Kept (fun k => ρ k ≠ .other) w1 W → (∀ k, k < w1.heap.size → ρ2 k = ρ k) → Lst W la look ∧ (la = none → lc = 0) ∧ ∀ a, la = some a → 0 < look.length → ρ2 a.block = .other) := Lib.hid (fun w1 W ρ2 h1 h2 h3 => by
    obtain ⟨la', lc', e, l2, l3, l4⟩ := (hl.go (ρ' := ρ) (kept_of_below h1 (fun _ => False)) (fun _ _ => rfl) (fun _ _ h => h.elim)).go h2 h3 (fun k _ h => h)
    injection e with e1 e2 e3
    subst e1 e3
    exact ⟨l2, l3, l4⟩)
  have HFIN : Hid (∀ (p : Nat) (w1 : World) (ρ2 : Nat → Role) (W : World), PlaceOK (x.map Prod.fst) look p → Grow w w1 → Kept (fun k => ρ k ≠ .other) w1 W → (∀ k, k < w1.heap.size → ρ2 k = ρ k) → TabM lo ρ2 tb ob nv oc K g (T.set v (insAt x p (look, []))) W →
      ∃ gb cap u, ∃ us : List Int, us.length ≤ 100000 ∧ Hid (LastI lo ρ2 tb ob nv oc K g (T.set v (insAt x p (look, us))) v p (x.length + 1) gb cap u look us i (insAt x p (look, us)) W W) ∧ ∀ ρ' w4, TabM lo ρ' tb ob nv oc K g ((T.set v (insAt x p (look, us))).set v ((insAt x p (look, us)).set p (look, us ++ [i]))) w4 → Kept (fun k => ρ2 k ≠ .other) W w4 → (∀ k, k < W.heap.size → ρ' k = ρ2 k) → TAddPost lo ρ tb ob nv oc K g T v x look i w (.returned (.tuple #[])) w4) := Lib.hid (fun p w1 ρ2 W h1 h2 h3 h4 h5 => by
    have hpl : p ≤ x.length := by have := h1.1; simpa using this
    have hT : (T.set v (insAt x p (look, [])))[v]? = some (insAt x p (look, [])) := by
      rw [List.getElem?_set, if_pos rfl, if_pos (by rw [h.len]; exact hv)]
    obtain ⟨gb, cap, u, h6⟩ := h5.last hT (insAt_sorted hs h1 hin) (p := p) (us := []) (by rw [insAt_get hpl, if_neg (by omega), if_pos rfl]) i
    rw [insAt_len hpl] at h6
    refine ⟨gb, cap, u, [], Nat.zero_le _, h6, fun ρ' w4 h7 h8 h9 => ⟨rfl, p, ρ', h1, ?_, (kept_of_below h2 _).trans (h3.then h8 (fun k _ h => h) (fun k hk h => by rw [← h4 k hk]; exact h)), fun k hk => ?_⟩⟩
    · rw [List.set_set, insAt_set hpl] at h7
      unfold addT
      rw [if_neg (fun e => hin ((place_mem hs h1).1 e))]
      exact h7
    · have h10 : k < w1.heap.size := Nat.lt_of_lt_of_le hk h2.size
      rw [h9 k (Nat.lt_of_lt_of_le h10 h3.size), h4 k h10])
  have HXN : Hid (x.length ≤ 100000) := Lib.hid hn
  clear h hx hs hL hl hin
  generalize TAddPost lo ρ tb ob nv oc K g T v x look i w = Po at *
  go_enter Try.func36, Try.ntmps36
  go_wp2_with fail
  refine HPL.out.mono ?_
  rintro e w1 ⟨p, hp, rfl, hg1⟩
  obtain ⟨hdec, hpx⟩ := HIN.out p hp
  rw [hdec]
  obtain ⟨rv, rs, HI⟩ := HR.out w1 hg1
  have HF := Lib.hid (fun ρ2 W => HFIN.out p w1 ρ2 W hp hg1)
  have HK := Lib.hid (fun W ρ2 => HLK.out w1 W ρ2 hg1)
  have hpr : p ≤ rs.length := by rw [HI.out.hl]; exact hpx
  have hrn : rs.length ≤ 100000 := by rw [HI.out.hl]; exact hn
  have HRL := Lib.hid HI.out.hl
  clear HFIN HIN HPL hdec hp hg1 HR HLK hn hpx HXN
  go_wp2_with fail
  have HI0 := Lib.hid (HI.out.grow (grow_drew w1))
  clear HI
  have HA := Lib.hid (HI0.out.grow (grow_one w1.drew (.cells #[.slice none 0 0, .slice none 0 0] 44)))
  have z1 := HI0.out.c1
  have z2 := HI0.out.c2
  have a1 := HA.out.c1
  have a2 := HA.out.c2
  have HNA := Lib.hid (World.news_of_block (w := (w1.drew.alloc (.cells #[.slice none 0 0, .slice none 0 0] 44))) (cs := #[.slice none 0 0, .slice none 0 0]) (t := 44) (fr := (0, 0)) (heap_alloc_new _ _))
  refine wp_region_held_drew (S := fun w' => w'.cell? ⟨tb, 1, none⟩ = some (.slice (some ⟨ob, 0, none⟩) nv oc)) (by kernel_rfl) (z1) (fun hHeld => ?_)
  generalize w1.drew = W0 at *
  refine wpAnyH_take (i := 0) (v := ?_) rfl (by kernel_rfl) (by kernel_rfl) (by kernel_rfl) (fun _ _ _ h => h) (Or.inl ⟨by rfl, ?_⟩) (by with_reducible assumption) ?_
  rotate_left
  · intro w hSw
    try dsimp only at hSw
    go_simp
    try with_reducible rfl
  try simp only [Act.put, List.setIfInBounds_toArray]
  refine wpAnyH_take (i := 1) (v := ?_) rfl (by kernel_rfl) (by kernel_rfl) (by kernel_rfl) (fun _ _ _ h => h) (Or.inl ⟨by rfl, ?_⟩) (by with_reducible assumption) ?_
  rotate_left
  · intro w hSw
    try dsimp only at hSw
    go_simp
    try with_reducible rfl
  try simp only [Act.put]
  refine wpAnyH_take (i := 2) (v := ?_) rfl (by kernel_rfl) (by kernel_rfl) (by kernel_rfl) (fun _ _ _ h => h) (Or.inl ⟨by rfl, ?_⟩) (by with_reducible assumption) ?_
  rotate_left
  · intro w hSw
    try dsimp only at hSw
    go_simp
    try with_reducible rfl
  try simp only [Act.put]
  refine wpAnyH_take (i := 3) (v := ?_) rfl (by kernel_rfl) (by kernel_rfl) (by kernel_rfl) (fun _ _ _ h => h) (Or.inl ⟨by rfl, ?_⟩) (by with_reducible assumption) ?_
  rotate_left
  · intro w hSw
    try dsimp only at hSw
    go_simp
    try with_reducible rfl
  try simp only [Act.put]
  refine wpAnyH_take (i := 4) (v := ?_) rfl (by kernel_rfl) (by kernel_rfl) (by kernel_rfl) (fun _ _ _ h => h) (Or.inl ⟨by rfl, ?_⟩) (by with_reducible assumption) ?_
  rotate_left
  · intro w hSw
    try dsimp only at hSw
    go_simp
    try with_reducible rfl
  try simp only [Act.put]
  refine wpAnyH_take (i := 5) (v := ?_) rfl (by kernel_rfl) (by kernel_rfl) (by kernel_rfl) (fun _ _ _ h => h) (Or.inl ⟨by rfl, ?_⟩) (by with_reducible assumption) ?_
  rotate_left
  · intro w hSw
    try dsimp only at hSw
    go_simp
    try with_reducible rfl
  try simp only [Act.put]
  refine wpAnyH_take (i := 6) (v := ?_) rfl (by kernel_rfl) (by kernel_rfl) (by kernel_rfl) (fun _ _ _ h => h) (Or.inl ⟨by rfl, ?_⟩) (by with_reducible assumption) ?_
  rotate_left
  · intro w hSw
    try dsimp only at hSw
    go_simp
    try with_reducible rfl
  try simp only [Act.put]
  refine wpAnyH_take (i := 7) (v := ?_) rfl (by kernel_rfl) (by kernel_rfl) (by kernel_rfl) (fun _ _ _ h => h) (Or.inl ⟨by rfl, ?_⟩) (by with_reducible assumption) ?_
  rotate_left
  · intro w hSw
    try dsimp only at hSw
    go_simp
    try with_reducible rfl
  try simp only [Act.put]
  refine wpAnyH_take (i := 8) (v := ?_) rfl (by kernel_rfl) (by kernel_rfl) (by kernel_rfl) (fun _ _ _ h => h) (Or.inl ⟨by rfl, ?_⟩) (by with_reducible assumption) ?_
  rotate_left
  · intro w hSw
    try dsimp only at hSw
    go_simp
    try with_reducible rfl
  try simp only [Act.put]
  refine wpAnyH_take (i := 9) (v := ?_) rfl (by kernel_rfl) (by kernel_rfl) (by kernel_rfl) (fun _ _ _ h => h) (Or.inl ⟨by rfl, ?_⟩) (by with_reducible assumption) ?_
  rotate_left
  · intro w hSw
    try dsimp only at hSw
    go_simp
    try with_reducible rfl
  try simp only [Act.put]
  refine wpAnyH_take (i := 10) (v := ?_) rfl (by kernel_rfl) (by kernel_rfl) (by kernel_rfl) (fun _ _ _ h => h) (Or.inl ⟨by rfl, ?_⟩) (by with_reducible assumption) ?_
  rotate_left
  · intro w hSw
    try dsimp only at hSw
    go_simp
    try with_reducible rfl
  try simp only [Act.put]
  refine wpAnyH_take (i := 12) (v := ?_) rfl (by kernel_rfl) (by kernel_rfl) (by kernel_rfl) (fun _ _ _ h => h) (Or.inl ⟨by rfl, ?_⟩) (by with_reducible assumption) ?_
  rotate_left
  · intro w hSw
    try dsimp only at hSw
    go_simp
    try with_reducible rfl
  try simp only [Act.put]
  refine wpAnyH_ready (rs := [11, 13]) (by kernel_rfl) (by simp) ?_
  refine AllReadyH.cons (o := _) rfl (fun K hK => ?_) ?_
  · go_simp
    refine hK.out _ _ (hHeld) (fun hHeld => ?_)
    clear hK K
    try simp only [Act.put, List.setIfInBounds_toArray, List.set_cons_zero, List.set_cons_succ]
    refine wpAnyH_ready (rs := [13]) (by kernel_rfl) (by simp) ?_
    refine AllReadyH.cons (o := _) rfl (fun K hK => ?_) ?_
    · go_simp
      refine hK.out _ _ (a1) (fun hHeld => ?_)
      clear hK K
      try simp only [Act.put, List.setIfInBounds_toArray, List.set_cons_zero, List.set_cons_succ]
      refine wpAnyH_ready (rs := [14]) (by kernel_rfl) (by simp) ?_
      refine AllReadyH.cons (o := _) rfl (fun K hK => ?_) ?_
      · refine step_append_lies _ (by rfl) (.tmp 30) (.tmp 32) 41 (by rfl) lo 44 i4 _ 2 48 Try.underlying41 hi4 hy0 hy1 hy2 rfl (by decide) rv rs.length _ (by rfl) HA.out.own ⟨W0.heap.size, 0, none⟩ 1 1 [.slice none 0 0, .slice none 0 0] (by rfl) (by rfl) HNA.out (by simp [Value.oneCell']) (by decide) (by simp only [maxLen]; omega) (by omega) HA.out.los (W0.heap.size + 1) (by simp) ?_
        intro gb cap w3 hown hgrow hat hlt
        have HX := Lib.hid (HA.out.next _ w3 gb cap (rs.length + 1) (Grow.refl _) hgrow hown (hat.elim .inl (fun h => .inr (by simpa using h))))
        have b1 : w3.cell? ⟨tb, 1, none⟩ = some (.slice (some ⟨ob, 0, none⟩) nv oc) := (hgrow.cell_far _ HA.out.tbl HA.out.ne.1).trans a1
        have b2 : w3.cell? ⟨ob, v, none⟩ = some rv := (hgrow.cell_far _ HA.out.obl HA.out.ne.2).trans a2
        have bf : w3.frozen? ⟨ob, v, none⟩ = false := (hgrow.frozen_far _ HA.out.obl HA.out.ne.2).trans HA.out.f2
        have HS := Lib.hid ((World.cell?_setCell_far w3 ⟨ob, v, none⟩ ⟨tb, 1, none⟩ (.slice (some ⟨gb, 0, none⟩) (rs.length + 1) cap) HA.out.ont).trans b1)
        clear hown hgrow hat hlt
        refine hK.out _ _ (b1) (fun hHeld => ?_)
        clear hK K
        try simp only [Act.put, List.setIfInBounds_toArray]
        refine wpAnyH_take (i := 15) (v := ?_) rfl (by kernel_rfl) (by kernel_rfl) (by kernel_rfl) (fun _ _ _ h => h) (Or.inl ⟨by rfl, ?_⟩) (by with_reducible assumption) ?_
        rotate_left
        · intro w hSw
          try dsimp only at hSw
          go_simp
          try with_reducible rfl
        try simp only [Act.put]
        refine wpAnyH_ready (rs := [16]) (by kernel_rfl) (by simp) ?_
        refine AllReadyH.cons (o := _) rfl (fun K hK => ?_) ?_
        · go_simp
          refine hK.out _ _ (HS.out) (fun hHeld => ?_)
          clear hK K
          try simp only [Act.put, List.setIfInBounds_toArray, List.set_cons_zero, List.set_cons_succ]
          refine wpAnyH_done (by kernel_rfl) ?_ _
          obtain ⟨ρ2, hmid, hk2, hρ2⟩ := HX.out
          generalize w3.setCell ⟨ob, v, none⟩ (.slice (some ⟨gb, 0, none⟩) (rs.length + 1) cap) = W4 at *
          obtain ⟨W5, c, d, A1, n1, c1, A2, n2, c2, hs1, hs2, hcp, hmid5, hk5⟩ := (hmid.drew).copy2 HRL.out hpr
          have y1 : W4.cell? ⟨tb, 1, none⟩ = some (.slice (some ⟨ob, 0, none⟩) nv oc) := cell_of_block (off := 1) hmid.base.tab
          have y2 := hmid.cell
          have HM5 := Lib.hid hmid5
          have hpi : (p : Int) < ((rs.length + 1 : Nat) : Int) := by omega
          have hpi2 : (p : Int) ≤ (rs.length : Int) := by omega
          have hwp : IntKind.i64.wrap ((p : Int) + 1) = (p : Int) + 1 := by rw [IntKind.wrap_i64]; omega
          have hp0 : (0 : Int) ≤ (p : Int) + 1 := by omega
          have x1 : W5.cell? ⟨tb, 1, none⟩ = some (.slice (some ⟨ob, 0, none⟩) nv oc) := cell_of_block (off := 1) hmid5.base.tab
          have x2 := hmid5.cell
          obtain ⟨x3, x4, -⟩ := hmid5.cellAt (j := p * 2) (by omega)
          obtain ⟨x5, x6, -⟩ := hmid5.cellAt (j := p * 2 + 1) (by omega)
          have hxl : (flatR (rs.take p)).length = p * 2 := by rw [flatR_len, List.length_take, Nat.min_eq_left hpr]
          rw [List.append_assoc, List.getElem?_append_right (by omega), hxl, Nat.sub_self] at x3
          rw [List.append_assoc, List.getElem?_append_right (by omega), hxl, Nat.add_sub_cancel_left] at x5
          simp only [List.cons_append, List.nil_append, List.getElem?_cons_zero, List.getElem?_cons_succ] at x3 x5
          have HK5 := Lib.hid (And.intro hk2 (And.intro hρ2 hk5))
          clear hmid hmid5 hk2 hρ2 hk5 hxl HX
          go_wp2_with fail
          refine wp_region_held_drew (S := fun w' => w'.cell? ⟨tb, 1, none⟩ = some (.slice (some ⟨ob, 0, none⟩) nv oc) ∧ w'.cell? ⟨ob, v, none⟩ = some (.slice (some ⟨gb, 0, none⟩) (rs.length + 1) cap)) (by kernel_rfl) (⟨y1, y2⟩) (fun hHeld => ?_)
          refine wpAnyH_take (i := 0) (v := ?_) rfl (by kernel_rfl) (by kernel_rfl) (by kernel_rfl) (fun _ _ _ h => h) (Or.inl ⟨by rfl, ?_⟩) (by with_reducible assumption) ?_
          rotate_left
          · intro w hSw
            try dsimp only at hSw
            go_simp
            try with_reducible rfl
          try simp only [Act.put, List.setIfInBounds_toArray]
          refine wpAnyH_take (i := 1) (v := ?_) rfl (by kernel_rfl) (by kernel_rfl) (by kernel_rfl) (fun _ _ _ h => h) (Or.inl ⟨by rfl, ?_⟩) (by with_reducible assumption) ?_
          rotate_left
          · intro w hSw
            try dsimp only at hSw
            go_simp
            try with_reducible rfl
          try simp only [Act.put]
          refine wpAnyH_take (i := 2) (v := ?_) rfl (by kernel_rfl) (by kernel_rfl) (by kernel_rfl) (fun _ _ _ h => h) (Or.inl ⟨by rfl, ?_⟩) (by with_reducible assumption) ?_
          rotate_left
          · intro w hSw
            try dsimp only at hSw
            go_simp
            try with_reducible rfl
          try simp only [Act.put]
          refine wpAnyH_take (i := 3) (v := ?_) rfl (by kernel_rfl) (by kernel_rfl) (by kernel_rfl) (fun _ _ _ h => h) (Or.inl ⟨by rfl, ?_⟩) (by with_reducible assumption) ?_
          rotate_left
          · intro w hSw
            try dsimp only at hSw
            go_simp
            try with_reducible rfl
          try simp only [Act.put]
          refine wpAnyH_take (i := 4) (v := ?_) rfl (by kernel_rfl) (by kernel_rfl) (by kernel_rfl) (fun _ _ _ h => h) (Or.inl ⟨by rfl, ?_⟩) (by with_reducible assumption) ?_
          rotate_left
          · intro w hSw
            try dsimp only at hSw
            go_simp
            try with_reducible rfl
          try simp only [Act.put]
          refine wpAnyH_take (i := 5) (v := ?_) rfl (by kernel_rfl) (by kernel_rfl) (by kernel_rfl) (fun _ _ _ h => h) (Or.inl ⟨by rfl, ?_⟩) (by with_reducible assumption) ?_
          rotate_left
          · intro w hSw
            try dsimp only at hSw
            go_simp
            try with_reducible rfl
          try simp only [Act.put]
          refine wpAnyH_take (i := 6) (v := ?_) rfl (by kernel_rfl) (by kernel_rfl) (by kernel_rfl) (fun _ _ _ h => h) (Or.inl ⟨by rfl, ?_⟩) (by with_reducible assumption) ?_
          rotate_left
          · intro w hSw
            try dsimp only at hSw
            go_simp
            try with_reducible rfl
          try simp only [Act.put]
          refine wpAnyH_take (i := 7) (v := ?_) rfl (by kernel_rfl) (by kernel_rfl) (by kernel_rfl) (fun _ _ _ h => h) (Or.inl ⟨by rfl, ?_⟩) (by with_reducible assumption) ?_
          rotate_left
          · intro w hSw
            try dsimp only at hSw
            go_simp
            try with_reducible rfl
          try simp only [Act.put]
          refine wpAnyH_take (i := 8) (v := ?_) rfl (by kernel_rfl) (by kernel_rfl) (by kernel_rfl) (fun _ _ _ h => h) (Or.inl ⟨by rfl, ?_⟩) (by with_reducible assumption) ?_
          rotate_left
          · intro w hSw
            try dsimp only at hSw
            go_simp
            try with_reducible rfl
          try simp only [Act.put]
          refine wpAnyH_take (i := 9) (v := ?_) rfl (by kernel_rfl) (by kernel_rfl) (by kernel_rfl) (fun _ _ _ h => h) (Or.inl ⟨by rfl, ?_⟩) (by with_reducible assumption) ?_
          rotate_left
          · intro w hSw
            try dsimp only at hSw
            go_simp
            try with_reducible rfl
          try simp only [Act.put]
          refine wpAnyH_take (i := 10) (v := ?_) rfl (by kernel_rfl) (by kernel_rfl) (by kernel_rfl) (fun _ _ _ h => h) (Or.inl ⟨by rfl, ?_⟩) (by with_reducible assumption) ?_
          rotate_left
          · intro w hSw
            try dsimp only at hSw
            go_simp
            try with_reducible rfl
          try simp only [Act.put]
          refine wpAnyH_take (i := 11) (v := ?_) rfl (by kernel_rfl) (by kernel_rfl) (by kernel_rfl) (fun _ _ _ h => h) (Or.inl ⟨by rfl, ?_⟩) (by with_reducible assumption) ?_
          rotate_left
          · intro w hSw
            try dsimp only at hSw
            go_simp
            try with_reducible rfl
          try simp only [Act.put]
          refine wpAnyH_take (i := 12) (v := ?_) rfl (by kernel_rfl) (by kernel_rfl) (by kernel_rfl) (fun _ _ _ h => h) (Or.inl ⟨by rfl, ?_⟩) (by with_reducible assumption) ?_
          rotate_left
          · intro w hSw
            try dsimp only at hSw
            go_simp
            try with_reducible rfl
          try simp only [Act.put]
          refine wpAnyH_take (i := 13) (v := ?_) rfl (by kernel_rfl) (by kernel_rfl) (by kernel_rfl) (fun _ _ _ h => h) (Or.inl ⟨by rfl, ?_⟩) (by with_reducible assumption) ?_
          rotate_left
          · intro w hSw
            try dsimp only at hSw
            go_simp
            try with_reducible rfl
          try simp only [Act.put]
          refine wpAnyH_take (i := 14) (v := ?_) rfl (by kernel_rfl) (by kernel_rfl) (by kernel_rfl) (fun _ _ _ h => h) (Or.inl ⟨by rfl, ?_⟩) (by with_reducible assumption) ?_
          rotate_left
          · intro w hSw
            try dsimp only at hSw
            go_simp
            try with_reducible rfl
          try simp only [Act.put]
          refine wpAnyH_take (i := 15) (v := ?_) rfl (by kernel_rfl) (by kernel_rfl) (by kernel_rfl) (fun _ _ _ h => h) (Or.inl ⟨by rfl, ?_⟩) (by with_reducible assumption) ?_
          rotate_left
          · intro w hSw
            try dsimp only at hSw
            go_simp
            try with_reducible rfl
          try simp only [Act.put]
          refine wpAnyH_take (i := 16) (v := ?_) rfl (by kernel_rfl) (by kernel_rfl) (by kernel_rfl) (fun _ _ _ h => h) (Or.inl ⟨by rfl, ?_⟩) (by with_reducible assumption) ?_
          rotate_left
          · intro w hSw
            try dsimp only at hSw
            go_simp
            try with_reducible rfl
          try simp only [Act.put]
          refine wpAnyH_take (i := 17) (v := ?_) rfl (by kernel_rfl) (by kernel_rfl) (by kernel_rfl) (fun _ _ _ h => h) (Or.inl ⟨by rfl, ?_⟩) (by with_reducible assumption) ?_
          rotate_left
          · intro w hSw
            try dsimp only at hSw
            go_simp
            try with_reducible rfl
          try simp only [Act.put]
          refine wpAnyH_take (i := 18) (v := ?_) rfl (by kernel_rfl) (by kernel_rfl) (by kernel_rfl) (fun _ _ _ h => h) (Or.inl ⟨by rfl, ?_⟩) (by with_reducible assumption) ?_
          rotate_left
          · intro w hSw
            try dsimp only at hSw
            go_simp
            try with_reducible rfl
          try simp only [Act.put]
          refine wpAnyH_ready (rs := [19]) (by kernel_rfl) (by simp) ?_
          refine AllReadyH.cons (o := _) rfl (fun K hK => ?_) ?_
          · refine Go.Proofs.step_copy_runI rfl _ _ 41 41 rfl _ _ (by simp [Act.eval]) (by simp [Act.eval]) (hcp _) ?_
            refine hK.out _ _ (⟨x1, x2⟩) (fun hHeld => ?_)
            clear hK K
            try simp only [Act.put]
            refine wpAnyH_done (by kernel_rfl) ?_ _
            go_wp2_with fail
            have hput := HM5.out.put hpr (.slice la look.length lc) (.slice none 0 0)
            generalize (W5.setCell ⟨gb, p * 2, none⟩ (.slice la look.length lc)).setCell ⟨gb, p * 2 + 1, none⟩ (.slice none 0 0) = W6 at *
            have hg2 : ∀ k, k < w1.heap.size → k = gb → ρ k ≠ .other := fun k hk e => by
              rw [← HK5.out.2.1 k hk, e, HM5.out.role]
              exact nofun
            have hk6 : Kept (fun k => ρ k ≠ .other) w1 W6 := HK5.out.1.then ((Kept.drew (S := (· = gb)) (Kept.refl _ W4)).trans (HK5.out.2.2.trans hput.2)) (fun k _ h => h) hg2
            obtain ⟨l1, l2, l3⟩ := HK.out W6 ρ2 hk6 HK5.out.2.1
            have htab := hput.1.ins (by rw [← HRL.out]; exact hpr) HRL.out (by rw [HRL.out]) rfl hv l1 l2 l3
            obtain ⟨gb, cap, u, us, hul, HI6, hfin⟩ := HF.out ρ2 W6 hk6 HK5.out.2.1 htab
            obtain ⟨m, hm⟩ : ∃ m, x.length + 1 = m := ⟨_, rfl⟩
            rw [hm] at HI6
            have HF2 := Lib.hid hfin
            have HI7 := Lib.hid (HI6.out.grow (grow_drew W6))
            have hp1 : p < m := HI6.out.hp
            have hp2 : (p : Int) < m := by omega
            clear hput hg2 hk6 l1 l2 l3 htab hfin HI6 hm HF HK HK5 HM5 x1 x2 x3 x4 x5 x6 y1 y2 hcp hs1 hs2 hpi hpi2 hwp hp0 b1 b2 bf HS a1 a2 z1 z2 HNA HA HI0 HRL hpr hrn
            have HA := Lib.hid (HI7.out.grow (grow_one W6.drew (.cells #[.int .i64 i] 3)))
            have z1 := HI7.out.c1
            have z2 := HI7.out.c2
            have z3 := HI7.out.c3
            have a1 := HA.out.c1
            have a2 := HA.out.c2
            have a3 := HA.out.c3
            have HNA := Lib.hid (World.news_of_block (w := (W6.drew.alloc (.cells #[.int .i64 i] 3))) (cs := #[.int .i64 i]) (t := 3) (fr := (0, 0)) (heap_alloc_new _ _))
            refine wp_region_held_drew (S := fun w' => w'.cell? ⟨tb, 1, none⟩ = some (.slice (some ⟨ob, 0, none⟩) nv oc) ∧ w'.cell? ⟨ob, v, none⟩ = some (.slice (some ⟨gb, 0, none⟩) m cap)) (by kernel_rfl) (⟨z1, z2⟩) (fun hHeld => ?_)
            generalize W6.drew = W0 at *
            refine wpAnyH_take (i := 0) (v := ?_) rfl (by kernel_rfl) (by kernel_rfl) (by kernel_rfl) (fun _ _ _ h => h) (Or.inl ⟨by rfl, ?_⟩) (by with_reducible assumption) ?_
            rotate_left
            · intro w hSw
              try dsimp only at hSw
              go_simp
              try with_reducible rfl
            try simp only [Act.put, List.setIfInBounds_toArray]
            refine wpAnyH_take (i := 1) (v := ?_) rfl (by kernel_rfl) (by kernel_rfl) (by kernel_rfl) (fun _ _ _ h => h) (Or.inl ⟨by rfl, ?_⟩) (by with_reducible assumption) ?_
            rotate_left
            · intro w hSw
              try dsimp only at hSw
              go_simp
              try with_reducible rfl
            try simp only [Act.put]
            refine wpAnyH_take (i := 2) (v := ?_) rfl (by kernel_rfl) (by kernel_rfl) (by kernel_rfl) (fun _ _ _ h => h) (Or.inl ⟨by rfl, ?_⟩) (by with_reducible assumption) ?_
            rotate_left
            · intro w hSw
              try dsimp only at hSw
              go_simp
              try with_reducible rfl
            try simp only [Act.put]
            refine wpAnyH_take (i := 3) (v := ?_) rfl (by kernel_rfl) (by kernel_rfl) (by kernel_rfl) (fun _ _ _ h => h) (Or.inl ⟨by rfl, ?_⟩) (by with_reducible assumption) ?_
            rotate_left
            · intro w hSw
              try dsimp only at hSw
              go_simp
              try with_reducible rfl
            try simp only [Act.put]
            refine wpAnyH_take (i := 4) (v := ?_) rfl (by kernel_rfl) (by kernel_rfl) (by kernel_rfl) (fun _ _ _ h => h) (Or.inl ⟨by rfl, ?_⟩) (by with_reducible assumption) ?_
            rotate_left
            · intro w hSw
              try dsimp only at hSw
              go_simp
              try with_reducible rfl
            try simp only [Act.put]
            refine wpAnyH_take (i := 5) (v := ?_) rfl (by kernel_rfl) (by kernel_rfl) (by kernel_rfl) (fun _ _ _ h => h) (Or.inl ⟨by rfl, ?_⟩) (by with_reducible assumption) ?_
            rotate_left
            · intro w hSw
              try dsimp only at hSw
              go_simp
              try with_reducible rfl
            try simp only [Act.put]
            refine wpAnyH_take (i := 6) (v := ?_) rfl (by kernel_rfl) (by kernel_rfl) (by kernel_rfl) (fun _ _ _ h => h) (Or.inl ⟨by rfl, ?_⟩) (by with_reducible assumption) ?_
            rotate_left
            · intro w hSw
              try dsimp only at hSw
              go_simp
              try with_reducible rfl
            try simp only [Act.put]
            refine wpAnyH_take (i := 7) (v := ?_) rfl (by kernel_rfl) (by kernel_rfl) (by kernel_rfl) (fun _ _ _ h => h) (Or.inl ⟨by rfl, ?_⟩) (by with_reducible assumption) ?_
            rotate_left
            · intro w hSw
              try dsimp only at hSw
              go_simp
              try with_reducible rfl
            try simp only [Act.put]
            refine wpAnyH_take (i := 8) (v := ?_) rfl (by kernel_rfl) (by kernel_rfl) (by kernel_rfl) (fun _ _ _ h => h) (Or.inl ⟨by rfl, ?_⟩) (by with_reducible assumption) ?_
            rotate_left
            · intro w hSw
              try dsimp only at hSw
              go_simp
              try with_reducible rfl
            try simp only [Act.put]
            refine wpAnyH_take (i := 9) (v := ?_) rfl (by kernel_rfl) (by kernel_rfl) (by kernel_rfl) (fun _ _ _ h => h) (Or.inl ⟨by rfl, ?_⟩) (by with_reducible assumption) ?_
            rotate_left
            · intro w hSw
              try dsimp only at hSw
              go_simp
              try with_reducible rfl
            try simp only [Act.put]
            refine wpAnyH_take (i := 10) (v := ?_) rfl (by kernel_rfl) (by kernel_rfl) (by kernel_rfl) (fun _ _ _ h => h) (Or.inl ⟨by rfl, ?_⟩) (by with_reducible assumption) ?_
            rotate_left
            · intro w hSw
              try dsimp only at hSw
              go_simp
              try with_reducible rfl
            try simp only [Act.put]
            refine wpAnyH_take (i := 11) (v := ?_) rfl (by kernel_rfl) (by kernel_rfl) (by kernel_rfl) (fun _ _ _ h => h) (Or.inl ⟨by rfl, ?_⟩) (by with_reducible assumption) ?_
            rotate_left
            · intro w hSw
              try dsimp only at hSw
              go_simp
              try with_reducible rfl
            try simp only [Act.put]
            refine wpAnyH_take (i := 12) (v := ?_) rfl (by kernel_rfl) (by kernel_rfl) (by kernel_rfl) (fun _ _ _ h => h) (Or.inl ⟨by rfl, ?_⟩) (by with_reducible assumption) ?_
            rotate_left
            · intro w hSw
              try dsimp only at hSw
              go_simp
              try with_reducible rfl
            try simp only [Act.put]
            refine wpAnyH_take (i := 13) (v := ?_) rfl (by kernel_rfl) (by kernel_rfl) (by kernel_rfl) (fun _ _ _ h => h) (Or.inl ⟨by rfl, ?_⟩) (by with_reducible assumption) ?_
            rotate_left
            · intro w hSw
              try dsimp only at hSw
              go_simp
              try with_reducible rfl
            try simp only [Act.put]
            refine wpAnyH_take (i := 14) (v := ?_) rfl (by kernel_rfl) (by kernel_rfl) (by kernel_rfl) (fun _ _ _ h => h) (Or.inl ⟨by rfl, ?_⟩) (by with_reducible assumption) ?_
            rotate_left
            · intro w hSw
              try dsimp only at hSw
              go_simp
              try with_reducible rfl
            try simp only [Act.put]
            refine wpAnyH_take (i := 15) (v := ?_) rfl (by kernel_rfl) (by kernel_rfl) (by kernel_rfl) (fun _ _ _ h => h) (Or.inl ⟨by rfl, ?_⟩) (by with_reducible assumption) ?_
            rotate_left
            · intro w hSw
              try dsimp only at hSw
              go_simp
              try with_reducible rfl
            try simp only [Act.put]
            refine wpAnyH_take (i := 16) (v := ?_) rfl (by kernel_rfl) (by kernel_rfl) (by kernel_rfl) (fun _ _ _ h => h) (Or.inl ⟨by rfl, ?_⟩) (by with_reducible assumption) ?_
            rotate_left
            · intro w hSw
              try dsimp only at hSw
              go_simp
              try with_reducible rfl
            try simp only [Act.put]
            refine wpAnyH_take (i := 17) (v := ?_) rfl (by kernel_rfl) (by kernel_rfl) (by kernel_rfl) (fun _ _ _ h => h) (Or.inl ⟨by rfl, ?_⟩) (by with_reducible assumption) ?_
            rotate_left
            · intro w hSw
              try dsimp only at hSw
              go_simp
              try with_reducible rfl
            try simp only [Act.put]
            refine wpAnyH_take (i := 19) (v := ?_) rfl (by kernel_rfl) (by kernel_rfl) (by kernel_rfl) (fun _ _ _ h => h) (Or.inl ⟨by rfl, ?_⟩) (by with_reducible assumption) ?_
            rotate_left
            · intro w hSw
              try dsimp only at hSw
              go_simp
              try with_reducible rfl
            try simp only [Act.put]
            refine wpAnyH_ready (rs := [18, 20]) (by kernel_rfl) (by simp) ?_
            refine AllReadyH.cons (o := _) rfl (fun K hK => ?_) ?_
            · go_simp
              refine hK.out _ _ (hHeld) (fun hHeld => ?_)
              clear hK K
              try simp only [Act.put, List.setIfInBounds_toArray, List.set_cons_zero, List.set_cons_succ]
              refine wpAnyH_ready (rs := [20]) (by kernel_rfl) (by simp) ?_
              refine AllReadyH.cons (o := _) rfl (fun K hK => ?_) ?_
              · go_simp
                refine hK.out _ _ (⟨a1, a2⟩) (fun hHeld => ?_)
                clear hK K
                try simp only [Act.put, List.setIfInBounds_toArray, List.set_cons_zero, List.set_cons_succ]
                refine wpAnyH_ready (rs := [21]) (by kernel_rfl) (by simp) ?_
                refine AllReadyH.cons (o := _) rfl (fun K hK => ?_) ?_
                · refine step_append_lies _ (by rfl) (.tmp 84) (.tmp 86) 26 (by rfl) lo 3 i0 _ 1 8 Try.underlying26 hi0 hz0 hz1 hz2 rfl (by decide) u us.length _ (by rfl) HA.out.own ⟨W0.heap.size, 0, none⟩ 1 1 [.int .i64 i] (by rfl) (by rfl) HNA.out (by simp [Value.oneCell']) (by decide) (by simp only [maxLen]; omega) (by omega) HA.out.los (W0.heap.size + 1) (by simp) ?_
                  intro ub ucap w3 hown hgrow hat hlt
                  have HX := Lib.hid (HA.out.next _ w3 ub ucap (us.length + 1) (Grow.refl _) hgrow hown rfl (hat.elim .inl (fun h => .inr (by simpa using h))))
                  have b1 : w3.cell? ⟨tb, 1, none⟩ = some (.slice (some ⟨ob, 0, none⟩) nv oc) := (hgrow.cell_far _ HA.out.tbl HA.out.ne.1).trans a1
                  have b2 : w3.cell? ⟨ob, v, none⟩ = some (.slice (some ⟨gb, 0, none⟩) m cap) := (hgrow.cell_far _ HA.out.obl HA.out.ne.2.1).trans a2
                  have b3 : w3.cell? ⟨gb, p * 2 + 1, none⟩ = some u := (hgrow.cell_far _ HA.out.gbl HA.out.ne.2.2).trans a3
                  have bf : w3.frozen? ⟨gb, p * 2 + 1, none⟩ = false := (hgrow.frozen_far _ HA.out.gbl HA.out.ne.2.2).trans HA.out.f3
                  have HS := Lib.hid (And.intro ((World.cell?_setCell_far w3 ⟨gb, p * 2 + 1, none⟩ ⟨tb, 1, none⟩ (.slice (some ⟨ub, 0, none⟩) (us.length + 1) ucap) HA.out.gne.1).trans b1) ((World.cell?_setCell_far w3 ⟨gb, p * 2 + 1, none⟩ ⟨ob, v, none⟩ (.slice (some ⟨ub, 0, none⟩) (us.length + 1) ucap) HA.out.gne.2).trans b2))
                  clear hown hgrow hat hlt
                  refine hK.out _ _ (⟨b1, b2⟩) (fun hHeld => ?_)
                  clear hK K
                  try simp only [Act.put, List.setIfInBounds_toArray]
                  refine wpAnyH_take (i := 22) (v := ?_) rfl (by kernel_rfl) (by kernel_rfl) (by kernel_rfl) (fun _ _ _ h => h) (Or.inl ⟨by rfl, ?_⟩) (by with_reducible assumption) ?_
                  rotate_left
                  · intro w hSw
                    try dsimp only at hSw
                    go_simp
                    try with_reducible rfl
                  try simp only [Act.put]
                  refine wpAnyH_take (i := 23) (v := ?_) rfl (by kernel_rfl) (by kernel_rfl) (by kernel_rfl) (fun _ _ _ h => h) (Or.inl ⟨by rfl, ?_⟩) (by with_reducible assumption) ?_
                  rotate_left
                  · intro w hSw
                    try dsimp only at hSw
                    go_simp
                    try with_reducible rfl
                  try simp only [Act.put]
                  refine wpAnyH_ready (rs := [24]) (by kernel_rfl) (by simp) ?_
                  refine AllReadyH.cons (o := _) rfl (fun K hK => ?_) ?_
                  · go_simp
                    refine hK.out _ _ (HS.out) (fun hHeld => ?_)
                    clear hK K
                    try simp only [Act.put, List.setIfInBounds_toArray, List.set_cons_zero, List.set_cons_succ]
                    refine wpAnyH_done (by kernel_rfl) ?_ _
                    go_wp2
                    go_end0
                    obtain ⟨ρ5, e5, e6, e7⟩ := HX.out
                    exact HF2.out ρ5 _ e5 e6 e7
                  exact AllReadyH.nil
                exact AllReadyH.nil
              exact AllReadyH.nil
            refine AllReadyH.cons (o := _) rfl (fun K hK => ?_) ?_
            · go_simp
              refine hK.out _ _ (⟨a1, a2⟩) (fun hHeld => ?_)
              clear hK K
              try simp only [Act.put, List.setIfInBounds_toArray, List.set_cons_zero, List.set_cons_succ]
              refine wpAnyH_ready (rs := [18]) (by kernel_rfl) (by simp) ?_
              refine AllReadyH.cons (o := _) rfl (fun K hK => ?_) ?_
              · go_simp
                refine hK.out _ _ (hHeld) (fun hHeld => ?_)
                clear hK K
                try simp only [Act.put, List.setIfInBounds_toArray, List.set_cons_zero, List.set_cons_succ]
                refine wpAnyH_ready (rs := [21]) (by kernel_rfl) (by simp) ?_
                refine AllReadyH.cons (o := _) rfl (fun K hK => ?_) ?_
                · refine step_append_lies _ (by rfl) (.tmp 84) (.tmp 86) 26 (by rfl) lo 3 i0 _ 1 8 Try.underlying26 hi0 hz0 hz1 hz2 rfl (by decide) u us.length _ (by rfl) HA.out.own ⟨W0.heap.size, 0, none⟩ 1 1 [.int .i64 i] (by rfl) (by rfl) HNA.out (by simp [Value.oneCell']) (by decide) (by simp only [maxLen]; omega) (by omega) HA.out.los (W0.heap.size + 1) (by simp) ?_
                  intro ub ucap w3 hown hgrow hat hlt
                  have HX := Lib.hid (HA.out.next _ w3 ub ucap (us.length + 1) (Grow.refl _) hgrow hown rfl (hat.elim .inl (fun h => .inr (by simpa using h))))
                  have b1 : w3.cell? ⟨tb, 1, none⟩ = some (.slice (some ⟨ob, 0, none⟩) nv oc) := (hgrow.cell_far _ HA.out.tbl HA.out.ne.1).trans a1
                  have b2 : w3.cell? ⟨ob, v, none⟩ = some (.slice (some ⟨gb, 0, none⟩) m cap) := (hgrow.cell_far _ HA.out.obl HA.out.ne.2.1).trans a2
                  have b3 : w3.cell? ⟨gb, p * 2 + 1, none⟩ = some u := (hgrow.cell_far _ HA.out.gbl HA.out.ne.2.2).trans a3
                  have bf : w3.frozen? ⟨gb, p * 2 + 1, none⟩ = false := (hgrow.frozen_far _ HA.out.gbl HA.out.ne.2.2).trans HA.out.f3
                  have HS := Lib.hid (And.intro ((World.cell?_setCell_far w3 ⟨gb, p * 2 + 1, none⟩ ⟨tb, 1, none⟩ (.slice (some ⟨ub, 0, none⟩) (us.length + 1) ucap) HA.out.gne.1).trans b1) ((World.cell?_setCell_far w3 ⟨gb, p * 2 + 1, none⟩ ⟨ob, v, none⟩ (.slice (some ⟨ub, 0, none⟩) (us.length + 1) ucap) HA.out.gne.2).trans b2))
                  clear hown hgrow hat hlt
                  refine hK.out _ _ (⟨b1, b2⟩) (fun hHeld => ?_)
                  clear hK K
                  try simp only [Act.put, List.setIfInBounds_toArray]
                  refine wpAnyH_take (i := 22) (v := ?_) rfl (by kernel_rfl) (by kernel_rfl) (by kernel_rfl) (fun _ _ _ h => h) (Or.inl ⟨by rfl, ?_⟩) (by with_reducible assumption) ?_
                  rotate_left
                  · intro w hSw
                    try dsimp only at hSw
                    go_simp
                    try with_reducible rfl
                  try simp only [Act.put]
                  refine wpAnyH_take (i := 23) (v := ?_) rfl (by kernel_rfl) (by kernel_rfl) (by kernel_rfl) (fun _ _ _ h => h) (Or.inl ⟨by rfl, ?_⟩) (by with_reducible assumption) ?_
                  rotate_left
                  · intro w hSw
                    try dsimp only at hSw
                    go_simp
                    try with_reducible rfl
                  try simp only [Act.put]
                  refine wpAnyH_ready (rs := [24]) (by kernel_rfl) (by simp) ?_
                  refine AllReadyH.cons (o := _) rfl (fun K hK => ?_) ?_
                  · go_simp
                    refine hK.out _ _ (HS.out) (fun hHeld => ?_)
                    clear hK K
                    try simp only [Act.put, List.setIfInBounds_toArray, List.set_cons_zero, List.set_cons_succ]
                    refine wpAnyH_done (by kernel_rfl) ?_ _
                    go_wp2
                    go_end0
                    obtain ⟨ρ5, e5, e6, e7⟩ := HX.out
                    exact HF2.out ρ5 _ e5 e6 e7
                  exact AllReadyH.nil
                exact AllReadyH.nil
              exact AllReadyH.nil
            exact AllReadyH.nil
          exact AllReadyH.nil
        exact AllReadyH.nil
      exact AllReadyH.nil
    exact AllReadyH.nil
  refine AllReadyH.cons (o := _) rfl (fun K hK => ?_) ?_
  · go_simp
    refine hK.out _ _ (a1) (fun hHeld => ?_)
    clear hK K
    try simp only [Act.put, List.setIfInBounds_toArray, List.set_cons_zero, List.set_cons_succ]
    refine wpAnyH_ready (rs := [11]) (by kernel_rfl) (by simp) ?_
    refine AllReadyH.cons (o := _) rfl (fun K hK => ?_) ?_
    · go_simp
      refine hK.out _ _ (hHeld) (fun hHeld => ?_)
      clear hK K
      try simp only [Act.put, List.setIfInBounds_toArray, List.set_cons_zero, List.set_cons_succ]
      refine wpAnyH_ready (rs := [14]) (by kernel_rfl) (by simp) ?_
      refine AllReadyH.cons (o := _) rfl (fun K hK => ?_) ?_
      · refine step_append_lies _ (by rfl) (.tmp 30) (.tmp 32) 41 (by rfl) lo 44 i4 _ 2 48 Try.underlying41 hi4 hy0 hy1 hy2 rfl (by decide) rv rs.length _ (by rfl) HA.out.own ⟨W0.heap.size, 0, none⟩ 1 1 [.slice none 0 0, .slice none 0 0] (by rfl) (by rfl) HNA.out (by simp [Value.oneCell']) (by decide) (by simp only [maxLen]; omega) (by omega) HA.out.los (W0.heap.size + 1) (by simp) ?_
        intro gb cap w3 hown hgrow hat hlt
        have HX := Lib.hid (HA.out.next _ w3 gb cap (rs.length + 1) (Grow.refl _) hgrow hown (hat.elim .inl (fun h => .inr (by simpa using h))))
        have b1 : w3.cell? ⟨tb, 1, none⟩ = some (.slice (some ⟨ob, 0, none⟩) nv oc) := (hgrow.cell_far _ HA.out.tbl HA.out.ne.1).trans a1
        have b2 : w3.cell? ⟨ob, v, none⟩ = some rv := (hgrow.cell_far _ HA.out.obl HA.out.ne.2).trans a2
        have bf : w3.frozen? ⟨ob, v, none⟩ = false := (hgrow.frozen_far _ HA.out.obl HA.out.ne.2).trans HA.out.f2
        have HS := Lib.hid ((World.cell?_setCell_far w3 ⟨ob, v, none⟩ ⟨tb, 1, none⟩ (.slice (some ⟨gb, 0, none⟩) (rs.length + 1) cap) HA.out.ont).trans b1)
        clear hown hgrow hat hlt
        refine hK.out _ _ (b1) (fun hHeld => ?_)
        clear hK K
        try simp only [Act.put, List.setIfInBounds_toArray]
        refine wpAnyH_take (i := 15) (v := ?_) rfl (by kernel_rfl) (by kernel_rfl) (by kernel_rfl) (fun _ _ _ h => h) (Or.inl ⟨by rfl, ?_⟩) (by with_reducible assumption) ?_
        rotate_left
        · intro w hSw
          try dsimp only at hSw
          go_simp
          try with_reducible rfl
        try simp only [Act.put]
        refine wpAnyH_ready (rs := [16]) (by kernel_rfl) (by simp) ?_
        refine AllReadyH.cons (o := _) rfl (fun K hK => ?_) ?_
        · go_simp
          refine hK.out _ _ (HS.out) (fun hHeld => ?_)
          clear hK K
          try simp only [Act.put, List.setIfInBounds_toArray, List.set_cons_zero, List.set_cons_succ]
          refine wpAnyH_done (by kernel_rfl) ?_ _
          obtain ⟨ρ2, hmid, hk2, hρ2⟩ := HX.out
          generalize w3.setCell ⟨ob, v, none⟩ (.slice (some ⟨gb, 0, none⟩) (rs.length + 1) cap) = W4 at *
          obtain ⟨W5, c, d, A1, n1, c1, A2, n2, c2, hs1, hs2, hcp, hmid5, hk5⟩ := (hmid.drew).copy2 HRL.out hpr
          have y1 : W4.cell? ⟨tb, 1, none⟩ = some (.slice (some ⟨ob, 0, none⟩) nv oc) := cell_of_block (off := 1) hmid.base.tab
          have y2 := hmid.cell
          have HM5 := Lib.hid hmid5
          have hpi : (p : Int) < ((rs.length + 1 : Nat) : Int) := by omega
          have hpi2 : (p : Int) ≤ (rs.length : Int) := by omega
          have hwp : IntKind.i64.wrap ((p : Int) + 1) = (p : Int) + 1 := by rw [IntKind.wrap_i64]; omega
          have hp0 : (0 : Int) ≤ (p : Int) + 1 := by omega
          have x1 : W5.cell? ⟨tb, 1, none⟩ = some (.slice (some ⟨ob, 0, none⟩) nv oc) := cell_of_block (off := 1) hmid5.base.tab
          have x2 := hmid5.cell
          obtain ⟨x3, x4, -⟩ := hmid5.cellAt (j := p * 2) (by omega)
          obtain ⟨x5, x6, -⟩ := hmid5.cellAt (j := p * 2 + 1) (by omega)
          have hxl : (flatR (rs.take p)).length = p * 2 := by rw [flatR_len, List.length_take, Nat.min_eq_left hpr]
          rw [List.append_assoc, List.getElem?_append_right (by omega), hxl, Nat.sub_self] at x3
          rw [List.append_assoc, List.getElem?_append_right (by omega), hxl, Nat.add_sub_cancel_left] at x5
          simp only [List.cons_append, List.nil_append, List.getElem?_cons_zero, List.getElem?_cons_succ] at x3 x5
          have HK5 := Lib.hid (And.intro hk2 (And.intro hρ2 hk5))
          clear hmid hmid5 hk2 hρ2 hk5 hxl HX
          go_wp2_with fail
          refine wp_region_held_drew (S := fun w' => w'.cell? ⟨tb, 1, none⟩ = some (.slice (some ⟨ob, 0, none⟩) nv oc) ∧ w'.cell? ⟨ob, v, none⟩ = some (.slice (some ⟨gb, 0, none⟩) (rs.length + 1) cap)) (by kernel_rfl) (⟨y1, y2⟩) (fun hHeld => ?_)
          refine wpAnyH_take (i := 0) (v := ?_) rfl (by kernel_rfl) (by kernel_rfl) (by kernel_rfl) (fun _ _ _ h => h) (Or.inl ⟨by rfl, ?_⟩) (by with_reducible assumption) ?_
          rotate_left
          · intro w hSw
            try dsimp only at hSw
            go_simp
            try with_reducible rfl
          try simp only [Act.put, List.setIfInBounds_toArray]
          refine wpAnyH_take (i := 1) (v := ?_) rfl (by kernel_rfl) (by kernel_rfl) (by kernel_rfl) (fun _ _ _ h => h) (Or.inl ⟨by rfl, ?_⟩) (by with_reducible assumption) ?_
          rotate_left
          · intro w hSw
            try dsimp only at hSw
            go_simp
            try with_reducible rfl
          try simp only [Act.put]
          refine wpAnyH_take (i := 2) (v := ?_) rfl (by kernel_rfl) (by kernel_rfl) (by kernel_rfl) (fun _ _ _ h => h) (Or.inl ⟨by rfl, ?_⟩) (by with_reducible assumption) ?_
          rotate_left
          · intro w hSw
            try dsimp only at hSw
            go_simp
            try with_reducible rfl
          try simp only [Act.put]
          refine wpAnyH_take (i := 3) (v := ?_) rfl (by kernel_rfl) (by kernel_rfl) (by kernel_rfl) (fun _ _ _ h => h) (Or.inl ⟨by rfl, ?_⟩) (by with_reducible assumption) ?_
          rotate_left
          · intro w hSw
            try dsimp only at hSw
            go_simp
            try with_reducible rfl
          try simp only [Act.put]
          refine wpAnyH_take (i := 4) (v := ?_) rfl (by kernel_rfl) (by kernel_rfl) (by kernel_rfl) (fun _ _ _ h => h) (Or.inl ⟨by rfl, ?_⟩) (by with_reducible assumption) ?_
          rotate_left
          · intro w hSw
            try dsimp only at hSw
            go_simp
            try with_reducible rfl
          try simp only [Act.put]
          refine wpAnyH_take (i := 5) (v := ?_) rfl (by kernel_rfl) (by kernel_rfl) (by kernel_rfl) (fun _ _ _ h => h) (Or.inl ⟨by rfl, ?_⟩) (by with_reducible assumption) ?_
          rotate_left
          · intro w hSw
            try dsimp only at hSw
            go_simp
            try with_reducible rfl
          try simp only [Act.put]
          refine wpAnyH_take (i := 6) (v := ?_) rfl (by kernel_rfl) (by kernel_rfl) (by kernel_rfl) (fun _ _ _ h => h) (Or.inl ⟨by rfl, ?_⟩) (by with_reducible assumption) ?_
          rotate_left
          · intro w hSw
            try dsimp only at hSw
            go_simp
            try with_reducible rfl
          try simp only [Act.put]
          refine wpAnyH_take (i := 7) (v := ?_) rfl (by kernel_rfl) (by kernel_rfl) (by kernel_rfl) (fun _ _ _ h => h) (Or.inl ⟨by rfl, ?_⟩) (by with_reducible assumption) ?_
          rotate_left
          · intro w hSw
            try dsimp only at hSw
            go_simp
            try with_reducible rfl
          try simp only [Act.put]
          refine wpAnyH_take (i := 8) (v := ?_) rfl (by kernel_rfl) (by kernel_rfl) (by kernel_rfl) (fun _ _ _ h => h) (Or.inl ⟨by rfl, ?_⟩) (by with_reducible assumption) ?_
          rotate_left
          · intro w hSw
            try dsimp only at hSw
            go_simp
            try with_reducible rfl
          try simp only [Act.put]
          refine wpAnyH_take (i := 9) (v := ?_) rfl (by kernel_rfl) (by kernel_rfl) (by kernel_rfl) (fun _ _ _ h => h) (Or.inl ⟨by rfl, ?_⟩) (by with_reducible assumption) ?_
          rotate_left
          · intro w hSw
            try dsimp only at hSw
            go_simp
            try with_reducible rfl
          try simp only [Act.put]
          refine wpAnyH_take (i := 10) (v := ?_) rfl (by kernel_rfl) (by kernel_rfl) (by kernel_rfl) (fun _ _ _ h => h) (Or.inl ⟨by rfl, ?_⟩) (by with_reducible assumption) ?_
          rotate_left
          · intro w hSw
            try dsimp only at hSw
            go_simp
            try with_reducible rfl
          try simp only [Act.put]
          refine wpAnyH_take (i := 11) (v := ?_) rfl (by kernel_rfl) (by kernel_rfl) (by kernel_rfl) (fun _ _ _ h => h) (Or.inl ⟨by rfl, ?_⟩) (by with_reducible assumption) ?_
          rotate_left
          · intro w hSw
            try dsimp only at hSw
            go_simp
            try with_reducible rfl
          try simp only [Act.put]
          refine wpAnyH_take (i := 12) (v := ?_) rfl (by kernel_rfl) (by kernel_rfl) (by kernel_rfl) (fun _ _ _ h => h) (Or.inl ⟨by rfl, ?_⟩) (by with_reducible assumption) ?_
          rotate_left
          · intro w hSw
            try dsimp only at hSw
            go_simp
            try with_reducible rfl
          try simp only [Act.put]
          refine wpAnyH_take (i := 13) (v := ?_) rfl (by kernel_rfl) (by kernel_rfl) (by kernel_rfl) (fun _ _ _ h => h) (Or.inl ⟨by rfl, ?_⟩) (by with_reducible assumption) ?_
          rotate_left
          · intro w hSw
            try dsimp only at hSw
            go_simp
            try with_reducible rfl
          try simp only [Act.put]
          refine wpAnyH_take (i := 14) (v := ?_) rfl (by kernel_rfl) (by kernel_rfl) (by kernel_rfl) (fun _ _ _ h => h) (Or.inl ⟨by rfl, ?_⟩) (by with_reducible assumption) ?_
          rotate_left
          · intro w hSw
            try dsimp only at hSw
            go_simp
            try with_reducible rfl
          try simp only [Act.put]
          refine wpAnyH_take (i := 15) (v := ?_) rfl (by kernel_rfl) (by kernel_rfl) (by kernel_rfl) (fun _ _ _ h => h) (Or.inl ⟨by rfl, ?_⟩) (by with_reducible assumption) ?_
          rotate_left
          · intro w hSw
            try dsimp only at hSw
            go_simp
            try with_reducible rfl
          try simp only [Act.put]
          refine wpAnyH_take (i := 16) (v := ?_) rfl (by kernel_rfl) (by kernel_rfl) (by kernel_rfl) (fun _ _ _ h => h) (Or.inl ⟨by rfl, ?_⟩) (by with_reducible assumption) ?_
          rotate_left
          · intro w hSw
            try dsimp only at hSw
            go_simp
            try with_reducible rfl
          try simp only [Act.put]
          refine wpAnyH_take (i := 17) (v := ?_) rfl (by kernel_rfl) (by kernel_rfl) (by kernel_rfl) (fun _ _ _ h => h) (Or.inl ⟨by rfl, ?_⟩) (by with_reducible assumption) ?_
          rotate_left
          · intro w hSw
            try dsimp only at hSw
            go_simp
            try with_reducible rfl
          try simp only [Act.put]
          refine wpAnyH_take (i := 18) (v := ?_) rfl (by kernel_rfl) (by kernel_rfl) (by kernel_rfl) (fun _ _ _ h => h) (Or.inl ⟨by rfl, ?_⟩) (by with_reducible assumption) ?_
          rotate_left
          · intro w hSw
            try dsimp only at hSw
            go_simp
            try with_reducible rfl
          try simp only [Act.put]
          refine wpAnyH_ready (rs := [19]) (by kernel_rfl) (by simp) ?_
          refine AllReadyH.cons (o := _) rfl (fun K hK => ?_) ?_
          · refine Go.Proofs.step_copy_runI rfl _ _ 41 41 rfl _ _ (by simp [Act.eval]) (by simp [Act.eval]) (hcp _) ?_
            refine hK.out _ _ (⟨x1, x2⟩) (fun hHeld => ?_)
            clear hK K
            try simp only [Act.put]
            refine wpAnyH_done (by kernel_rfl) ?_ _
            go_wp2_with fail
            have hput := HM5.out.put hpr (.slice la look.length lc) (.slice none 0 0)
            generalize (W5.setCell ⟨gb, p * 2, none⟩ (.slice la look.length lc)).setCell ⟨gb, p * 2 + 1, none⟩ (.slice none 0 0) = W6 at *
            have hg2 : ∀ k, k < w1.heap.size → k = gb → ρ k ≠ .other := fun k hk e => by
              rw [← HK5.out.2.1 k hk, e, HM5.out.role]
              exact nofun
            have hk6 : Kept (fun k => ρ k ≠ .other) w1 W6 := HK5.out.1.then ((Kept.drew (S := (· = gb)) (Kept.refl _ W4)).trans (HK5.out.2.2.trans hput.2)) (fun k _ h => h) hg2
            obtain ⟨l1, l2, l3⟩ := HK.out W6 ρ2 hk6 HK5.out.2.1
            have htab := hput.1.ins (by rw [← HRL.out]; exact hpr) HRL.out (by rw [HRL.out]) rfl hv l1 l2 l3
            obtain ⟨gb, cap, u, us, hul, HI6, hfin⟩ := HF.out ρ2 W6 hk6 HK5.out.2.1 htab
            obtain ⟨m, hm⟩ : ∃ m, x.length + 1 = m := ⟨_, rfl⟩
            rw [hm] at HI6
            have HF2 := Lib.hid hfin
            have HI7 := Lib.hid (HI6.out.grow (grow_drew W6))
            have hp1 : p < m := HI6.out.hp
            have hp2 : (p : Int) < m := by omega
            clear hput hg2 hk6 l1 l2 l3 htab hfin HI6 hm HF HK HK5 HM5 x1 x2 x3 x4 x5 x6 y1 y2 hcp hs1 hs2 hpi hpi2 hwp hp0 b1 b2 bf HS a1 a2 z1 z2 HNA HA HI0 HRL hpr hrn
            have HA := Lib.hid (HI7.out.grow (grow_one W6.drew (.cells #[.int .i64 i] 3)))
            have z1 := HI7.out.c1
            have z2 := HI7.out.c2
            have z3 := HI7.out.c3
            have a1 := HA.out.c1
            have a2 := HA.out.c2
            have a3 := HA.out.c3
            have HNA := Lib.hid (World.news_of_block (w := (W6.drew.alloc (.cells #[.int .i64 i] 3))) (cs := #[.int .i64 i]) (t := 3) (fr := (0, 0)) (heap_alloc_new _ _))
            refine wp_region_held_drew (S := fun w' => w'.cell? ⟨tb, 1, none⟩ = some (.slice (some ⟨ob, 0, none⟩) nv oc) ∧ w'.cell? ⟨ob, v, none⟩ = some (.slice (some ⟨gb, 0, none⟩) m cap)) (by kernel_rfl) (⟨z1, z2⟩) (fun hHeld => ?_)
            generalize W6.drew = W0 at *
            refine wpAnyH_take (i := 0) (v := ?_) rfl (by kernel_rfl) (by kernel_rfl) (by kernel_rfl) (fun _ _ _ h => h) (Or.inl ⟨by rfl, ?_⟩) (by with_reducible assumption) ?_
            rotate_left
            · intro w hSw
              try dsimp only at hSw
              go_simp
              try with_reducible rfl
            try simp only [Act.put, List.setIfInBounds_toArray]
            refine wpAnyH_take (i := 1) (v := ?_) rfl (by kernel_rfl) (by kernel_rfl) (by kernel_rfl) (fun _ _ _ h => h) (Or.inl ⟨by rfl, ?_⟩) (by with_reducible assumption) ?_
            rotate_left
            · intro w hSw
              try dsimp only at hSw
              go_simp
              try with_reducible rfl
            try simp only [Act.put]
            refine wpAnyH_take (i := 2) (v := ?_) rfl (by kernel_rfl) (by kernel_rfl) (by kernel_rfl) (fun _ _ _ h => h) (Or.inl ⟨by rfl, ?_⟩) (by with_reducible assumption) ?_
            rotate_left
            · intro w hSw
              try dsimp only at hSw
              go_simp
              try with_reducible rfl
            try simp only [Act.put]
            refine wpAnyH_take (i := 3) (v := ?_) rfl (by kernel_rfl) (by kernel_rfl) (by kernel_rfl) (fun _ _ _ h => h) (Or.inl ⟨by rfl, ?_⟩) (by with_reducible assumption) ?_
            rotate_left
            · intro w hSw
              try dsimp only at hSw
              go_simp
              try with_reducible rfl
            try simp only [Act.put]
            refine wpAnyH_take (i := 4) (v := ?_) rfl (by kernel_rfl) (by kernel_rfl) (by kernel_rfl) (fun _ _ _ h => h) (Or.inl ⟨by rfl, ?_⟩) (by with_reducible assumption) ?_
            rotate_left
            · intro w hSw
              try dsimp only at hSw
              go_simp
              try with_reducible rfl
            try simp only [Act.put]
            refine wpAnyH_take (i := 5) (v := ?_) rfl (by kernel_rfl) (by kernel_rfl) (by kernel_rfl) (fun _ _ _ h => h) (Or.inl ⟨by rfl, ?_⟩) (by with_reducible assumption) ?_
            rotate_left
            · intro w hSw
              try dsimp only at hSw
              go_simp
              try with_reducible rfl
            try simp only [Act.put]
            refine wpAnyH_take (i := 6) (v := ?_) rfl (by kernel_rfl) (by kernel_rfl) (by kernel_rfl) (fun _ _ _ h => h) (Or.inl ⟨by rfl, ?_⟩) (by with_reducible assumption) ?_
            rotate_left
            · intro w hSw
              try dsimp only at hSw
              go_simp
              try with_reducible rfl
            try simp only [Act.put]
            refine wpAnyH_take (i := 7) (v := ?_) rfl (by kernel_rfl) (by kernel_rfl) (by kernel_rfl) (fun _ _ _ h => h) (Or.inl ⟨by rfl, ?_⟩) (by with_reducible assumption) ?_
            rotate_left
            · intro w hSw
              try dsimp only at hSw
              go_simp
              try with_reducible rfl
            try simp only [Act.put]
            refine wpAnyH_take (i := 8) (v := ?_) rfl (by kernel_rfl) (by kernel_rfl) (by kernel_rfl) (fun _ _ _ h => h) (Or.inl ⟨by rfl, ?_⟩) (by with_reducible assumption) ?_
            rotate_left
            · intro w hSw
              try dsimp only at hSw
              go_simp
              try with_reducible rfl
            try simp only [Act.put]
            refine wpAnyH_take (i := 9) (v := ?_) rfl (by kernel_rfl) (by kernel_rfl) (by kernel_rfl) (fun _ _ _ h => h) (Or.inl ⟨by rfl, ?_⟩) (by with_reducible assumption) ?_
            rotate_left
            · intro w hSw
              try dsimp only at hSw
              go_simp
              try with_reducible rfl
            try simp only [Act.put]
            refine wpAnyH_take (i := 10) (v := ?_) rfl (by kernel_rfl) (by kernel_rfl) (by kernel_rfl) (fun _ _ _ h => h) (Or.inl ⟨by rfl, ?_⟩) (by with_reducible assumption) ?_
            rotate_left
            · intro w hSw
              try dsimp only at hSw
              go_simp
              try with_reducible rfl
            try simp only [Act.put]
            refine wpAnyH_take (i := 11) (v := ?_) rfl (by kernel_rfl) (by kernel_rfl) (by kernel_rfl) (fun _ _ _ h => h) (Or.inl ⟨by rfl, ?_⟩) (by with_reducible assumption) ?_
            rotate_left
            · intro w hSw
              try dsimp only at hSw
              go_simp
              try with_reducible rfl
            try simp only [Act.put]
            refine wpAnyH_take (i := 12) (v := ?_) rfl (by kernel_rfl) (by kernel_rfl) (by kernel_rfl) (fun _ _ _ h => h) (Or.inl ⟨by rfl, ?_⟩) (by with_reducible assumption) ?_
            rotate_left
            · intro w hSw
              try dsimp only at hSw
              go_simp
              try with_reducible rfl
            try simp only [Act.put]
            refine wpAnyH_take (i := 13) (v := ?_) rfl (by kernel_rfl) (by kernel_rfl) (by kernel_rfl) (fun _ _ _ h => h) (Or.inl ⟨by rfl, ?_⟩) (by with_reducible assumption) ?_
            rotate_left
            · intro w hSw
              try dsimp only at hSw
              go_simp
              try with_reducible rfl
            try simp only [Act.put]
            refine wpAnyH_take (i := 14) (v := ?_) rfl (by kernel_rfl) (by kernel_rfl) (by kernel_rfl) (fun _ _ _ h => h) (Or.inl ⟨by rfl, ?_⟩) (by with_reducible assumption) ?_
            rotate_left
            · intro w hSw
              try dsimp only at hSw
              go_simp
              try with_reducible rfl
            try simp only [Act.put]
            refine wpAnyH_take (i := 15) (v := ?_) rfl (by kernel_rfl) (by kernel_rfl) (by kernel_rfl) (fun _ _ _ h => h) (Or.inl ⟨by rfl, ?_⟩) (by with_reducible assumption) ?_
            rotate_left
            · intro w hSw
              try dsimp only at hSw
              go_simp
              try with_reducible rfl
            try simp only [Act.put]
            refine wpAnyH_take (i := 16) (v := ?_) rfl (by kernel_rfl) (by kernel_rfl) (by kernel_rfl) (fun _ _ _ h => h) (Or.inl ⟨by rfl, ?_⟩) (by with_reducible assumption) ?_
            rotate_left
            · intro w hSw
              try dsimp only at hSw
              go_simp
              try with_reducible rfl
            try simp only [Act.put]
            refine wpAnyH_take (i := 17) (v := ?_) rfl (by kernel_rfl) (by kernel_rfl) (by kernel_rfl) (fun _ _ _ h => h) (Or.inl ⟨by rfl, ?_⟩) (by with_reducible assumption) ?_
            rotate_left
            · intro w hSw
              try dsimp only at hSw
              go_simp
              try with_reducible rfl
            try simp only [Act.put]
            refine wpAnyH_take (i := 19) (v := ?_) rfl (by kernel_rfl) (by kernel_rfl) (by kernel_rfl) (fun _ _ _ h => h) (Or.inl ⟨by rfl, ?_⟩) (by with_reducible assumption) ?_
            rotate_left
            · intro w hSw
              try dsimp only at hSw
              go_simp
              try with_reducible rfl
            try simp only [Act.put]
            refine wpAnyH_ready (rs := [18, 20]) (by kernel_rfl) (by simp) ?_
            refine AllReadyH.cons (o := _) rfl (fun K hK => ?_) ?_
            · go_simp
              refine hK.out _ _ (hHeld) (fun hHeld => ?_)
              clear hK K
              try simp only [Act.put, List.setIfInBounds_toArray, List.set_cons_zero, List.set_cons_succ]
              refine wpAnyH_ready (rs := [20]) (by kernel_rfl) (by simp) ?_
              refine AllReadyH.cons (o := _) rfl (fun K hK => ?_) ?_
              · go_simp
                refine hK.out _ _ (⟨a1, a2⟩) (fun hHeld => ?_)
                clear hK K
                try simp only [Act.put, List.setIfInBounds_toArray, List.set_cons_zero, List.set_cons_succ]
                refine wpAnyH_ready (rs := [21]) (by kernel_rfl) (by simp) ?_
                refine AllReadyH.cons (o := _) rfl (fun K hK => ?_) ?_
                · refine step_append_lies _ (by rfl) (.tmp 84) (.tmp 86) 26 (by rfl) lo 3 i0 _ 1 8 Try.underlying26 hi0 hz0 hz1 hz2 rfl (by decide) u us.length _ (by rfl) HA.out.own ⟨W0.heap.size, 0, none⟩ 1 1 [.int .i64 i] (by rfl) (by rfl) HNA.out (by simp [Value.oneCell']) (by decide) (by simp only [maxLen]; omega) (by omega) HA.out.los (W0.heap.size + 1) (by simp) ?_
                  intro ub ucap w3 hown hgrow hat hlt
                  have HX := Lib.hid (HA.out.next _ w3 ub ucap (us.length + 1) (Grow.refl _) hgrow hown rfl (hat.elim .inl (fun h => .inr (by simpa using h))))
                  have b1 : w3.cell? ⟨tb, 1, none⟩ = some (.slice (some ⟨ob, 0, none⟩) nv oc) := (hgrow.cell_far _ HA.out.tbl HA.out.ne.1).trans a1
                  have b2 : w3.cell? ⟨ob, v, none⟩ = some (.slice (some ⟨gb, 0, none⟩) m cap) := (hgrow.cell_far _ HA.out.obl HA.out.ne.2.1).trans a2
                  have b3 : w3.cell? ⟨gb, p * 2 + 1, none⟩ = some u := (hgrow.cell_far _ HA.out.gbl HA.out.ne.2.2).trans a3
                  have bf : w3.frozen? ⟨gb, p * 2 + 1, none⟩ = false := (hgrow.frozen_far _ HA.out.gbl HA.out.ne.2.2).trans HA.out.f3
                  have HS := Lib.hid (And.intro ((World.cell?_setCell_far w3 ⟨gb, p * 2 + 1, none⟩ ⟨tb, 1, none⟩ (.slice (some ⟨ub, 0, none⟩) (us.length + 1) ucap) HA.out.gne.1).trans b1) ((World.cell?_setCell_far w3 ⟨gb, p * 2 + 1, none⟩ ⟨ob, v, none⟩ (.slice (some ⟨ub, 0, none⟩) (us.length + 1) ucap) HA.out.gne.2).trans b2))
                  clear hown hgrow hat hlt
                  refine hK.out _ _ (⟨b1, b2⟩) (fun hHeld => ?_)
                  clear hK K
                  try simp only [Act.put, List.setIfInBounds_toArray]
                  refine wpAnyH_take (i := 22) (v := ?_) rfl (by kernel_rfl) (by kernel_rfl) (by kernel_rfl) (fun _ _ _ h => h) (Or.inl ⟨by rfl, ?_⟩) (by with_reducible assumption) ?_
                  rotate_left
                  · intro w hSw
                    try dsimp only at hSw
                    go_simp
                    try with_reducible rfl
                  try simp only [Act.put]
                  refine wpAnyH_take (i := 23) (v := ?_) rfl (by kernel_rfl) (by kernel_rfl) (by kernel_rfl) (fun _ _ _ h => h) (Or.inl ⟨by rfl, ?_⟩) (by with_reducible assumption) ?_
                  rotate_left
                  · intro w hSw
                    try dsimp only at hSw
                    go_simp
                    try with_reducible rfl
                  try simp only [Act.put]
                  refine wpAnyH_ready (rs := [24]) (by kernel_rfl) (by simp) ?_
                  refine AllReadyH.cons (o := _) rfl (fun K hK => ?_) ?_
                  · go_simp
                    refine hK.out _ _ (HS.out) (fun hHeld => ?_)
                    clear hK K
                    try simp only [Act.put, List.setIfInBounds_toArray, List.set_cons_zero, List.set_cons_succ]
                    refine wpAnyH_done (by kernel_rfl) ?_ _
                    go_wp2
                    go_end0
                    obtain ⟨ρ5, e5, e6, e7⟩ := HX.out
                    exact HF2.out ρ5 _ e5 e6 e7
                  exact AllReadyH.nil
                exact AllReadyH.nil
              exact AllReadyH.nil
            refine AllReadyH.cons (o := _) rfl (fun K hK => ?_) ?_
            · go_simp
              refine hK.out _ _ (⟨a1, a2⟩) (fun hHeld => ?_)
              clear hK K
              try simp only [Act.put, List.setIfInBounds_toArray, List.set_cons_zero, List.set_cons_succ]
              refine wpAnyH_ready (rs := [18]) (by kernel_rfl) (by simp) ?_
              refine AllReadyH.cons (o := _) rfl (fun K hK => ?_) ?_
              · go_simp
                refine hK.out _ _ (hHeld) (fun hHeld => ?_)
                clear hK K
                try simp only [Act.put, List.setIfInBounds_toArray, List.set_cons_zero, List.set_cons_succ]
                refine wpAnyH_ready (rs := [21]) (by kernel_rfl) (by simp) ?_
                refine AllReadyH.cons (o := _) rfl (fun K hK => ?_) ?_
                · refine step_append_lies _ (by rfl) (.tmp 84) (.tmp 86) 26 (by rfl) lo 3 i0 _ 1 8 Try.underlying26 hi0 hz0 hz1 hz2 rfl (by decide) u us.length _ (by rfl) HA.out.own ⟨W0.heap.size, 0, none⟩ 1 1 [.int .i64 i] (by rfl) (by rfl) HNA.out (by simp [Value.oneCell']) (by decide) (by simp only [maxLen]; omega) (by omega) HA.out.los (W0.heap.size + 1) (by simp) ?_
                  intro ub ucap w3 hown hgrow hat hlt
                  have HX := Lib.hid (HA.out.next _ w3 ub ucap (us.length + 1) (Grow.refl _) hgrow hown rfl (hat.elim .inl (fun h => .inr (by simpa using h))))
                  have b1 : w3.cell? ⟨tb, 1, none⟩ = some (.slice (some ⟨ob, 0, none⟩) nv oc) := (hgrow.cell_far _ HA.out.tbl HA.out.ne.1).trans a1
                  have b2 : w3.cell? ⟨ob, v, none⟩ = some (.slice (some ⟨gb, 0, none⟩) m cap) := (hgrow.cell_far _ HA.out.obl HA.out.ne.2.1).trans a2
                  have b3 : w3.cell? ⟨gb, p * 2 + 1, none⟩ = some u := (hgrow.cell_far _ HA.out.gbl HA.out.ne.2.2).trans a3
                  have bf : w3.frozen? ⟨gb, p * 2 + 1, none⟩ = false := (hgrow.frozen_far _ HA.out.gbl HA.out.ne.2.2).trans HA.out.f3
                  have HS := Lib.hid (And.intro ((World.cell?_setCell_far w3 ⟨gb, p * 2 + 1, none⟩ ⟨tb, 1, none⟩ (.slice (some ⟨ub, 0, none⟩) (us.length + 1) ucap) HA.out.gne.1).trans b1) ((World.cell?_setCell_far w3 ⟨gb, p * 2 + 1, none⟩ ⟨ob, v, none⟩ (.slice (some ⟨ub, 0, none⟩) (us.length + 1) ucap) HA.out.gne.2).trans b2))
                  clear hown hgrow hat hlt
                  refine hK.out _ _ (⟨b1, b2⟩) (fun hHeld => ?_)
                  clear hK K
                  try simp only [Act.put, List.setIfInBounds_toArray]
                  refine wpAnyH_take (i := 22) (v := ?_) rfl (by kernel_rfl) (by kernel_rfl) (by kernel_rfl) (fun _ _ _ h => h) (Or.inl ⟨by rfl, ?_⟩) (by with_reducible assumption) ?_
                  rotate_left
                  · intro w hSw
                    try dsimp only at hSw
                    go_simp
                    try with_reducible rfl
                  try simp only [Act.put]
                  refine wpAnyH_take (i := 23) (v := ?_) rfl (by kernel_rfl) (by kernel_rfl) (by kernel_rfl) (fun _ _ _ h => h) (Or.inl ⟨by rfl, ?_⟩) (by with_reducible assumption) ?_
                  rotate_left
                  · intro w hSw
                    try dsimp only at hSw
                    go_simp
                    try with_reducible rfl
                  try simp only [Act.put]
                  refine wpAnyH_ready (rs := [24]) (by kernel_rfl) (by simp) ?_
                  refine AllReadyH.cons (o := _) rfl (fun K hK => ?_) ?_
                  · go_simp
                    refine hK.out _ _ (HS.out) (fun hHeld => ?_)
                    clear hK K
                    try simp only [Act.put, List.setIfInBounds_toArray, List.set_cons_zero, List.set_cons_succ]
                    refine wpAnyH_done (by kernel_rfl) ?_ _
                    go_wp2
                    go_end0
                    obtain ⟨ρ5, e5, e6, e7⟩ := HX.out
                    exact HF2.out ρ5 _ e5 e6 e7
                  exact AllReadyH.nil
                exact AllReadyH.nil
              exact AllReadyH.nil
            exact AllReadyH.nil
          exact AllReadyH.nil
        exact AllReadyH.nil
      exact AllReadyH.nil
    exact AllReadyH.nil
  exact AllReadyH.nil
end
end Go.Proofs.Ytmiiolgbjicocaa
