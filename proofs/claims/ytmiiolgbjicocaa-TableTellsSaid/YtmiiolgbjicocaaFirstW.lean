/- first.Of: the walk. -/
import Derived.Test.YtmiiolgbjicocaaNewP
import Derived.Test.YtmiiolgbjicocaaTryT
namespace Go.Proofs.Ytmiiolgbjicocaa
open Go.RowKit
set_option maxRecDepth 100000 in
theorem of_nil (w : World) : Calls Try.prog 31 #[.slice none 0 0] w fun e w' => e = .returned (.pointer (some ⟨w.heap.size, 0, none⟩)) ∧ w' = w.alloc set0 := by
  unfold set0
  go_enter Try.func31, Try.ntmps31
  go_wp2_with fail
  go_loopw [10] (fun i wr => i = .int .i64 0 ∧ wr = w.alloc (.cells #[.slice none 0 0] 108)) (fun _ _ => 0)
  case atStart => exact ⟨rfl, rfl⟩
  case round =>
    obtain ⟨rfl, rfl⟩ := hrel
    go_wp2_with fail
    go_ret
    exact ⟨rfl, rfl⟩
theorem ints_up {w : World} {B B' : Nat} {a : Option Addr} {xs : List Int} (h : Ints w B a xs) (hl : B ≤ B') : Ints w B' a xs := fun i hi => by
  obtain ⟨b, off, h1, h2, h3⟩ := h i hi
  exact ⟨b, off, h1, by omega, h3⟩
theorem strs_up {w : World} {B B' : Nat} {a : Option Addr} {xs : List ByteArray} (h : StrsAt w B a xs) (hl : B ≤ B') : StrsAt w B' a xs := fun i hi => by
  obtain ⟨b, off, h1, h2, h3, h4⟩ := h i hi
  exact ⟨b, off, h1, by omega, h3, h4⟩
theorem gram_up {w : World} {B B' : Nat} {g : GramD} (h : GramAt w B g) (hl : B ≤ B') : GramAt w B' g :=
  ⟨strs_up h.terms hl, strs_up h.vars hl, fun i hi => by
    obtain ⟨b, off, h1, h2, h3, h4, h5, h6, h7⟩ := h.rules i hi
    exact ⟨b, off, h1, by omega, h3, h4, h5, ints_up h6 hl, h7⟩, h.lt, h.lv, h.lr, h.nils⟩
theorem info81 : (Try.prog.info? 81).map (fun i => (i.zero, i.size, i.bytes)) = some (some (.pointer none), 1, 8) := by kernel_rfl
theorem news81 (X : World) (g : Nat) (hg : g = X.heap.size) (cs : Array Value) : ∀ j u, cs.toList[j]? = some u → (X.alloc (.cells cs 81)).cell? ((⟨g, 0, none⟩ : Addr).add j) = some u := by
  subst hg
  exact World.news_of_block (t := 81) (fr := (0, 0)) (heap_alloc_this _ _)
theorem own_go {w w' : World} {base : Nat} {e : TypeId} {size : Nat} {v : Value} {n : Nat} {xs : List Value} (h : w.ownsRow base e size v n xs) (hg : Grow w w') : w'.ownsRow base e size v n xs :=
  rowg_keep h (fun _ hb => hg.block _ (rowg_lt h hb).2.1)
theorem app_low {lo : Nat} {W0 w1 w3 : World} {o : Obj} {e : TypeId} {size : Nat} {v : Value} {n : Nat} {xs : List Value} (h : W0.ownsRow lo e size v n xs) (h1 : w1 = W0.alloc set0) (hgr : (w1.alloc o).grownBy w3 v.ownBlock) (hl : lo ≤ W0.heap.size) : Below lo W0 w3 := by
  subst h1
  refine ⟨hgr.os, hgr.tape, hgr.output, by have := hgr.size; simp only [World.size_alloc] at this; omega, fun k hk => ?_⟩
  have hkw : k < W0.heap.size := by omega
  rw [hgr.block k (by simp only [World.size_alloc]; omega) (fun e1 => by have := (rowg_lt h e1.symm).1; omega), Below.heap_alloc _ _ _ (by simp only [World.size_alloc]; omega), Below.heap_alloc _ _ _ hkw]
section
variable {lo sb : Nat} {K : Int} {g : GramD} {k1 k2 kx ky : Nat} {x y x' y' : Option Addr} {cx cy cx' cy' : Nat} {fs ds : List Nat} {W0 : World}
theorem NewI.go (h : NewI lo sb K g k1 k2 kx ky x y x' y' cx cy cx' cy' fs ds W0) {w' : World} (hg : Grow W0 w') : NewI lo sb K g k1 k2 kx ky x y x' y' cx cy cx' cy' fs ds w' :=
  ⟨h.lf, h.ld, (hg.block _ (lt_of_block h.blk)).trans h.blk, own_go h.rx hg, own_go h.ry hg, h.ap, fun b hb => ⟨(h.set b hb).1, (hg.block _ (lt_of_block (h.set b hb).2)).trans (h.set b hb).2⟩, h.nd, Nat.le_trans h.los hg.size⟩
end
def Made1 (lo sb : Nat) (K : Int) (g : GramD) (w : World) (k : Nat) (wr : World) : Prop := ∃ x y cx cy fs ds, NewI lo sb K g k k k k x y x y cx cy cx cy fs ds wr ∧ Below lo w wr
theorem allS_sft {lo : Nat} {bs : List Nat} {lvs : List Value} {Ls : List Wds} {w w' : World} (h : AllS lo bs lvs Ls w) (hk : Sft w w') : AllS lo bs lvs Ls w' := by
  refine ⟨h.len, h.len2, fun i b lv L h1 h2 h3 => ?_, h.lob, h.lol, h.two, h.apart⟩
  obtain ⟨vs, hv⟩ := h.at_ i b lv L h1 h2 h3
  refine ⟨vs, (hk.typ _ _ _ hv.blk (by decide)).trans hv.blk, hv.row.keep (fun k hkk => ?_), hv.words.keep (fun k cs3 h3 => hk.typ _ _ _ h3 (by decide))⟩
  obtain ⟨_, _, cs, h5⟩ := row_ge hv.row hkk
  exact hk.typ _ _ _ h5 (by decide)
theorem setsR_sft {sb : Nat} {K : Int} {g : GramD} {nv : Nat} {F Fo : List Wds} {w w' : World} (h : SetsR sb K g nv F Fo w) (hk : Sft w w') : SetsR sb K g nv F Fo w' := by
  obtain ⟨⟨pb, pc, qb, qc, bs, lo, lvs, h1, h2⟩, h3, h4, h5⟩ := h
  exact ⟨⟨pb, pc, qb, qc, bs, lo, lvs, h1.kept (fun k cs t h6 h7 => hk.typ k cs t h6 (by rcases h7 with rfl | rfl <;> decide)), allS_sft h2 hk⟩, h3, h4, h5⟩
/-- The sets that were found. -/
def GoodSets (K n : Int) (g : GramD) (sb : Nat) (F Fo : List Wds) (w' : World) : Prop :=
  SetsR sb K g g.vars.length F Fo w' ∧ SysF K (rulesOf g) g.vars.length F ∧ SysD K (rulesOf g) g.vars.length Fo ∧ ClosedF K (rulesOf g) (memF F) ∧ ClosedD K (rulesOf g) (memF F) (memF Fo) ∧ ((wordsN F + wordsN Fo : Nat) : Int) ≤ n
def FirstPost (K n : Int) (g : GramD) (w : World) (e : Ending) (w' : World) : Prop :=
  Below w.heap.size w w' ∧ ((∃ sb F Fo, e = .returned (.tuple #[.pointer (some ⟨sb, 0, none⟩), .bool true]) ∧ GoodSets K n g sb F Fo w') ∨ (e = .returned (.tuple #[.pointer none, .bool false]) ∧ Over K (rulesOf g) g.vars.length n))
theorem getD_rep (n v : Nat) : (List.replicate n ([] : Wds)).getD v [] = [] := by
  rw [List.getD_eq_getElem?_getD, List.getElem?_replicate]
  split <;> rfl
theorem wordsN_rep (n : Nat) : wordsN (List.replicate n []) = 0 := by
  induction n with
  | zero => rfl
  | succ n ih => rw [List.replicate_succ]; unfold wordsN at *; simp
theorem ptr_row {lo n c : Nat} {x : Option Addr} {fs : List Nat} {W : World} (h : W.ownsRow lo 81 1 (.slice x n c) n (fs.map ptrV)) (hn : 0 < n) (hl : fs.length = n) : ∃ pb cs, x = some ⟨pb, 0, none⟩ ∧ W.heap[pb]? = some (.cells cs 81 (0, 0)) ∧ ∀ i, i < n → ∃ b, fs[i]? = some b ∧ cs[i]? = some (.pointer (some ⟨b, 0, none⟩)) := by
  rcases h.2 with ⟨_, h0⟩ | ⟨pb, cap, cs, h1, _, hh, hle, _, hs, htk⟩
  · omega
  · simp only [Value.slice.injEq] at h1
    obtain ⟨rfl, _, rfl⟩ := h1
    refine ⟨pb, cs, rfl, hh, fun i hi => ?_⟩
    have hfi : fs[i]? = some fs[i] := List.getElem?_eq_getElem (by omega)
    refine ⟨fs[i], hfi, ?_⟩
    have h2 : (cs.toList.take (n * 1))[i]? = (fs.map ptrV)[i]? := by rw [htk]
    rw [List.getElem?_take, if_pos (by omega), List.getElem?_map, hfi] at h2
    have h3 : cs[i]? = some (ptrV fs[i]) := by simpa using h2
    exact h3
/-- Where the filling begins. -/
theorem fill_start {lo sb mb : Nat} {K n0 : Int} {g : GramD} {nv : Nat} {x y : Option Addr} {cx cy : Nat} {fs ds : List Nat} {W : World} (h : NewI lo sb K g nv nv nv nv x y x y cx cy cx cy fs ds W) (hv : 0 < nv) (hm : MeterAt W mb n0 0) (hn : 0 ≤ n0) (R : Rls) :
    ∃ pb pc qb qc bs, FillX W lo mb sb K pb pc qb qc g R bs nv n0 [] [] (List.replicate nv []) (List.replicate nv []) W := by
  obtain ⟨pb, cs, rfl, hp1, hp2⟩ := ptr_row h.rx hv h.lf
  obtain ⟨qb, cs', rfl, hq1, hq2⟩ := ptr_row h.ry hv h.ld
  have lt_of : ∀ {α : Type} {xs : List α} {i : Nat} {y : α}, xs[i]? = some y → i < xs.length := fun h => (List.getElem?_eq_some_iff.1 h).1
  refine ⟨pb, cx, qb, cy, fs ++ ds, ⟨h.blk, ⟨cs, hp1, fun i hi => ?_⟩, ⟨cs', hq1, fun i hi => ?_⟩, by rw [List.length_append, h.lf, h.ld]; omega⟩, ⟨List.replicate (fs ++ ds).length (.slice none 0 0), by simp, by simp [h.lf, h.ld], fun i b lv L h1 h2 h3 => ?_, fun i b h1 => ?_, fun i lv h1 k hk => ?_, fun i j b h1 h2 => ?_, fun i j a b h1 h2 hne k ha _ => ?_⟩, sysF_nil _ _ _, sysD_nil _ _ _, ⟨n0, 0, hm, hn, Int.le_refl _, by omega, by rw [wordsN_rep]; rfl⟩, Tch.refl _ _ _⟩
  · obtain ⟨b, h1, h2⟩ := hp2 i hi
    exact ⟨b, by rw [List.getElem?_append_left (lt_of h1)]; exact h1, h2⟩
  · obtain ⟨b, h1, h2⟩ := hq2 i hi
    exact ⟨b, by rw [List.getElem?_append_right (by rw [h.lf]; omega), h.lf, show nv + i - nv = i by omega]; exact h1, h2⟩
  · rw [List.append_nil] at h1
    have e1 : lv = .slice none 0 0 := (List.eq_of_mem_replicate (List.mem_of_getElem? h2))
    have e2 : L = [] := by
      have := List.mem_of_getElem? h3
      rw [List.append_nil] at this
      rcases List.mem_append.1 this with h4 | h4 <;> exact List.eq_of_mem_replicate h4
    subst e1 e2
    exact ⟨[], (h.set b (List.mem_of_getElem? h1)).2, World.ownsRow_nil _ _ _ _, rfl, fun i hi => by simp at hi⟩
  · rw [List.append_nil] at h1
    exact (h.set b (List.mem_of_getElem? h1)).1
  · rw [List.eq_of_mem_replicate (List.mem_of_getElem? h1)] at hk
    simp [Value.ownBlock] at hk
  · rw [List.append_nil] at h1 h2
    obtain ⟨hi, e1⟩ := List.getElem?_eq_some_iff.1 h1
    obtain ⟨hj, e2⟩ := List.getElem?_eq_some_iff.1 h2
    exact (List.getElem_inj h.nd).1 (e1.trans e2.symm)
  · rw [List.eq_of_mem_replicate (List.mem_of_getElem? h1)] at ha
    simp [Value.ownBlock] at ha
theorem made_start {w : World} {K : Int} {g : GramD} {W : World} (hW : W = (w.alloc (.cells #[.slice g.ta g.terms.length g.tc, .slice g.va g.vars.length g.vc, .slice g.ra g.rules.length g.rc] 25)).alloc (.cells #[.int .i64 K, .slice none 0 0, .slice none 0 0, .slice g.ta g.terms.length g.tc, .slice g.va g.vars.length g.vc, .slice g.ra g.rules.length g.rc] 80)) : Made1 (w.heap.size + 1) (w.heap.size + 1) K g W 0 W := by
  subst hW
  have hb := (two_at w (.cells #[.slice g.ta g.terms.length g.tc, .slice g.va g.vars.length g.vc, .slice g.ra g.rules.length g.rc] 25) (.cells #[.int .i64 K, .slice none 0 0, .slice none 0 0, .slice g.ta g.terms.length g.tc, .slice g.va g.vars.length g.vc, .slice g.ra g.rules.length g.rc] 80)).2
  exact ⟨none, none, 0, 0, [], [], ⟨rfl, rfl, hb, World.ownsRow_nil _ _ _ _, World.ownsRow_nil _ _ _ _, fun b h => by simp [Value.ownBlock] at h, fun b h => by simp at h, by simp, by simp⟩, Below.refl _ _⟩
theorem made_put {lo : Nat} {K : Int} {g : GramD} {k1 k2 kx ky : Nat} {x y x' y' : Option Addr} {cx cy cx' cy' : Nat} {fs ds : List Nat} {w W0 w6 : World} (h1 : Below lo w W0) (h2 : Below lo W0 w6) (h : NewI lo lo K g k1 k2 kx ky x y x' y' cx cy cx' cy' fs ds w6) :
    Below lo w ((w6.setCell ⟨lo, 1, none⟩ (.slice x' k1 cx')).setCell ⟨lo, 2, none⟩ (.slice y' k2 cy')) :=
  (h1.trans h2).trans (h.put.2.below h.los (fun k hk e => by have e : k = lo := e; omega))
set_option maxRecDepth 100000 in
set_option maxHeartbeats 4000000 in
theorem first_any {w : World} {g : GramD} {B : Nat} (hg : GramAt w B g) (hB : B ≤ w.heap.size) {K n : Int} (hK : 1 ≤ K ∧ K ≤ 2) (hn : 0 ≤ n ∧ n ≤ 1000000) (hnv : 0 < g.vars.length ∧ g.vars.length ≤ 8) (hR : GoodR g.vars.length (rulesOf g)) (hrl : g.rules.length ≤ 24) (hleft : ∀ i (h : i < g.rules.length), 0 ≤ g.rules[i].left ∧ g.rules[i].right.length ≤ g.rules[i].rc) :
    Calls Try.prog 10 #[GV g, .int .i64 K, .int .i64 n] w (FirstPost K n g w) := by
  have HG := Lib.hid hg
  obtain ⟨hK1, hK2⟩ := hK
  obtain ⟨hv1, hv2⟩ := hnv
  have hk1 : decide (K < 1) = false := decide_eq_false (by omega)
  have hk2 : decide (4 < K) = false := decide_eq_false (by omega)
  obtain ⟨i0, hi0, hz0, hz1, hz2⟩ := info_parts info81
  unfold GV
  clear hg
  go_enter Try.func10, Try.ntmps10
  go_wp2_with fail
  have hgw := (grow_one w (.cells #[.slice g.ta g.terms.length g.tc, .slice g.va g.vars.length g.vc, .slice g.ra g.rules.length g.rc] 25)).trans (grow_one _ (.cells #[.int .i64 K, .slice none 0 0, .slice none 0 0, .slice g.ta g.terms.length g.tc, .slice g.va g.vars.length g.vc, .slice g.ra g.rules.length g.rc] 80))
  generalize hW : (w.alloc (.cells #[.slice g.ta g.terms.length g.tc, .slice g.va g.vars.length g.vc, .slice g.ra g.rules.length g.rc] 25)).alloc (.cells #[.int .i64 K, .slice none 0 0, .slice none 0 0, .slice g.ta g.terms.length g.tc, .slice g.va g.vars.length g.vc, .slice g.ra g.rules.length g.rc] 80) = W at *
  have HS := Lib.hid (made_start hW.symm)
  have HGW := Lib.hid hgw
  have HWS := Lib.hid (show w.heap.size + 1 < W.heap.size by rw [← hW]; simp)
  clear hW hgw
  generalize hsb : w.heap.size + 1 = sb at *
  have HWB : Hid (w.heap.size ≤ sb ∧ B ≤ sb) := Lib.hid ⟨by omega, by omega⟩
  go_loopw [24] (fun i wr => ∃ k : Nat, k ≤ g.vars.length ∧ i = .int .i64 k ∧ Hid (Made1 sb sb K g W k wr)) (fun i _ => g.vars.length - (intOf i).toNat)
  case atStart => exact ⟨0, by omega, rfl, HS.out⟩
  case round =>
    clear HS
    obtain ⟨k, hk, rfl, hh⟩ := hrel
    by_cases hlt : k < g.vars.length
    · have hki : (k : Int) < g.vars.length := by omega
      go_wp2_with fail
      obtain ⟨x, y, cx, cy, fs, ds, hN, hbl⟩ := hh.out
      have HN := Lib.hid (hN.go (grow_drew wr))
      have HBL := Lib.hid (hbl.trans (below_up (grow_drew wr) (by have := hN.los; omega)))
      have d1 : wr.drew.cell? ⟨sb, 1, none⟩ = some (.slice x k cx) := cell_of_block (off := 1) hN.blk
      have d2 : wr.drew.cell? ⟨sb, 2, none⟩ = some (.slice y k cy) := cell_of_block (off := 2) hN.blk
      have hsb0 : sb < wr.drew.heap.size := lt_of_block hN.blk
      clear hN hbl hh
      refine wp_region_held_drew (S := fun _ => True) (by kernel_rfl) (trivial) (fun hHeld => ?_)
      generalize wr.drew = W0 at *
      refine wpAnyH_take (i := 0) (v := ?_) rfl (by kernel_rfl) (by kernel_rfl) (by kernel_rfl) (fun _ _ _ h => h) (Or.inl ⟨by rfl, ?_⟩) (by with_reducible assumption) ?_
      rotate_left
      · intro w hSw
        try dsimp only at hSw
        go_simp
        try with_reducible rfl
      try simp only [Act.put, List.setIfInBounds_toArray]
      refine wpAnyH_take (i := 1) (v := ?_) rfl (by kernel_rfl) (by kernel_rfl) (by kernel_rfl) (fun _ _ _ h => h) (Or.inl ⟨by rfl, ?_⟩) (by with_reducible assumption) ?_
      rotate_left
      · intro w hSw
        try dsimp only at hSw
        go_simp
        try with_reducible rfl
      try simp only [Act.put]
      refine wpAnyH_take (i := 2) (v := ?_) rfl (by kernel_rfl) (by kernel_rfl) (by kernel_rfl) (fun _ _ _ h => h) (Or.inl ⟨by rfl, ?_⟩) (by with_reducible assumption) ?_
      rotate_left
      · intro w hSw
        try dsimp only at hSw
        go_simp
        try with_reducible rfl
      try simp only [Act.put]
      refine wpAnyH_take (i := 3) (v := ?_) rfl (by kernel_rfl) (by kernel_rfl) (by kernel_rfl) (fun _ _ _ h => h) (Or.inl ⟨by rfl, ?_⟩) (by with_reducible assumption) ?_
      rotate_left
      · intro w hSw
        try dsimp only at hSw
        go_simp
        try with_reducible rfl
      try simp only [Act.put]
      refine wpAnyH_take (i := 4) (v := ?_) rfl (by kernel_rfl) (by kernel_rfl) (by kernel_rfl) (fun _ _ _ h => h) (Or.inl ⟨by rfl, ?_⟩) (by with_reducible assumption) ?_
      rotate_left
      · intro w hSw
        try dsimp only at hSw
        go_simp
        try with_reducible rfl
      try simp only [Act.put]
      refine wpAnyH_take (i := 9) (v := ?_) rfl (by kernel_rfl) (by kernel_rfl) (by kernel_rfl) (fun _ _ _ h => h) (Or.inl ⟨by rfl, ?_⟩) (by with_reducible assumption) ?_
      rotate_left
      · intro w hSw
        try dsimp only at hSw
        go_simp
        try with_reducible rfl
      try simp only [Act.put]
      refine wpAnyH_take (i := 10) (v := ?_) rfl (by kernel_rfl) (by kernel_rfl) (by kernel_rfl) (fun _ _ _ h => h) (Or.inl ⟨by rfl, ?_⟩) (by with_reducible assumption) ?_
      rotate_left
      · intro w hSw
        try dsimp only at hSw
        go_simp
        try with_reducible rfl
      try simp only [Act.put]
      refine wpAnyH_take (i := 11) (v := ?_) rfl (by kernel_rfl) (by kernel_rfl) (by kernel_rfl) (fun _ _ _ h => h) (Or.inl ⟨by rfl, ?_⟩) (by with_reducible assumption) ?_
      rotate_left
      · intro w hSw
        try dsimp only at hSw
        go_simp
        try with_reducible rfl
      try simp only [Act.put]
      refine wpAnyH_ready (rs := [5, 6, 12]) (by kernel_rfl) (by simp) ?_
      refine AllReadyH.cons (o := _) rfl (fun K hK => ?_) ?_
      · go_simp
        refine hK.out _ _ (trivial) (fun hHeld => ?_)
        clear hK K
        try simp only [Act.put, List.setIfInBounds_toArray, List.set_cons_zero, List.set_cons_succ]
        refine wpAnyH_ready (rs := [6, 12]) (by kernel_rfl) (by simp) ?_
        refine AllReadyH.cons (o := _) rfl (fun K hK => ?_) ?_
        · go_simp
          go_at_call 31
          refine (of_nil _).mono ?_
          rintro e w1 ⟨rfl, hw1⟩
          have HW1 := Lib.hid hw1
          have G1 := Lib.hid (show Grow W0 w1 by rw [hw1]; exact grow_one _ _)
          have p1 := (below_cell G1.out hsb0).trans d1
          have p2 := (below_cell G1.out hsb0).trans d2
          have hsb1 : sb < w1.heap.size := Nat.lt_of_lt_of_le hsb0 G1.out.size
          clear hw1
          refine hK.out _ _ (trivial) (fun hHeld => ?_)
          clear hK K
          try simp only [Act.put, List.setIfInBounds_toArray, List.set_cons_zero, List.set_cons_succ]
          refine wpAnyH_ready (rs := [7, 12]) (by kernel_rfl) (by simp) ?_
          refine AllReadyH.cons (o := _) rfl (fun K hK => ?_) ?_
          · go_simp
            refine hK.out _ _ (trivial) (fun hHeld => ?_)
            clear hK K
            try simp only [Act.put, List.setIfInBounds_toArray, List.set_cons_zero, List.set_cons_succ]
            refine wpAnyH_ready (rs := [8, 12]) (by kernel_rfl) (by simp) ?_
            refine AllReadyH.cons (o := _) rfl (fun K hK => ?_) ?_
            · refine step_append_lies _ (by rfl) (.tmp 31) (.tmp 33) 78 (by rfl) sb 81 i0 _ 1 8 Try.underlying78 hi0 hz0 hz1 hz2 rfl (by decide) (.slice x k cx) k _ (by rfl) (own_go HN.out.rx (G1.out.trans (grow_one w1 _))) ⟨w1.heap.size, 0, none⟩ 1 1 [.pointer (some ⟨W0.heap.size, 0, none⟩)] (by rfl) (by rfl) (news81 _ w1.heap.size rfl #[.pointer (some ⟨W0.heap.size, 0, none⟩)]) (by simp [Value.oneCell']) (by omega) (by simp only [maxLen]; omega) (by omega) (by simp; omega) (w1.heap.size + 1) (by simp) ?_
              intro gx cpx w3 hown1 hgrow hat hlt2
              have HX3 := Lib.hid (And.intro (HN.out.app1 HW1.out hgrow hown1 hat) (app_low HN.out.rx HW1.out hgrow HN.out.los))
              have q1 : w3.cell? ⟨sb, 1, none⟩ = some (.slice x k cx) := cell_of_block (off := 1) HX3.out.1.1.blk
              have q2 : w3.cell? ⟨sb, 2, none⟩ = some (.slice y k cy) := cell_of_block (off := 2) HX3.out.1.1.blk
              have hsb3 : sb < w3.heap.size := lt_of_block HX3.out.1.1.blk
              clear hown1 hgrow hat hlt2
              refine hK.out _ _ (trivial) (fun hHeld => ?_)
              clear hK K
              try simp only [Act.put, List.setIfInBounds_toArray]
              refine wpAnyH_ready (rs := [12, 13]) (by kernel_rfl) (by simp) ?_
              refine AllReadyH.cons (o := _) rfl (fun K hK => ?_) ?_
              · go_simp
                refine hK.out _ _ (trivial) (fun hHeld => ?_)
                clear hK K
                try simp only [Act.put, List.setIfInBounds_toArray, List.set_cons_zero, List.set_cons_succ]
                refine wpAnyH_ready (rs := [13]) (by kernel_rfl) (by simp) ?_
                refine AllReadyH.cons (o := _) rfl (fun K hK => ?_) ?_
                · go_simp
                  go_at_call 31
                  refine (of_nil _).mono ?_
                  rintro e w4 ⟨rfl, hw4⟩
                  have HW4 := Lib.hid hw4
                  have G4 := Lib.hid (show Grow w3 w4 by rw [hw4]; exact grow_one _ _)
                  have s1 := (below_cell G4.out hsb3).trans q1
                  have s2 := (below_cell G4.out hsb3).trans q2
                  have hsb4 : sb < w4.heap.size := Nat.lt_of_lt_of_le hsb3 G4.out.size
                  clear hw4
                  refine hK.out _ _ (trivial) (fun hHeld => ?_)
                  clear hK K
                  try simp only [Act.put, List.setIfInBounds_toArray, List.set_cons_zero, List.set_cons_succ]
                  refine wpAnyH_ready (rs := [14]) (by kernel_rfl) (by simp) ?_
                  refine AllReadyH.cons (o := _) rfl (fun K hK => ?_) ?_
                  · go_simp
                    refine hK.out _ _ (trivial) (fun hHeld => ?_)
                    clear hK K
                    try simp only [Act.put, List.setIfInBounds_toArray, List.set_cons_zero, List.set_cons_succ]
                    refine wpAnyH_ready (rs := [15]) (by kernel_rfl) (by simp) ?_
                    refine AllReadyH.cons (o := _) rfl (fun K hK => ?_) ?_
                    · refine step_append_lies _ (by rfl) (.tmp 38) (.tmp 40) 78 (by rfl) sb 81 i0 _ 1 8 Try.underlying78 hi0 hz0 hz1 hz2 rfl (by decide) (.slice y k cy) k _ (by rfl) (own_go HX3.out.1.1.ry (G4.out.trans (grow_one w4 _))) ⟨w4.heap.size, 0, none⟩ 1 1 [.pointer (some ⟨w3.heap.size, 0, none⟩)] (by rfl) (by rfl) (news81 _ w4.heap.size rfl #[.pointer (some ⟨w3.heap.size, 0, none⟩)]) (by simp [Value.oneCell']) (by omega) (by simp only [maxLen]; omega) (by omega) (by simp; omega) (w4.heap.size + 1) (by simp) ?_
                      intro gy cpy w6 hown2 hgrow2 hat2 hlt3
                      have HX6 := Lib.hid (And.intro (HX3.out.1.1.app2 HW4.out hgrow2 hown2 hat2) (HX3.out.2.trans (app_low HX3.out.1.1.ry HW4.out hgrow2 HX3.out.1.1.los)))
                      have t1 : w6.cell? ⟨sb, 1, none⟩ = some (.slice x k cx) := cell_of_block (off := 1) HX6.out.1.1.blk
                      have t2 : w6.cell? ⟨sb, 2, none⟩ = some (.slice y k cy) := cell_of_block (off := 2) HX6.out.1.1.blk
                      have f1 : w6.frozen? ⟨sb, 1, none⟩ = false := free_of_block HX6.out.1.1.blk
                      have f2 : w6.frozen? ⟨sb, 2, none⟩ = false := free_of_block HX6.out.1.1.blk
                      have hsb6 : sb < w6.heap.size := lt_of_block HX6.out.1.1.blk
                      clear hown2 hgrow2 hat2 hlt3
                      refine hK.out _ _ (trivial) (fun hHeld => ?_)
                      clear hK K
                      try simp only [Act.put, List.setIfInBounds_toArray]
                      refine wpAnyH_take (i := 16) (v := ?_) rfl (by kernel_rfl) (by kernel_rfl) (by kernel_rfl) (fun _ _ _ h => h) (Or.inl ⟨by rfl, ?_⟩) (by with_reducible assumption) ?_
                      rotate_left
                      · intro w hSw
                        try dsimp only at hSw
                        go_simp
                        try with_reducible rfl
                      try simp only [Act.put]
                      refine wpAnyH_take (i := 17) (v := ?_) rfl (by kernel_rfl) (by kernel_rfl) (by kernel_rfl) (fun _ _ _ h => h) (Or.inl ⟨by rfl, ?_⟩) (by with_reducible assumption) ?_
                      rotate_left
                      · intro w hSw
                        try dsimp only at hSw
                        go_simp
                        try with_reducible rfl
                      try simp only [Act.put]
                      refine wpAnyH_ready (rs := [18]) (by kernel_rfl) (by simp) ?_
                      refine AllReadyH.cons (o := _) rfl (fun K hK => ?_) ?_
                      · go_simp
                        refine hK.out _ _ (trivial) (fun hHeld => ?_)
                        clear hK K
                        try simp only [Act.put, List.setIfInBounds_toArray, List.set_cons_zero, List.set_cons_succ]
                        refine wpAnyH_take (i := 19) (v := ?_) rfl (by kernel_rfl) (by kernel_rfl) (by kernel_rfl) (fun _ _ _ h => h) (Or.inl ⟨by rfl, ?_⟩) (by with_reducible assumption) ?_
                        rotate_left
                        · intro w hSw
                          try dsimp only at hSw
                          go_simp
                          try with_reducible rfl
                        try simp only [Act.put, List.setIfInBounds_toArray]
                        refine wpAnyH_take (i := 20) (v := ?_) rfl (by kernel_rfl) (by kernel_rfl) (by kernel_rfl) (fun _ _ _ h => h) (Or.inl ⟨by rfl, ?_⟩) (by with_reducible assumption) ?_
                        rotate_left
                        · intro w hSw
                          try dsimp only at hSw
                          go_simp
                          try with_reducible rfl
                        try simp only [Act.put]
                        refine wpAnyH_ready (rs := [21]) (by kernel_rfl) (by simp) ?_
                        refine AllReadyH.cons (o := _) rfl (fun K hK => ?_) ?_
                        · go_simp
                          refine hK.out _ _ (trivial) (fun hHeld => ?_)
                          clear hK K
                          try simp only [Act.put, List.setIfInBounds_toArray, List.set_cons_zero, List.set_cons_succ]
                          refine wpAnyH_done (by kernel_rfl) ?_ _
                          go_wp2
                          go_roundw
                          case rel => exact ⟨k + 1, by omega, by go_num, _, _, _, _, _, _, HX6.out.1.1.put.1, made_put HBL.out HX6.out.2 HX6.out.1.1⟩
                          case measure => simp [intOf] <;> omega
                        exact AllReadyH.nil
                      exact AllReadyH.nil
                    exact AllReadyH.nil
                  exact AllReadyH.nil
                exact AllReadyH.nil
              refine AllReadyH.cons (o := _) rfl (fun K hK => ?_) ?_
              · go_simp
                go_at_call 31
                refine (of_nil _).mono ?_
                rintro e w4 ⟨rfl, hw4⟩
                have HW4 := Lib.hid hw4
                have G4 := Lib.hid (show Grow w3 w4 by rw [hw4]; exact grow_one _ _)
                have s1 := (below_cell G4.out hsb3).trans q1
                have s2 := (below_cell G4.out hsb3).trans q2
                have hsb4 : sb < w4.heap.size := Nat.lt_of_lt_of_le hsb3 G4.out.size
                clear hw4
                refine hK.out _ _ (trivial) (fun hHeld => ?_)
                clear hK K
                try simp only [Act.put, List.setIfInBounds_toArray, List.set_cons_zero, List.set_cons_succ]
                refine wpAnyH_ready (rs := [12, 14]) (by kernel_rfl) (by simp) ?_
                refine AllReadyH.cons (o := _) rfl (fun K hK => ?_) ?_
                · go_simp
                  refine hK.out _ _ (trivial) (fun hHeld => ?_)
                  clear hK K
                  try simp only [Act.put, List.setIfInBounds_toArray, List.set_cons_zero, List.set_cons_succ]
                  refine wpAnyH_ready (rs := [14]) (by kernel_rfl) (by simp) ?_
                  refine AllReadyH.cons (o := _) rfl (fun K hK => ?_) ?_
                  · go_simp
                    refine hK.out _ _ (trivial) (fun hHeld => ?_)
                    clear hK K
                    try simp only [Act.put, List.setIfInBounds_toArray, List.set_cons_zero, List.set_cons_succ]
                    refine wpAnyH_ready (rs := [15]) (by kernel_rfl) (by simp) ?_
                    refine AllReadyH.cons (o := _) rfl (fun K hK => ?_) ?_
                    · refine step_append_lies _ (by rfl) (.tmp 38) (.tmp 40) 78 (by rfl) sb 81 i0 _ 1 8 Try.underlying78 hi0 hz0 hz1 hz2 rfl (by decide) (.slice y k cy) k _ (by rfl) (own_go HX3.out.1.1.ry (G4.out.trans (grow_one w4 _))) ⟨w4.heap.size, 0, none⟩ 1 1 [.pointer (some ⟨w3.heap.size, 0, none⟩)] (by rfl) (by rfl) (news81 _ w4.heap.size rfl #[.pointer (some ⟨w3.heap.size, 0, none⟩)]) (by simp [Value.oneCell']) (by omega) (by simp only [maxLen]; omega) (by omega) (by simp; omega) (w4.heap.size + 1) (by simp) ?_
                      intro gy cpy w6 hown2 hgrow2 hat2 hlt3
                      have HX6 := Lib.hid (And.intro (HX3.out.1.1.app2 HW4.out hgrow2 hown2 hat2) (HX3.out.2.trans (app_low HX3.out.1.1.ry HW4.out hgrow2 HX3.out.1.1.los)))
                      have t1 : w6.cell? ⟨sb, 1, none⟩ = some (.slice x k cx) := cell_of_block (off := 1) HX6.out.1.1.blk
                      have t2 : w6.cell? ⟨sb, 2, none⟩ = some (.slice y k cy) := cell_of_block (off := 2) HX6.out.1.1.blk
                      have f1 : w6.frozen? ⟨sb, 1, none⟩ = false := free_of_block HX6.out.1.1.blk
                      have f2 : w6.frozen? ⟨sb, 2, none⟩ = false := free_of_block HX6.out.1.1.blk
                      have hsb6 : sb < w6.heap.size := lt_of_block HX6.out.1.1.blk
                      clear hown2 hgrow2 hat2 hlt3
                      refine hK.out _ _ (trivial) (fun hHeld => ?_)
                      clear hK K
                      try simp only [Act.put, List.setIfInBounds_toArray]
                      refine wpAnyH_take (i := 16) (v := ?_) rfl (by kernel_rfl) (by kernel_rfl) (by kernel_rfl) (fun _ _ _ h => h) (Or.inl ⟨by rfl, ?_⟩) (by with_reducible assumption) ?_
                      rotate_left
                      · intro w hSw
                        try dsimp only at hSw
                        go_simp
                        try with_reducible rfl
                      try simp only [Act.put]
                      refine wpAnyH_take (i := 17) (v := ?_) rfl (by kernel_rfl) (by kernel_rfl) (by kernel_rfl) (fun _ _ _ h => h) (Or.inl ⟨by rfl, ?_⟩) (by with_reducible assumption) ?_
                      rotate_left
                      · intro w hSw
                        try dsimp only at hSw
                        go_simp
                        try with_reducible rfl
                      try simp only [Act.put]
                      refine wpAnyH_ready (rs := [18]) (by kernel_rfl) (by simp) ?_
                      refine AllReadyH.cons (o := _) rfl (fun K hK => ?_) ?_
                      · go_simp
                        refine hK.out _ _ (trivial) (fun hHeld => ?_)
                        clear hK K
                        try simp only [Act.put, List.setIfInBounds_toArray, List.set_cons_zero, List.set_cons_succ]
                        refine wpAnyH_take (i := 19) (v := ?_) rfl (by kernel_rfl) (by kernel_rfl) (by kernel_rfl) (fun _ _ _ h => h) (Or.inl ⟨by rfl, ?_⟩) (by with_reducible assumption) ?_
                        rotate_left
                        · intro w hSw
                          try dsimp only at hSw
                          go_simp
                          try with_reducible rfl
                        try simp only [Act.put, List.setIfInBounds_toArray]
                        refine wpAnyH_take (i := 20) (v := ?_) rfl (by kernel_rfl) (by kernel_rfl) (by kernel_rfl) (fun _ _ _ h => h) (Or.inl ⟨by rfl, ?_⟩) (by with_reducible assumption) ?_
                        rotate_left
                        · intro w hSw
                          try dsimp only at hSw
                          go_simp
                          try with_reducible rfl
                        try simp only [Act.put]
                        refine wpAnyH_ready (rs := [21]) (by kernel_rfl) (by simp) ?_
                        refine AllReadyH.cons (o := _) rfl (fun K hK => ?_) ?_
                        · go_simp
                          refine hK.out _ _ (trivial) (fun hHeld => ?_)
                          clear hK K
                          try simp only [Act.put, List.setIfInBounds_toArray, List.set_cons_zero, List.set_cons_succ]
                          refine wpAnyH_done (by kernel_rfl) ?_ _
                          go_wp2
                          go_roundw
                          case rel => exact ⟨k + 1, by omega, by go_num, _, _, _, _, _, _, HX6.out.1.1.put.1, made_put HBL.out HX6.out.2 HX6.out.1.1⟩
                          case measure => simp [intOf] <;> omega
                        exact AllReadyH.nil
                      exact AllReadyH.nil
                    exact AllReadyH.nil
                  exact AllReadyH.nil
                refine AllReadyH.cons (o := _) rfl (fun K hK => ?_) ?_
                · go_simp
                  refine hK.out _ _ (trivial) (fun hHeld => ?_)
                  clear hK K
                  try simp only [Act.put, List.setIfInBounds_toArray, List.set_cons_zero, List.set_cons_succ]
                  refine wpAnyH_ready (rs := [12]) (by kernel_rfl) (by simp) ?_
                  refine AllReadyH.cons (o := _) rfl (fun K hK => ?_) ?_
                  · go_simp
                    refine hK.out _ _ (trivial) (fun hHeld => ?_)
                    clear hK K
                    try simp only [Act.put, List.setIfInBounds_toArray, List.set_cons_zero, List.set_cons_succ]
                    refine wpAnyH_ready (rs := [15]) (by kernel_rfl) (by simp) ?_
                    refine AllReadyH.cons (o := _) rfl (fun K hK => ?_) ?_
                    · refine step_append_lies _ (by rfl) (.tmp 38) (.tmp 40) 78 (by rfl) sb 81 i0 _ 1 8 Try.underlying78 hi0 hz0 hz1 hz2 rfl (by decide) (.slice y k cy) k _ (by rfl) (own_go HX3.out.1.1.ry (G4.out.trans (grow_one w4 _))) ⟨w4.heap.size, 0, none⟩ 1 1 [.pointer (some ⟨w3.heap.size, 0, none⟩)] (by rfl) (by rfl) (news81 _ w4.heap.size rfl #[.pointer (some ⟨w3.heap.size, 0, none⟩)]) (by simp [Value.oneCell']) (by omega) (by simp only [maxLen]; omega) (by omega) (by simp; omega) (w4.heap.size + 1) (by simp) ?_
                      intro gy cpy w6 hown2 hgrow2 hat2 hlt3
                      have HX6 := Lib.hid (And.intro (HX3.out.1.1.app2 HW4.out hgrow2 hown2 hat2) (HX3.out.2.trans (app_low HX3.out.1.1.ry HW4.out hgrow2 HX3.out.1.1.los)))
                      have t1 : w6.cell? ⟨sb, 1, none⟩ = some (.slice x k cx) := cell_of_block (off := 1) HX6.out.1.1.blk
                      have t2 : w6.cell? ⟨sb, 2, none⟩ = some (.slice y k cy) := cell_of_block (off := 2) HX6.out.1.1.blk
                      have f1 : w6.frozen? ⟨sb, 1, none⟩ = false := free_of_block HX6.out.1.1.blk
                      have f2 : w6.frozen? ⟨sb, 2, none⟩ = false := free_of_block HX6.out.1.1.blk
                      have hsb6 : sb < w6.heap.size := lt_of_block HX6.out.1.1.blk
                      clear hown2 hgrow2 hat2 hlt3
                      refine hK.out _ _ (trivial) (fun hHeld => ?_)
                      clear hK K
                      try simp only [Act.put, List.setIfInBounds_toArray]
                      refine wpAnyH_take (i := 16) (v := ?_) rfl (by kernel_rfl) (by kernel_rfl) (by kernel_rfl) (fun _ _ _ h => h) (Or.inl ⟨by rfl, ?_⟩) (by with_reducible assumption) ?_
                      rotate_left
                      · intro w hSw
                        try dsimp only at hSw
                        go_simp
                        try with_reducible rfl
                      try simp only [Act.put]
                      refine wpAnyH_take (i := 17) (v := ?_) rfl (by kernel_rfl) (by kernel_rfl) (by kernel_rfl) (fun _ _ _ h => h) (Or.inl ⟨by rfl, ?_⟩) (by with_reducible assumption) ?_
                      rotate_left
                      · intro w hSw
                        try dsimp only at hSw
                        go_simp
                        try with_reducible rfl
                      try simp only [Act.put]
                      refine wpAnyH_ready (rs := [18]) (by kernel_rfl) (by simp) ?_
                      refine AllReadyH.cons (o := _) rfl (fun K hK => ?_) ?_
                      · go_simp
                        refine hK.out _ _ (trivial) (fun hHeld => ?_)
                        clear hK K
                        try simp only [Act.put, List.setIfInBounds_toArray, List.set_cons_zero, List.set_cons_succ]
                        refine wpAnyH_take (i := 19) (v := ?_) rfl (by kernel_rfl) (by kernel_rfl) (by kernel_rfl) (fun _ _ _ h => h) (Or.inl ⟨by rfl, ?_⟩) (by with_reducible assumption) ?_
                        rotate_left
                        · intro w hSw
                          try dsimp only at hSw
                          go_simp
                          try with_reducible rfl
                        try simp only [Act.put, List.setIfInBounds_toArray]
                        refine wpAnyH_take (i := 20) (v := ?_) rfl (by kernel_rfl) (by kernel_rfl) (by kernel_rfl) (fun _ _ _ h => h) (Or.inl ⟨by rfl, ?_⟩) (by with_reducible assumption) ?_
                        rotate_left
                        · intro w hSw
                          try dsimp only at hSw
                          go_simp
                          try with_reducible rfl
                        try simp only [Act.put]
                        refine wpAnyH_ready (rs := [21]) (by kernel_rfl) (by simp) ?_
                        refine AllReadyH.cons (o := _) rfl (fun K hK => ?_) ?_
                        · go_simp
                          refine hK.out _ _ (trivial) (fun hHeld => ?_)
                          clear hK K
                          try simp only [Act.put, List.setIfInBounds_toArray, List.set_cons_zero, List.set_cons_succ]
                          refine wpAnyH_done (by kernel_rfl) ?_ _
                          go_wp2
                          go_roundw
                          case rel => exact ⟨k + 1, by omega, by go_num, _, _, _, _, _, _, HX6.out.1.1.put.1, made_put HBL.out HX6.out.2 HX6.out.1.1⟩
                          case measure => simp [intOf] <;> omega
                        exact AllReadyH.nil
                      exact AllReadyH.nil
                    exact AllReadyH.nil
                  exact AllReadyH.nil
                exact AllReadyH.nil
              exact AllReadyH.nil
            refine AllReadyH.cons (o := _) rfl (fun K hK => ?_) ?_
            · go_simp
              refine hK.out _ _ (trivial) (fun hHeld => ?_)
              clear hK K
              try simp only [Act.put, List.setIfInBounds_toArray, List.set_cons_zero, List.set_cons_succ]
              refine wpAnyH_ready (rs := [8]) (by kernel_rfl) (by simp) ?_
              refine AllReadyH.cons (o := _) rfl (fun K hK => ?_) ?_
              · refine step_append_lies _ (by rfl) (.tmp 31) (.tmp 33) 78 (by rfl) sb 81 i0 _ 1 8 Try.underlying78 hi0 hz0 hz1 hz2 rfl (by decide) (.slice x k cx) k _ (by rfl) (own_go HN.out.rx (G1.out.trans (grow_one w1 _))) ⟨w1.heap.size, 0, none⟩ 1 1 [.pointer (some ⟨W0.heap.size, 0, none⟩)] (by rfl) (by rfl) (news81 _ w1.heap.size rfl #[.pointer (some ⟨W0.heap.size, 0, none⟩)]) (by simp [Value.oneCell']) (by omega) (by simp only [maxLen]; omega) (by omega) (by simp; omega) (w1.heap.size + 1) (by simp) ?_
                intro gx cpx w3 hown1 hgrow hat hlt2
                have HX3 := Lib.hid (And.intro (HN.out.app1 HW1.out hgrow hown1 hat) (app_low HN.out.rx HW1.out hgrow HN.out.los))
                have q1 : w3.cell? ⟨sb, 1, none⟩ = some (.slice x k cx) := cell_of_block (off := 1) HX3.out.1.1.blk
                have q2 : w3.cell? ⟨sb, 2, none⟩ = some (.slice y k cy) := cell_of_block (off := 2) HX3.out.1.1.blk
                have hsb3 : sb < w3.heap.size := lt_of_block HX3.out.1.1.blk
                clear hown1 hgrow hat hlt2
                refine hK.out _ _ (trivial) (fun hHeld => ?_)
                clear hK K
                try simp only [Act.put, List.setIfInBounds_toArray]
                refine wpAnyH_ready (rs := [13]) (by kernel_rfl) (by simp) ?_
                refine AllReadyH.cons (o := _) rfl (fun K hK => ?_) ?_
                · go_simp
                  go_at_call 31
                  refine (of_nil _).mono ?_
                  rintro e w4 ⟨rfl, hw4⟩
                  have HW4 := Lib.hid hw4
                  have G4 := Lib.hid (show Grow w3 w4 by rw [hw4]; exact grow_one _ _)
                  have s1 := (below_cell G4.out hsb3).trans q1
                  have s2 := (below_cell G4.out hsb3).trans q2
                  have hsb4 : sb < w4.heap.size := Nat.lt_of_lt_of_le hsb3 G4.out.size
                  clear hw4
                  refine hK.out _ _ (trivial) (fun hHeld => ?_)
                  clear hK K
                  try simp only [Act.put, List.setIfInBounds_toArray, List.set_cons_zero, List.set_cons_succ]
                  refine wpAnyH_ready (rs := [14]) (by kernel_rfl) (by simp) ?_
                  refine AllReadyH.cons (o := _) rfl (fun K hK => ?_) ?_
                  · go_simp
                    refine hK.out _ _ (trivial) (fun hHeld => ?_)
                    clear hK K
                    try simp only [Act.put, List.setIfInBounds_toArray, List.set_cons_zero, List.set_cons_succ]
                    refine wpAnyH_ready (rs := [15]) (by kernel_rfl) (by simp) ?_
                    refine AllReadyH.cons (o := _) rfl (fun K hK => ?_) ?_
                    · refine step_append_lies _ (by rfl) (.tmp 38) (.tmp 40) 78 (by rfl) sb 81 i0 _ 1 8 Try.underlying78 hi0 hz0 hz1 hz2 rfl (by decide) (.slice y k cy) k _ (by rfl) (own_go HX3.out.1.1.ry (G4.out.trans (grow_one w4 _))) ⟨w4.heap.size, 0, none⟩ 1 1 [.pointer (some ⟨w3.heap.size, 0, none⟩)] (by rfl) (by rfl) (news81 _ w4.heap.size rfl #[.pointer (some ⟨w3.heap.size, 0, none⟩)]) (by simp [Value.oneCell']) (by omega) (by simp only [maxLen]; omega) (by omega) (by simp; omega) (w4.heap.size + 1) (by simp) ?_
                      intro gy cpy w6 hown2 hgrow2 hat2 hlt3
                      have HX6 := Lib.hid (And.intro (HX3.out.1.1.app2 HW4.out hgrow2 hown2 hat2) (HX3.out.2.trans (app_low HX3.out.1.1.ry HW4.out hgrow2 HX3.out.1.1.los)))
                      have t1 : w6.cell? ⟨sb, 1, none⟩ = some (.slice x k cx) := cell_of_block (off := 1) HX6.out.1.1.blk
                      have t2 : w6.cell? ⟨sb, 2, none⟩ = some (.slice y k cy) := cell_of_block (off := 2) HX6.out.1.1.blk
                      have f1 : w6.frozen? ⟨sb, 1, none⟩ = false := free_of_block HX6.out.1.1.blk
                      have f2 : w6.frozen? ⟨sb, 2, none⟩ = false := free_of_block HX6.out.1.1.blk
                      have hsb6 : sb < w6.heap.size := lt_of_block HX6.out.1.1.blk
                      clear hown2 hgrow2 hat2 hlt3
                      refine hK.out _ _ (trivial) (fun hHeld => ?_)
                      clear hK K
                      try simp only [Act.put, List.setIfInBounds_toArray]
                      refine wpAnyH_take (i := 16) (v := ?_) rfl (by kernel_rfl) (by kernel_rfl) (by kernel_rfl) (fun _ _ _ h => h) (Or.inl ⟨by rfl, ?_⟩) (by with_reducible assumption) ?_
                      rotate_left
                      · intro w hSw
                        try dsimp only at hSw
                        go_simp
                        try with_reducible rfl
                      try simp only [Act.put]
                      refine wpAnyH_take (i := 17) (v := ?_) rfl (by kernel_rfl) (by kernel_rfl) (by kernel_rfl) (fun _ _ _ h => h) (Or.inl ⟨by rfl, ?_⟩) (by with_reducible assumption) ?_
                      rotate_left
                      · intro w hSw
                        try dsimp only at hSw
                        go_simp
                        try with_reducible rfl
                      try simp only [Act.put]
                      refine wpAnyH_ready (rs := [18]) (by kernel_rfl) (by simp) ?_
                      refine AllReadyH.cons (o := _) rfl (fun K hK => ?_) ?_
                      · go_simp
                        refine hK.out _ _ (trivial) (fun hHeld => ?_)
                        clear hK K
                        try simp only [Act.put, List.setIfInBounds_toArray, List.set_cons_zero, List.set_cons_succ]
                        refine wpAnyH_take (i := 19) (v := ?_) rfl (by kernel_rfl) (by kernel_rfl) (by kernel_rfl) (fun _ _ _ h => h) (Or.inl ⟨by rfl, ?_⟩) (by with_reducible assumption) ?_
                        rotate_left
                        · intro w hSw
                          try dsimp only at hSw
                          go_simp
                          try with_reducible rfl
                        try simp only [Act.put, List.setIfInBounds_toArray]
                        refine wpAnyH_take (i := 20) (v := ?_) rfl (by kernel_rfl) (by kernel_rfl) (by kernel_rfl) (fun _ _ _ h => h) (Or.inl ⟨by rfl, ?_⟩) (by with_reducible assumption) ?_
                        rotate_left
                        · intro w hSw
                          try dsimp only at hSw
                          go_simp
                          try with_reducible rfl
                        try simp only [Act.put]
                        refine wpAnyH_ready (rs := [21]) (by kernel_rfl) (by simp) ?_
                        refine AllReadyH.cons (o := _) rfl (fun K hK => ?_) ?_
                        · go_simp
                          refine hK.out _ _ (trivial) (fun hHeld => ?_)
                          clear hK K
                          try simp only [Act.put, List.setIfInBounds_toArray, List.set_cons_zero, List.set_cons_succ]
                          refine wpAnyH_done (by kernel_rfl) ?_ _
                          go_wp2
                          go_roundw
                          case rel => exact ⟨k + 1, by omega, by go_num, _, _, _, _, _, _, HX6.out.1.1.put.1, made_put HBL.out HX6.out.2 HX6.out.1.1⟩
                          case measure => simp [intOf] <;> omega
                        exact AllReadyH.nil
                      exact AllReadyH.nil
                    exact AllReadyH.nil
                  exact AllReadyH.nil
                exact AllReadyH.nil
              exact AllReadyH.nil
            exact AllReadyH.nil
          refine AllReadyH.cons (o := _) rfl (fun K hK => ?_) ?_
          · go_simp
            refine hK.out _ _ (trivial) (fun hHeld => ?_)
            clear hK K
            try simp only [Act.put, List.setIfInBounds_toArray, List.set_cons_zero, List.set_cons_succ]
            refine wpAnyH_ready (rs := [7]) (by kernel_rfl) (by simp) ?_
            refine AllReadyH.cons (o := _) rfl (fun K hK => ?_) ?_
            · go_simp
              refine hK.out _ _ (trivial) (fun hHeld => ?_)
              clear hK K
              try simp only [Act.put, List.setIfInBounds_toArray, List.set_cons_zero, List.set_cons_succ]
              refine wpAnyH_ready (rs := [8]) (by kernel_rfl) (by simp) ?_
              refine AllReadyH.cons (o := _) rfl (fun K hK => ?_) ?_
              · refine step_append_lies _ (by rfl) (.tmp 31) (.tmp 33) 78 (by rfl) sb 81 i0 _ 1 8 Try.underlying78 hi0 hz0 hz1 hz2 rfl (by decide) (.slice x k cx) k _ (by rfl) (own_go HN.out.rx (G1.out.trans (grow_one w1 _))) ⟨w1.heap.size, 0, none⟩ 1 1 [.pointer (some ⟨W0.heap.size, 0, none⟩)] (by rfl) (by rfl) (news81 _ w1.heap.size rfl #[.pointer (some ⟨W0.heap.size, 0, none⟩)]) (by simp [Value.oneCell']) (by omega) (by simp only [maxLen]; omega) (by omega) (by simp; omega) (w1.heap.size + 1) (by simp) ?_
                intro gx cpx w3 hown1 hgrow hat hlt2
                have HX3 := Lib.hid (And.intro (HN.out.app1 HW1.out hgrow hown1 hat) (app_low HN.out.rx HW1.out hgrow HN.out.los))
                have q1 : w3.cell? ⟨sb, 1, none⟩ = some (.slice x k cx) := cell_of_block (off := 1) HX3.out.1.1.blk
                have q2 : w3.cell? ⟨sb, 2, none⟩ = some (.slice y k cy) := cell_of_block (off := 2) HX3.out.1.1.blk
                have hsb3 : sb < w3.heap.size := lt_of_block HX3.out.1.1.blk
                clear hown1 hgrow hat hlt2
                refine hK.out _ _ (trivial) (fun hHeld => ?_)
                clear hK K
                try simp only [Act.put, List.setIfInBounds_toArray]
                refine wpAnyH_ready (rs := [13]) (by kernel_rfl) (by simp) ?_
                refine AllReadyH.cons (o := _) rfl (fun K hK => ?_) ?_
                · go_simp
                  go_at_call 31
                  refine (of_nil _).mono ?_
                  rintro e w4 ⟨rfl, hw4⟩
                  have HW4 := Lib.hid hw4
                  have G4 := Lib.hid (show Grow w3 w4 by rw [hw4]; exact grow_one _ _)
                  have s1 := (below_cell G4.out hsb3).trans q1
                  have s2 := (below_cell G4.out hsb3).trans q2
                  have hsb4 : sb < w4.heap.size := Nat.lt_of_lt_of_le hsb3 G4.out.size
                  clear hw4
                  refine hK.out _ _ (trivial) (fun hHeld => ?_)
                  clear hK K
                  try simp only [Act.put, List.setIfInBounds_toArray, List.set_cons_zero, List.set_cons_succ]
                  refine wpAnyH_ready (rs := [14]) (by kernel_rfl) (by simp) ?_
                  refine AllReadyH.cons (o := _) rfl (fun K hK => ?_) ?_
                  · go_simp
                    refine hK.out _ _ (trivial) (fun hHeld => ?_)
                    clear hK K
                    try simp only [Act.put, List.setIfInBounds_toArray, List.set_cons_zero, List.set_cons_succ]
                    refine wpAnyH_ready (rs := [15]) (by kernel_rfl) (by simp) ?_
                    refine AllReadyH.cons (o := _) rfl (fun K hK => ?_) ?_
                    · refine step_append_lies _ (by rfl) (.tmp 38) (.tmp 40) 78 (by rfl) sb 81 i0 _ 1 8 Try.underlying78 hi0 hz0 hz1 hz2 rfl (by decide) (.slice y k cy) k _ (by rfl) (own_go HX3.out.1.1.ry (G4.out.trans (grow_one w4 _))) ⟨w4.heap.size, 0, none⟩ 1 1 [.pointer (some ⟨w3.heap.size, 0, none⟩)] (by rfl) (by rfl) (news81 _ w4.heap.size rfl #[.pointer (some ⟨w3.heap.size, 0, none⟩)]) (by simp [Value.oneCell']) (by omega) (by simp only [maxLen]; omega) (by omega) (by simp; omega) (w4.heap.size + 1) (by simp) ?_
                      intro gy cpy w6 hown2 hgrow2 hat2 hlt3
                      have HX6 := Lib.hid (And.intro (HX3.out.1.1.app2 HW4.out hgrow2 hown2 hat2) (HX3.out.2.trans (app_low HX3.out.1.1.ry HW4.out hgrow2 HX3.out.1.1.los)))
                      have t1 : w6.cell? ⟨sb, 1, none⟩ = some (.slice x k cx) := cell_of_block (off := 1) HX6.out.1.1.blk
                      have t2 : w6.cell? ⟨sb, 2, none⟩ = some (.slice y k cy) := cell_of_block (off := 2) HX6.out.1.1.blk
                      have f1 : w6.frozen? ⟨sb, 1, none⟩ = false := free_of_block HX6.out.1.1.blk
                      have f2 : w6.frozen? ⟨sb, 2, none⟩ = false := free_of_block HX6.out.1.1.blk
                      have hsb6 : sb < w6.heap.size := lt_of_block HX6.out.1.1.blk
                      clear hown2 hgrow2 hat2 hlt3
                      refine hK.out _ _ (trivial) (fun hHeld => ?_)
                      clear hK K
                      try simp only [Act.put, List.setIfInBounds_toArray]
                      refine wpAnyH_take (i := 16) (v := ?_) rfl (by kernel_rfl) (by kernel_rfl) (by kernel_rfl) (fun _ _ _ h => h) (Or.inl ⟨by rfl, ?_⟩) (by with_reducible assumption) ?_
                      rotate_left
                      · intro w hSw
                        try dsimp only at hSw
                        go_simp
                        try with_reducible rfl
                      try simp only [Act.put]
                      refine wpAnyH_take (i := 17) (v := ?_) rfl (by kernel_rfl) (by kernel_rfl) (by kernel_rfl) (fun _ _ _ h => h) (Or.inl ⟨by rfl, ?_⟩) (by with_reducible assumption) ?_
                      rotate_left
                      · intro w hSw
                        try dsimp only at hSw
                        go_simp
                        try with_reducible rfl
                      try simp only [Act.put]
                      refine wpAnyH_ready (rs := [18]) (by kernel_rfl) (by simp) ?_
                      refine AllReadyH.cons (o := _) rfl (fun K hK => ?_) ?_
                      · go_simp
                        refine hK.out _ _ (trivial) (fun hHeld => ?_)
                        clear hK K
                        try simp only [Act.put, List.setIfInBounds_toArray, List.set_cons_zero, List.set_cons_succ]
                        refine wpAnyH_take (i := 19) (v := ?_) rfl (by kernel_rfl) (by kernel_rfl) (by kernel_rfl) (fun _ _ _ h => h) (Or.inl ⟨by rfl, ?_⟩) (by with_reducible assumption) ?_
                        rotate_left
                        · intro w hSw
                          try dsimp only at hSw
                          go_simp
                          try with_reducible rfl
                        try simp only [Act.put, List.setIfInBounds_toArray]
                        refine wpAnyH_take (i := 20) (v := ?_) rfl (by kernel_rfl) (by kernel_rfl) (by kernel_rfl) (fun _ _ _ h => h) (Or.inl ⟨by rfl, ?_⟩) (by with_reducible assumption) ?_
                        rotate_left
                        · intro w hSw
                          try dsimp only at hSw
                          go_simp
                          try with_reducible rfl
                        try simp only [Act.put]
                        refine wpAnyH_ready (rs := [21]) (by kernel_rfl) (by simp) ?_
                        refine AllReadyH.cons (o := _) rfl (fun K hK => ?_) ?_
                        · go_simp
                          refine hK.out _ _ (trivial) (fun hHeld => ?_)
                          clear hK K
                          try simp only [Act.put, List.setIfInBounds_toArray, List.set_cons_zero, List.set_cons_succ]
                          refine wpAnyH_done (by kernel_rfl) ?_ _
                          go_wp2
                          go_roundw
                          case rel => exact ⟨k + 1, by omega, by go_num, _, _, _, _, _, _, HX6.out.1.1.put.1, made_put HBL.out HX6.out.2 HX6.out.1.1⟩
                          case measure => simp [intOf] <;> omega
                        exact AllReadyH.nil
                      exact AllReadyH.nil
                    exact AllReadyH.nil
                  exact AllReadyH.nil
                exact AllReadyH.nil
              exact AllReadyH.nil
            exact AllReadyH.nil
          exact AllReadyH.nil
        refine AllReadyH.cons (o := _) rfl (fun K hK => ?_) ?_
        · go_simp
          refine hK.out _ _ (trivial) (fun hHeld => ?_)
          clear hK K
          try simp only [Act.put, List.setIfInBounds_toArray, List.set_cons_zero, List.set_cons_succ]
          refine wpAnyH_ready (rs := [6]) (by kernel_rfl) (by simp) ?_
          refine AllReadyH.cons (o := _) rfl (fun K hK => ?_) ?_
          · go_simp
            go_at_call 31
            refine (of_nil _).mono ?_
            rintro e w1 ⟨rfl, hw1⟩
            have HW1 := Lib.hid hw1
            have G1 := Lib.hid (show Grow W0 w1 by rw [hw1]; exact grow_one _ _)
            have p1 := (below_cell G1.out hsb0).trans d1
            have p2 := (below_cell G1.out hsb0).trans d2
            have hsb1 : sb < w1.heap.size := Nat.lt_of_lt_of_le hsb0 G1.out.size
            clear hw1
            refine hK.out _ _ (trivial) (fun hHeld => ?_)
            clear hK K
            try simp only [Act.put, List.setIfInBounds_toArray, List.set_cons_zero, List.set_cons_succ]
            refine wpAnyH_ready (rs := [7]) (by kernel_rfl) (by simp) ?_
            refine AllReadyH.cons (o := _) rfl (fun K hK => ?_) ?_
            · go_simp
              refine hK.out _ _ (trivial) (fun hHeld => ?_)
              clear hK K
              try simp only [Act.put, List.setIfInBounds_toArray, List.set_cons_zero, List.set_cons_succ]
              refine wpAnyH_ready (rs := [8]) (by kernel_rfl) (by simp) ?_
              refine AllReadyH.cons (o := _) rfl (fun K hK => ?_) ?_
              · refine step_append_lies _ (by rfl) (.tmp 31) (.tmp 33) 78 (by rfl) sb 81 i0 _ 1 8 Try.underlying78 hi0 hz0 hz1 hz2 rfl (by decide) (.slice x k cx) k _ (by rfl) (own_go HN.out.rx (G1.out.trans (grow_one w1 _))) ⟨w1.heap.size, 0, none⟩ 1 1 [.pointer (some ⟨W0.heap.size, 0, none⟩)] (by rfl) (by rfl) (news81 _ w1.heap.size rfl #[.pointer (some ⟨W0.heap.size, 0, none⟩)]) (by simp [Value.oneCell']) (by omega) (by simp only [maxLen]; omega) (by omega) (by simp; omega) (w1.heap.size + 1) (by simp) ?_
                intro gx cpx w3 hown1 hgrow hat hlt2
                have HX3 := Lib.hid (And.intro (HN.out.app1 HW1.out hgrow hown1 hat) (app_low HN.out.rx HW1.out hgrow HN.out.los))
                have q1 : w3.cell? ⟨sb, 1, none⟩ = some (.slice x k cx) := cell_of_block (off := 1) HX3.out.1.1.blk
                have q2 : w3.cell? ⟨sb, 2, none⟩ = some (.slice y k cy) := cell_of_block (off := 2) HX3.out.1.1.blk
                have hsb3 : sb < w3.heap.size := lt_of_block HX3.out.1.1.blk
                clear hown1 hgrow hat hlt2
                refine hK.out _ _ (trivial) (fun hHeld => ?_)
                clear hK K
                try simp only [Act.put, List.setIfInBounds_toArray]
                refine wpAnyH_ready (rs := [13]) (by kernel_rfl) (by simp) ?_
                refine AllReadyH.cons (o := _) rfl (fun K hK => ?_) ?_
                · go_simp
                  go_at_call 31
                  refine (of_nil _).mono ?_
                  rintro e w4 ⟨rfl, hw4⟩
                  have HW4 := Lib.hid hw4
                  have G4 := Lib.hid (show Grow w3 w4 by rw [hw4]; exact grow_one _ _)
                  have s1 := (below_cell G4.out hsb3).trans q1
                  have s2 := (below_cell G4.out hsb3).trans q2
                  have hsb4 : sb < w4.heap.size := Nat.lt_of_lt_of_le hsb3 G4.out.size
                  clear hw4
                  refine hK.out _ _ (trivial) (fun hHeld => ?_)
                  clear hK K
                  try simp only [Act.put, List.setIfInBounds_toArray, List.set_cons_zero, List.set_cons_succ]
                  refine wpAnyH_ready (rs := [14]) (by kernel_rfl) (by simp) ?_
                  refine AllReadyH.cons (o := _) rfl (fun K hK => ?_) ?_
                  · go_simp
                    refine hK.out _ _ (trivial) (fun hHeld => ?_)
                    clear hK K
                    try simp only [Act.put, List.setIfInBounds_toArray, List.set_cons_zero, List.set_cons_succ]
                    refine wpAnyH_ready (rs := [15]) (by kernel_rfl) (by simp) ?_
                    refine AllReadyH.cons (o := _) rfl (fun K hK => ?_) ?_
                    · refine step_append_lies _ (by rfl) (.tmp 38) (.tmp 40) 78 (by rfl) sb 81 i0 _ 1 8 Try.underlying78 hi0 hz0 hz1 hz2 rfl (by decide) (.slice y k cy) k _ (by rfl) (own_go HX3.out.1.1.ry (G4.out.trans (grow_one w4 _))) ⟨w4.heap.size, 0, none⟩ 1 1 [.pointer (some ⟨w3.heap.size, 0, none⟩)] (by rfl) (by rfl) (news81 _ w4.heap.size rfl #[.pointer (some ⟨w3.heap.size, 0, none⟩)]) (by simp [Value.oneCell']) (by omega) (by simp only [maxLen]; omega) (by omega) (by simp; omega) (w4.heap.size + 1) (by simp) ?_
                      intro gy cpy w6 hown2 hgrow2 hat2 hlt3
                      have HX6 := Lib.hid (And.intro (HX3.out.1.1.app2 HW4.out hgrow2 hown2 hat2) (HX3.out.2.trans (app_low HX3.out.1.1.ry HW4.out hgrow2 HX3.out.1.1.los)))
                      have t1 : w6.cell? ⟨sb, 1, none⟩ = some (.slice x k cx) := cell_of_block (off := 1) HX6.out.1.1.blk
                      have t2 : w6.cell? ⟨sb, 2, none⟩ = some (.slice y k cy) := cell_of_block (off := 2) HX6.out.1.1.blk
                      have f1 : w6.frozen? ⟨sb, 1, none⟩ = false := free_of_block HX6.out.1.1.blk
                      have f2 : w6.frozen? ⟨sb, 2, none⟩ = false := free_of_block HX6.out.1.1.blk
                      have hsb6 : sb < w6.heap.size := lt_of_block HX6.out.1.1.blk
                      clear hown2 hgrow2 hat2 hlt3
                      refine hK.out _ _ (trivial) (fun hHeld => ?_)
                      clear hK K
                      try simp only [Act.put, List.setIfInBounds_toArray]
                      refine wpAnyH_take (i := 16) (v := ?_) rfl (by kernel_rfl) (by kernel_rfl) (by kernel_rfl) (fun _ _ _ h => h) (Or.inl ⟨by rfl, ?_⟩) (by with_reducible assumption) ?_
                      rotate_left
                      · intro w hSw
                        try dsimp only at hSw
                        go_simp
                        try with_reducible rfl
                      try simp only [Act.put]
                      refine wpAnyH_take (i := 17) (v := ?_) rfl (by kernel_rfl) (by kernel_rfl) (by kernel_rfl) (fun _ _ _ h => h) (Or.inl ⟨by rfl, ?_⟩) (by with_reducible assumption) ?_
                      rotate_left
                      · intro w hSw
                        try dsimp only at hSw
                        go_simp
                        try with_reducible rfl
                      try simp only [Act.put]
                      refine wpAnyH_ready (rs := [18]) (by kernel_rfl) (by simp) ?_
                      refine AllReadyH.cons (o := _) rfl (fun K hK => ?_) ?_
                      · go_simp
                        refine hK.out _ _ (trivial) (fun hHeld => ?_)
                        clear hK K
                        try simp only [Act.put, List.setIfInBounds_toArray, List.set_cons_zero, List.set_cons_succ]
                        refine wpAnyH_take (i := 19) (v := ?_) rfl (by kernel_rfl) (by kernel_rfl) (by kernel_rfl) (fun _ _ _ h => h) (Or.inl ⟨by rfl, ?_⟩) (by with_reducible assumption) ?_
                        rotate_left
                        · intro w hSw
                          try dsimp only at hSw
                          go_simp
                          try with_reducible rfl
                        try simp only [Act.put, List.setIfInBounds_toArray]
                        refine wpAnyH_take (i := 20) (v := ?_) rfl (by kernel_rfl) (by kernel_rfl) (by kernel_rfl) (fun _ _ _ h => h) (Or.inl ⟨by rfl, ?_⟩) (by with_reducible assumption) ?_
                        rotate_left
                        · intro w hSw
                          try dsimp only at hSw
                          go_simp
                          try with_reducible rfl
                        try simp only [Act.put]
                        refine wpAnyH_ready (rs := [21]) (by kernel_rfl) (by simp) ?_
                        refine AllReadyH.cons (o := _) rfl (fun K hK => ?_) ?_
                        · go_simp
                          refine hK.out _ _ (trivial) (fun hHeld => ?_)
                          clear hK K
                          try simp only [Act.put, List.setIfInBounds_toArray, List.set_cons_zero, List.set_cons_succ]
                          refine wpAnyH_done (by kernel_rfl) ?_ _
                          go_wp2
                          go_roundw
                          case rel => exact ⟨k + 1, by omega, by go_num, _, _, _, _, _, _, HX6.out.1.1.put.1, made_put HBL.out HX6.out.2 HX6.out.1.1⟩
                          case measure => simp [intOf] <;> omega
                        exact AllReadyH.nil
                      exact AllReadyH.nil
                    exact AllReadyH.nil
                  exact AllReadyH.nil
                exact AllReadyH.nil
              exact AllReadyH.nil
            exact AllReadyH.nil
          exact AllReadyH.nil
        exact AllReadyH.nil
      refine AllReadyH.cons (o := _) rfl (fun K hK => ?_) ?_
      · go_simp
        go_at_call 31
        refine (of_nil _).mono ?_
        rintro e w1 ⟨rfl, hw1⟩
        have HW1 := Lib.hid hw1
        have G1 := Lib.hid (show Grow W0 w1 by rw [hw1]; exact grow_one _ _)
        have p1 := (below_cell G1.out hsb0).trans d1
        have p2 := (below_cell G1.out hsb0).trans d2
        have hsb1 : sb < w1.heap.size := Nat.lt_of_lt_of_le hsb0 G1.out.size
        clear hw1
        refine hK.out _ _ (trivial) (fun hHeld => ?_)
        clear hK K
        try simp only [Act.put, List.setIfInBounds_toArray, List.set_cons_zero, List.set_cons_succ]
        refine wpAnyH_ready (rs := [5, 7, 12]) (by kernel_rfl) (by simp) ?_
        refine AllReadyH.cons (o := _) rfl (fun K hK => ?_) ?_
        · go_simp
          refine hK.out _ _ (trivial) (fun hHeld => ?_)
          clear hK K
          try simp only [Act.put, List.setIfInBounds_toArray, List.set_cons_zero, List.set_cons_succ]
          refine wpAnyH_ready (rs := [7, 12]) (by kernel_rfl) (by simp) ?_
          refine AllReadyH.cons (o := _) rfl (fun K hK => ?_) ?_
          · go_simp
            refine hK.out _ _ (trivial) (fun hHeld => ?_)
            clear hK K
            try simp only [Act.put, List.setIfInBounds_toArray, List.set_cons_zero, List.set_cons_succ]
            refine wpAnyH_ready (rs := [8, 12]) (by kernel_rfl) (by simp) ?_
            refine AllReadyH.cons (o := _) rfl (fun K hK => ?_) ?_
            · refine step_append_lies _ (by rfl) (.tmp 31) (.tmp 33) 78 (by rfl) sb 81 i0 _ 1 8 Try.underlying78 hi0 hz0 hz1 hz2 rfl (by decide) (.slice x k cx) k _ (by rfl) (own_go HN.out.rx (G1.out.trans (grow_one w1 _))) ⟨w1.heap.size, 0, none⟩ 1 1 [.pointer (some ⟨W0.heap.size, 0, none⟩)] (by rfl) (by rfl) (news81 _ w1.heap.size rfl #[.pointer (some ⟨W0.heap.size, 0, none⟩)]) (by simp [Value.oneCell']) (by omega) (by simp only [maxLen]; omega) (by omega) (by simp; omega) (w1.heap.size + 1) (by simp) ?_
              intro gx cpx w3 hown1 hgrow hat hlt2
              have HX3 := Lib.hid (And.intro (HN.out.app1 HW1.out hgrow hown1 hat) (app_low HN.out.rx HW1.out hgrow HN.out.los))
              have q1 : w3.cell? ⟨sb, 1, none⟩ = some (.slice x k cx) := cell_of_block (off := 1) HX3.out.1.1.blk
              have q2 : w3.cell? ⟨sb, 2, none⟩ = some (.slice y k cy) := cell_of_block (off := 2) HX3.out.1.1.blk
              have hsb3 : sb < w3.heap.size := lt_of_block HX3.out.1.1.blk
              clear hown1 hgrow hat hlt2
              refine hK.out _ _ (trivial) (fun hHeld => ?_)
              clear hK K
              try simp only [Act.put, List.setIfInBounds_toArray]
              refine wpAnyH_ready (rs := [12, 13]) (by kernel_rfl) (by simp) ?_
              refine AllReadyH.cons (o := _) rfl (fun K hK => ?_) ?_
              · go_simp
                refine hK.out _ _ (trivial) (fun hHeld => ?_)
                clear hK K
                try simp only [Act.put, List.setIfInBounds_toArray, List.set_cons_zero, List.set_cons_succ]
                refine wpAnyH_ready (rs := [13]) (by kernel_rfl) (by simp) ?_
                refine AllReadyH.cons (o := _) rfl (fun K hK => ?_) ?_
                · go_simp
                  go_at_call 31
                  refine (of_nil _).mono ?_
                  rintro e w4 ⟨rfl, hw4⟩
                  have HW4 := Lib.hid hw4
                  have G4 := Lib.hid (show Grow w3 w4 by rw [hw4]; exact grow_one _ _)
                  have s1 := (below_cell G4.out hsb3).trans q1
                  have s2 := (below_cell G4.out hsb3).trans q2
                  have hsb4 : sb < w4.heap.size := Nat.lt_of_lt_of_le hsb3 G4.out.size
                  clear hw4
                  refine hK.out _ _ (trivial) (fun hHeld => ?_)
                  clear hK K
                  try simp only [Act.put, List.setIfInBounds_toArray, List.set_cons_zero, List.set_cons_succ]
                  refine wpAnyH_ready (rs := [14]) (by kernel_rfl) (by simp) ?_
                  refine AllReadyH.cons (o := _) rfl (fun K hK => ?_) ?_
                  · go_simp
                    refine hK.out _ _ (trivial) (fun hHeld => ?_)
                    clear hK K
                    try simp only [Act.put, List.setIfInBounds_toArray, List.set_cons_zero, List.set_cons_succ]
                    refine wpAnyH_ready (rs := [15]) (by kernel_rfl) (by simp) ?_
                    refine AllReadyH.cons (o := _) rfl (fun K hK => ?_) ?_
                    · refine step_append_lies _ (by rfl) (.tmp 38) (.tmp 40) 78 (by rfl) sb 81 i0 _ 1 8 Try.underlying78 hi0 hz0 hz1 hz2 rfl (by decide) (.slice y k cy) k _ (by rfl) (own_go HX3.out.1.1.ry (G4.out.trans (grow_one w4 _))) ⟨w4.heap.size, 0, none⟩ 1 1 [.pointer (some ⟨w3.heap.size, 0, none⟩)] (by rfl) (by rfl) (news81 _ w4.heap.size rfl #[.pointer (some ⟨w3.heap.size, 0, none⟩)]) (by simp [Value.oneCell']) (by omega) (by simp only [maxLen]; omega) (by omega) (by simp; omega) (w4.heap.size + 1) (by simp) ?_
                      intro gy cpy w6 hown2 hgrow2 hat2 hlt3
                      have HX6 := Lib.hid (And.intro (HX3.out.1.1.app2 HW4.out hgrow2 hown2 hat2) (HX3.out.2.trans (app_low HX3.out.1.1.ry HW4.out hgrow2 HX3.out.1.1.los)))
                      have t1 : w6.cell? ⟨sb, 1, none⟩ = some (.slice x k cx) := cell_of_block (off := 1) HX6.out.1.1.blk
                      have t2 : w6.cell? ⟨sb, 2, none⟩ = some (.slice y k cy) := cell_of_block (off := 2) HX6.out.1.1.blk
                      have f1 : w6.frozen? ⟨sb, 1, none⟩ = false := free_of_block HX6.out.1.1.blk
                      have f2 : w6.frozen? ⟨sb, 2, none⟩ = false := free_of_block HX6.out.1.1.blk
                      have hsb6 : sb < w6.heap.size := lt_of_block HX6.out.1.1.blk
                      clear hown2 hgrow2 hat2 hlt3
                      refine hK.out _ _ (trivial) (fun hHeld => ?_)
                      clear hK K
                      try simp only [Act.put, List.setIfInBounds_toArray]
                      refine wpAnyH_take (i := 16) (v := ?_) rfl (by kernel_rfl) (by kernel_rfl) (by kernel_rfl) (fun _ _ _ h => h) (Or.inl ⟨by rfl, ?_⟩) (by with_reducible assumption) ?_
                      rotate_left
                      · intro w hSw
                        try dsimp only at hSw
                        go_simp
                        try with_reducible rfl
                      try simp only [Act.put]
                      refine wpAnyH_take (i := 17) (v := ?_) rfl (by kernel_rfl) (by kernel_rfl) (by kernel_rfl) (fun _ _ _ h => h) (Or.inl ⟨by rfl, ?_⟩) (by with_reducible assumption) ?_
                      rotate_left
                      · intro w hSw
                        try dsimp only at hSw
                        go_simp
                        try with_reducible rfl
                      try simp only [Act.put]
                      refine wpAnyH_ready (rs := [18]) (by kernel_rfl) (by simp) ?_
                      refine AllReadyH.cons (o := _) rfl (fun K hK => ?_) ?_
                      · go_simp
                        refine hK.out _ _ (trivial) (fun hHeld => ?_)
                        clear hK K
                        try simp only [Act.put, List.setIfInBounds_toArray, List.set_cons_zero, List.set_cons_succ]
                        refine wpAnyH_take (i := 19) (v := ?_) rfl (by kernel_rfl) (by kernel_rfl) (by kernel_rfl) (fun _ _ _ h => h) (Or.inl ⟨by rfl, ?_⟩) (by with_reducible assumption) ?_
                        rotate_left
                        · intro w hSw
                          try dsimp only at hSw
                          go_simp
                          try with_reducible rfl
                        try simp only [Act.put, List.setIfInBounds_toArray]
                        refine wpAnyH_take (i := 20) (v := ?_) rfl (by kernel_rfl) (by kernel_rfl) (by kernel_rfl) (fun _ _ _ h => h) (Or.inl ⟨by rfl, ?_⟩) (by with_reducible assumption) ?_
                        rotate_left
                        · intro w hSw
                          try dsimp only at hSw
                          go_simp
                          try with_reducible rfl
                        try simp only [Act.put]
                        refine wpAnyH_ready (rs := [21]) (by kernel_rfl) (by simp) ?_
                        refine AllReadyH.cons (o := _) rfl (fun K hK => ?_) ?_
                        · go_simp
                          refine hK.out _ _ (trivial) (fun hHeld => ?_)
                          clear hK K
                          try simp only [Act.put, List.setIfInBounds_toArray, List.set_cons_zero, List.set_cons_succ]
                          refine wpAnyH_done (by kernel_rfl) ?_ _
                          go_wp2
                          go_roundw
                          case rel => exact ⟨k + 1, by omega, by go_num, _, _, _, _, _, _, HX6.out.1.1.put.1, made_put HBL.out HX6.out.2 HX6.out.1.1⟩
                          case measure => simp [intOf] <;> omega
                        exact AllReadyH.nil
                      exact AllReadyH.nil
                    exact AllReadyH.nil
                  exact AllReadyH.nil
                exact AllReadyH.nil
              refine AllReadyH.cons (o := _) rfl (fun K hK => ?_) ?_
              · go_simp
                go_at_call 31
                refine (of_nil _).mono ?_
                rintro e w4 ⟨rfl, hw4⟩
                have HW4 := Lib.hid hw4
                have G4 := Lib.hid (show Grow w3 w4 by rw [hw4]; exact grow_one _ _)
                have s1 := (below_cell G4.out hsb3).trans q1
                have s2 := (below_cell G4.out hsb3).trans q2
                have hsb4 : sb < w4.heap.size := Nat.lt_of_lt_of_le hsb3 G4.out.size
                clear hw4
                refine hK.out _ _ (trivial) (fun hHeld => ?_)
                clear hK K
                try simp only [Act.put, List.setIfInBounds_toArray, List.set_cons_zero, List.set_cons_succ]
                refine wpAnyH_ready (rs := [12, 14]) (by kernel_rfl) (by simp) ?_
                refine AllReadyH.cons (o := _) rfl (fun K hK => ?_) ?_
                · go_simp
                  refine hK.out _ _ (trivial) (fun hHeld => ?_)
                  clear hK K
                  try simp only [Act.put, List.setIfInBounds_toArray, List.set_cons_zero, List.set_cons_succ]
                  refine wpAnyH_ready (rs := [14]) (by kernel_rfl) (by simp) ?_
                  refine AllReadyH.cons (o := _) rfl (fun K hK => ?_) ?_
                  · go_simp
                    refine hK.out _ _ (trivial) (fun hHeld => ?_)
                    clear hK K
                    try simp only [Act.put, List.setIfInBounds_toArray, List.set_cons_zero, List.set_cons_succ]
                    refine wpAnyH_ready (rs := [15]) (by kernel_rfl) (by simp) ?_
                    refine AllReadyH.cons (o := _) rfl (fun K hK => ?_) ?_
                    · refine step_append_lies _ (by rfl) (.tmp 38) (.tmp 40) 78 (by rfl) sb 81 i0 _ 1 8 Try.underlying78 hi0 hz0 hz1 hz2 rfl (by decide) (.slice y k cy) k _ (by rfl) (own_go HX3.out.1.1.ry (G4.out.trans (grow_one w4 _))) ⟨w4.heap.size, 0, none⟩ 1 1 [.pointer (some ⟨w3.heap.size, 0, none⟩)] (by rfl) (by rfl) (news81 _ w4.heap.size rfl #[.pointer (some ⟨w3.heap.size, 0, none⟩)]) (by simp [Value.oneCell']) (by omega) (by simp only [maxLen]; omega) (by omega) (by simp; omega) (w4.heap.size + 1) (by simp) ?_
                      intro gy cpy w6 hown2 hgrow2 hat2 hlt3
                      have HX6 := Lib.hid (And.intro (HX3.out.1.1.app2 HW4.out hgrow2 hown2 hat2) (HX3.out.2.trans (app_low HX3.out.1.1.ry HW4.out hgrow2 HX3.out.1.1.los)))
                      have t1 : w6.cell? ⟨sb, 1, none⟩ = some (.slice x k cx) := cell_of_block (off := 1) HX6.out.1.1.blk
                      have t2 : w6.cell? ⟨sb, 2, none⟩ = some (.slice y k cy) := cell_of_block (off := 2) HX6.out.1.1.blk
                      have f1 : w6.frozen? ⟨sb, 1, none⟩ = false := free_of_block HX6.out.1.1.blk
                      have f2 : w6.frozen? ⟨sb, 2, none⟩ = false := free_of_block HX6.out.1.1.blk
                      have hsb6 : sb < w6.heap.size := lt_of_block HX6.out.1.1.blk
                      clear hown2 hgrow2 hat2 hlt3
                      refine hK.out _ _ (trivial) (fun hHeld => ?_)
                      clear hK K
                      try simp only [Act.put, List.setIfInBounds_toArray]
                      refine wpAnyH_take (i := 16) (v := ?_) rfl (by kernel_rfl) (by kernel_rfl) (by kernel_rfl) (fun _ _ _ h => h) (Or.inl ⟨by rfl, ?_⟩) (by with_reducible assumption) ?_
                      rotate_left
                      · intro w hSw
                        try dsimp only at hSw
                        go_simp
                        try with_reducible rfl
                      try simp only [Act.put]
                      refine wpAnyH_take (i := 17) (v := ?_) rfl (by kernel_rfl) (by kernel_rfl) (by kernel_rfl) (fun _ _ _ h => h) (Or.inl ⟨by rfl, ?_⟩) (by with_reducible assumption) ?_
                      rotate_left
                      · intro w hSw
                        try dsimp only at hSw
                        go_simp
                        try with_reducible rfl
                      try simp only [Act.put]
                      refine wpAnyH_ready (rs := [18]) (by kernel_rfl) (by simp) ?_
                      refine AllReadyH.cons (o := _) rfl (fun K hK => ?_) ?_
                      · go_simp
                        refine hK.out _ _ (trivial) (fun hHeld => ?_)
                        clear hK K
                        try simp only [Act.put, List.setIfInBounds_toArray, List.set_cons_zero, List.set_cons_succ]
                        refine wpAnyH_take (i := 19) (v := ?_) rfl (by kernel_rfl) (by kernel_rfl) (by kernel_rfl) (fun _ _ _ h => h) (Or.inl ⟨by rfl, ?_⟩) (by with_reducible assumption) ?_
                        rotate_left
                        · intro w hSw
                          try dsimp only at hSw
                          go_simp
                          try with_reducible rfl
                        try simp only [Act.put, List.setIfInBounds_toArray]
                        refine wpAnyH_take (i := 20) (v := ?_) rfl (by kernel_rfl) (by kernel_rfl) (by kernel_rfl) (fun _ _ _ h => h) (Or.inl ⟨by rfl, ?_⟩) (by with_reducible assumption) ?_
                        rotate_left
                        · intro w hSw
                          try dsimp only at hSw
                          go_simp
                          try with_reducible rfl
                        try simp only [Act.put]
                        refine wpAnyH_ready (rs := [21]) (by kernel_rfl) (by simp) ?_
                        refine AllReadyH.cons (o := _) rfl (fun K hK => ?_) ?_
                        · go_simp
                          refine hK.out _ _ (trivial) (fun hHeld => ?_)
                          clear hK K
                          try simp only [Act.put, List.setIfInBounds_toArray, List.set_cons_zero, List.set_cons_succ]
                          refine wpAnyH_done (by kernel_rfl) ?_ _
                          go_wp2
                          go_roundw
                          case rel => exact ⟨k + 1, by omega, by go_num, _, _, _, _, _, _, HX6.out.1.1.put.1, made_put HBL.out HX6.out.2 HX6.out.1.1⟩
                          case measure => simp [intOf] <;> omega
                        exact AllReadyH.nil
                      exact AllReadyH.nil
                    exact AllReadyH.nil
                  exact AllReadyH.nil
                refine AllReadyH.cons (o := _) rfl (fun K hK => ?_) ?_
                · go_simp
                  refine hK.out _ _ (trivial) (fun hHeld => ?_)
                  clear hK K
                  try simp only [Act.put, List.setIfInBounds_toArray, List.set_cons_zero, List.set_cons_succ]
                  refine wpAnyH_ready (rs := [12]) (by kernel_rfl) (by simp) ?_
                  refine AllReadyH.cons (o := _) rfl (fun K hK => ?_) ?_
                  · go_simp
                    refine hK.out _ _ (trivial) (fun hHeld => ?_)
                    clear hK K
                    try simp only [Act.put, List.setIfInBounds_toArray, List.set_cons_zero, List.set_cons_succ]
                    refine wpAnyH_ready (rs := [15]) (by kernel_rfl) (by simp) ?_
                    refine AllReadyH.cons (o := _) rfl (fun K hK => ?_) ?_
                    · refine step_append_lies _ (by rfl) (.tmp 38) (.tmp 40) 78 (by rfl) sb 81 i0 _ 1 8 Try.underlying78 hi0 hz0 hz1 hz2 rfl (by decide) (.slice y k cy) k _ (by rfl) (own_go HX3.out.1.1.ry (G4.out.trans (grow_one w4 _))) ⟨w4.heap.size, 0, none⟩ 1 1 [.pointer (some ⟨w3.heap.size, 0, none⟩)] (by rfl) (by rfl) (news81 _ w4.heap.size rfl #[.pointer (some ⟨w3.heap.size, 0, none⟩)]) (by simp [Value.oneCell']) (by omega) (by simp only [maxLen]; omega) (by omega) (by simp; omega) (w4.heap.size + 1) (by simp) ?_
                      intro gy cpy w6 hown2 hgrow2 hat2 hlt3
                      have HX6 := Lib.hid (And.intro (HX3.out.1.1.app2 HW4.out hgrow2 hown2 hat2) (HX3.out.2.trans (app_low HX3.out.1.1.ry HW4.out hgrow2 HX3.out.1.1.los)))
                      have t1 : w6.cell? ⟨sb, 1, none⟩ = some (.slice x k cx) := cell_of_block (off := 1) HX6.out.1.1.blk
                      have t2 : w6.cell? ⟨sb, 2, none⟩ = some (.slice y k cy) := cell_of_block (off := 2) HX6.out.1.1.blk
                      have f1 : w6.frozen? ⟨sb, 1, none⟩ = false := free_of_block HX6.out.1.1.blk
                      have f2 : w6.frozen? ⟨sb, 2, none⟩ = false := free_of_block HX6.out.1.1.blk
                      have hsb6 : sb < w6.heap.size := lt_of_block HX6.out.1.1.blk
                      clear hown2 hgrow2 hat2 hlt3
                      refine hK.out _ _ (trivial) (fun hHeld => ?_)
                      clear hK K
                      try simp only [Act.put, List.setIfInBounds_toArray]
                      refine wpAnyH_take (i := 16) (v := ?_) rfl (by kernel_rfl) (by kernel_rfl) (by kernel_rfl) (fun _ _ _ h => h) (Or.inl ⟨by rfl, ?_⟩) (by with_reducible assumption) ?_
                      rotate_left
                      · intro w hSw
                        try dsimp only at hSw
                        go_simp
                        try with_reducible rfl
                      try simp only [Act.put]
                      refine wpAnyH_take (i := 17) (v := ?_) rfl (by kernel_rfl) (by kernel_rfl) (by kernel_rfl) (fun _ _ _ h => h) (Or.inl ⟨by rfl, ?_⟩) (by with_reducible assumption) ?_
                      rotate_left
                      · intro w hSw
                        try dsimp only at hSw
                        go_simp
                        try with_reducible rfl
                      try simp only [Act.put]
                      refine wpAnyH_ready (rs := [18]) (by kernel_rfl) (by simp) ?_
                      refine AllReadyH.cons (o := _) rfl (fun K hK => ?_) ?_
                      · go_simp
                        refine hK.out _ _ (trivial) (fun hHeld => ?_)
                        clear hK K
                        try simp only [Act.put, List.setIfInBounds_toArray, List.set_cons_zero, List.set_cons_succ]
                        refine wpAnyH_take (i := 19) (v := ?_) rfl (by kernel_rfl) (by kernel_rfl) (by kernel_rfl) (fun _ _ _ h => h) (Or.inl ⟨by rfl, ?_⟩) (by with_reducible assumption) ?_
                        rotate_left
                        · intro w hSw
                          try dsimp only at hSw
                          go_simp
                          try with_reducible rfl
                        try simp only [Act.put, List.setIfInBounds_toArray]
                        refine wpAnyH_take (i := 20) (v := ?_) rfl (by kernel_rfl) (by kernel_rfl) (by kernel_rfl) (fun _ _ _ h => h) (Or.inl ⟨by rfl, ?_⟩) (by with_reducible assumption) ?_
                        rotate_left
                        · intro w hSw
                          try dsimp only at hSw
                          go_simp
                          try with_reducible rfl
                        try simp only [Act.put]
                        refine wpAnyH_ready (rs := [21]) (by kernel_rfl) (by simp) ?_
                        refine AllReadyH.cons (o := _) rfl (fun K hK => ?_) ?_
                        · go_simp
                          refine hK.out _ _ (trivial) (fun hHeld => ?_)
                          clear hK K
                          try simp only [Act.put, List.setIfInBounds_toArray, List.set_cons_zero, List.set_cons_succ]
                          refine wpAnyH_done (by kernel_rfl) ?_ _
                          go_wp2
                          go_roundw
                          case rel => exact ⟨k + 1, by omega, by go_num, _, _, _, _, _, _, HX6.out.1.1.put.1, made_put HBL.out HX6.out.2 HX6.out.1.1⟩
                          case measure => simp [intOf] <;> omega
                        exact AllReadyH.nil
                      exact AllReadyH.nil
                    exact AllReadyH.nil
                  exact AllReadyH.nil
                exact AllReadyH.nil
              exact AllReadyH.nil
            refine AllReadyH.cons (o := _) rfl (fun K hK => ?_) ?_
            · go_simp
              refine hK.out _ _ (trivial) (fun hHeld => ?_)
              clear hK K
              try simp only [Act.put, List.setIfInBounds_toArray, List.set_cons_zero, List.set_cons_succ]
              refine wpAnyH_ready (rs := [8]) (by kernel_rfl) (by simp) ?_
              refine AllReadyH.cons (o := _) rfl (fun K hK => ?_) ?_
              · refine step_append_lies _ (by rfl) (.tmp 31) (.tmp 33) 78 (by rfl) sb 81 i0 _ 1 8 Try.underlying78 hi0 hz0 hz1 hz2 rfl (by decide) (.slice x k cx) k _ (by rfl) (own_go HN.out.rx (G1.out.trans (grow_one w1 _))) ⟨w1.heap.size, 0, none⟩ 1 1 [.pointer (some ⟨W0.heap.size, 0, none⟩)] (by rfl) (by rfl) (news81 _ w1.heap.size rfl #[.pointer (some ⟨W0.heap.size, 0, none⟩)]) (by simp [Value.oneCell']) (by omega) (by simp only [maxLen]; omega) (by omega) (by simp; omega) (w1.heap.size + 1) (by simp) ?_
                intro gx cpx w3 hown1 hgrow hat hlt2
                have HX3 := Lib.hid (And.intro (HN.out.app1 HW1.out hgrow hown1 hat) (app_low HN.out.rx HW1.out hgrow HN.out.los))
                have q1 : w3.cell? ⟨sb, 1, none⟩ = some (.slice x k cx) := cell_of_block (off := 1) HX3.out.1.1.blk
                have q2 : w3.cell? ⟨sb, 2, none⟩ = some (.slice y k cy) := cell_of_block (off := 2) HX3.out.1.1.blk
                have hsb3 : sb < w3.heap.size := lt_of_block HX3.out.1.1.blk
                clear hown1 hgrow hat hlt2
                refine hK.out _ _ (trivial) (fun hHeld => ?_)
                clear hK K
                try simp only [Act.put, List.setIfInBounds_toArray]
                refine wpAnyH_ready (rs := [13]) (by kernel_rfl) (by simp) ?_
                refine AllReadyH.cons (o := _) rfl (fun K hK => ?_) ?_
                · go_simp
                  go_at_call 31
                  refine (of_nil _).mono ?_
                  rintro e w4 ⟨rfl, hw4⟩
                  have HW4 := Lib.hid hw4
                  have G4 := Lib.hid (show Grow w3 w4 by rw [hw4]; exact grow_one _ _)
                  have s1 := (below_cell G4.out hsb3).trans q1
                  have s2 := (below_cell G4.out hsb3).trans q2
                  have hsb4 : sb < w4.heap.size := Nat.lt_of_lt_of_le hsb3 G4.out.size
                  clear hw4
                  refine hK.out _ _ (trivial) (fun hHeld => ?_)
                  clear hK K
                  try simp only [Act.put, List.setIfInBounds_toArray, List.set_cons_zero, List.set_cons_succ]
                  refine wpAnyH_ready (rs := [14]) (by kernel_rfl) (by simp) ?_
                  refine AllReadyH.cons (o := _) rfl (fun K hK => ?_) ?_
                  · go_simp
                    refine hK.out _ _ (trivial) (fun hHeld => ?_)
                    clear hK K
                    try simp only [Act.put, List.setIfInBounds_toArray, List.set_cons_zero, List.set_cons_succ]
                    refine wpAnyH_ready (rs := [15]) (by kernel_rfl) (by simp) ?_
                    refine AllReadyH.cons (o := _) rfl (fun K hK => ?_) ?_
                    · refine step_append_lies _ (by rfl) (.tmp 38) (.tmp 40) 78 (by rfl) sb 81 i0 _ 1 8 Try.underlying78 hi0 hz0 hz1 hz2 rfl (by decide) (.slice y k cy) k _ (by rfl) (own_go HX3.out.1.1.ry (G4.out.trans (grow_one w4 _))) ⟨w4.heap.size, 0, none⟩ 1 1 [.pointer (some ⟨w3.heap.size, 0, none⟩)] (by rfl) (by rfl) (news81 _ w4.heap.size rfl #[.pointer (some ⟨w3.heap.size, 0, none⟩)]) (by simp [Value.oneCell']) (by omega) (by simp only [maxLen]; omega) (by omega) (by simp; omega) (w4.heap.size + 1) (by simp) ?_
                      intro gy cpy w6 hown2 hgrow2 hat2 hlt3
                      have HX6 := Lib.hid (And.intro (HX3.out.1.1.app2 HW4.out hgrow2 hown2 hat2) (HX3.out.2.trans (app_low HX3.out.1.1.ry HW4.out hgrow2 HX3.out.1.1.los)))
                      have t1 : w6.cell? ⟨sb, 1, none⟩ = some (.slice x k cx) := cell_of_block (off := 1) HX6.out.1.1.blk
                      have t2 : w6.cell? ⟨sb, 2, none⟩ = some (.slice y k cy) := cell_of_block (off := 2) HX6.out.1.1.blk
                      have f1 : w6.frozen? ⟨sb, 1, none⟩ = false := free_of_block HX6.out.1.1.blk
                      have f2 : w6.frozen? ⟨sb, 2, none⟩ = false := free_of_block HX6.out.1.1.blk
                      have hsb6 : sb < w6.heap.size := lt_of_block HX6.out.1.1.blk
                      clear hown2 hgrow2 hat2 hlt3
                      refine hK.out _ _ (trivial) (fun hHeld => ?_)
                      clear hK K
                      try simp only [Act.put, List.setIfInBounds_toArray]
                      refine wpAnyH_take (i := 16) (v := ?_) rfl (by kernel_rfl) (by kernel_rfl) (by kernel_rfl) (fun _ _ _ h => h) (Or.inl ⟨by rfl, ?_⟩) (by with_reducible assumption) ?_
                      rotate_left
                      · intro w hSw
                        try dsimp only at hSw
                        go_simp
                        try with_reducible rfl
                      try simp only [Act.put]
                      refine wpAnyH_take (i := 17) (v := ?_) rfl (by kernel_rfl) (by kernel_rfl) (by kernel_rfl) (fun _ _ _ h => h) (Or.inl ⟨by rfl, ?_⟩) (by with_reducible assumption) ?_
                      rotate_left
                      · intro w hSw
                        try dsimp only at hSw
                        go_simp
                        try with_reducible rfl
                      try simp only [Act.put]
                      refine wpAnyH_ready (rs := [18]) (by kernel_rfl) (by simp) ?_
                      refine AllReadyH.cons (o := _) rfl (fun K hK => ?_) ?_
                      · go_simp
                        refine hK.out _ _ (trivial) (fun hHeld => ?_)
                        clear hK K
                        try simp only [Act.put, List.setIfInBounds_toArray, List.set_cons_zero, List.set_cons_succ]
                        refine wpAnyH_take (i := 19) (v := ?_) rfl (by kernel_rfl) (by kernel_rfl) (by kernel_rfl) (fun _ _ _ h => h) (Or.inl ⟨by rfl, ?_⟩) (by with_reducible assumption) ?_
                        rotate_left
                        · intro w hSw
                          try dsimp only at hSw
                          go_simp
                          try with_reducible rfl
                        try simp only [Act.put, List.setIfInBounds_toArray]
                        refine wpAnyH_take (i := 20) (v := ?_) rfl (by kernel_rfl) (by kernel_rfl) (by kernel_rfl) (fun _ _ _ h => h) (Or.inl ⟨by rfl, ?_⟩) (by with_reducible assumption) ?_
                        rotate_left
                        · intro w hSw
                          try dsimp only at hSw
                          go_simp
                          try with_reducible rfl
                        try simp only [Act.put]
                        refine wpAnyH_ready (rs := [21]) (by kernel_rfl) (by simp) ?_
                        refine AllReadyH.cons (o := _) rfl (fun K hK => ?_) ?_
                        · go_simp
                          refine hK.out _ _ (trivial) (fun hHeld => ?_)
                          clear hK K
                          try simp only [Act.put, List.setIfInBounds_toArray, List.set_cons_zero, List.set_cons_succ]
                          refine wpAnyH_done (by kernel_rfl) ?_ _
                          go_wp2
                          go_roundw
                          case rel => exact ⟨k + 1, by omega, by go_num, _, _, _, _, _, _, HX6.out.1.1.put.1, made_put HBL.out HX6.out.2 HX6.out.1.1⟩
                          case measure => simp [intOf] <;> omega
                        exact AllReadyH.nil
                      exact AllReadyH.nil
                    exact AllReadyH.nil
                  exact AllReadyH.nil
                exact AllReadyH.nil
              exact AllReadyH.nil
            exact AllReadyH.nil
          refine AllReadyH.cons (o := _) rfl (fun K hK => ?_) ?_
          · go_simp
            refine hK.out _ _ (trivial) (fun hHeld => ?_)
            clear hK K
            try simp only [Act.put, List.setIfInBounds_toArray, List.set_cons_zero, List.set_cons_succ]
            refine wpAnyH_ready (rs := [7]) (by kernel_rfl) (by simp) ?_
            refine AllReadyH.cons (o := _) rfl (fun K hK => ?_) ?_
            · go_simp
              refine hK.out _ _ (trivial) (fun hHeld => ?_)
              clear hK K
              try simp only [Act.put, List.setIfInBounds_toArray, List.set_cons_zero, List.set_cons_succ]
              refine wpAnyH_ready (rs := [8]) (by kernel_rfl) (by simp) ?_
              refine AllReadyH.cons (o := _) rfl (fun K hK => ?_) ?_
              · refine step_append_lies _ (by rfl) (.tmp 31) (.tmp 33) 78 (by rfl) sb 81 i0 _ 1 8 Try.underlying78 hi0 hz0 hz1 hz2 rfl (by decide) (.slice x k cx) k _ (by rfl) (own_go HN.out.rx (G1.out.trans (grow_one w1 _))) ⟨w1.heap.size, 0, none⟩ 1 1 [.pointer (some ⟨W0.heap.size, 0, none⟩)] (by rfl) (by rfl) (news81 _ w1.heap.size rfl #[.pointer (some ⟨W0.heap.size, 0, none⟩)]) (by simp [Value.oneCell']) (by omega) (by simp only [maxLen]; omega) (by omega) (by simp; omega) (w1.heap.size + 1) (by simp) ?_
                intro gx cpx w3 hown1 hgrow hat hlt2
                have HX3 := Lib.hid (And.intro (HN.out.app1 HW1.out hgrow hown1 hat) (app_low HN.out.rx HW1.out hgrow HN.out.los))
                have q1 : w3.cell? ⟨sb, 1, none⟩ = some (.slice x k cx) := cell_of_block (off := 1) HX3.out.1.1.blk
                have q2 : w3.cell? ⟨sb, 2, none⟩ = some (.slice y k cy) := cell_of_block (off := 2) HX3.out.1.1.blk
                have hsb3 : sb < w3.heap.size := lt_of_block HX3.out.1.1.blk
                clear hown1 hgrow hat hlt2
                refine hK.out _ _ (trivial) (fun hHeld => ?_)
                clear hK K
                try simp only [Act.put, List.setIfInBounds_toArray]
                refine wpAnyH_ready (rs := [13]) (by kernel_rfl) (by simp) ?_
                refine AllReadyH.cons (o := _) rfl (fun K hK => ?_) ?_
                · go_simp
                  go_at_call 31
                  refine (of_nil _).mono ?_
                  rintro e w4 ⟨rfl, hw4⟩
                  have HW4 := Lib.hid hw4
                  have G4 := Lib.hid (show Grow w3 w4 by rw [hw4]; exact grow_one _ _)
                  have s1 := (below_cell G4.out hsb3).trans q1
                  have s2 := (below_cell G4.out hsb3).trans q2
                  have hsb4 : sb < w4.heap.size := Nat.lt_of_lt_of_le hsb3 G4.out.size
                  clear hw4
                  refine hK.out _ _ (trivial) (fun hHeld => ?_)
                  clear hK K
                  try simp only [Act.put, List.setIfInBounds_toArray, List.set_cons_zero, List.set_cons_succ]
                  refine wpAnyH_ready (rs := [14]) (by kernel_rfl) (by simp) ?_
                  refine AllReadyH.cons (o := _) rfl (fun K hK => ?_) ?_
                  · go_simp
                    refine hK.out _ _ (trivial) (fun hHeld => ?_)
                    clear hK K
                    try simp only [Act.put, List.setIfInBounds_toArray, List.set_cons_zero, List.set_cons_succ]
                    refine wpAnyH_ready (rs := [15]) (by kernel_rfl) (by simp) ?_
                    refine AllReadyH.cons (o := _) rfl (fun K hK => ?_) ?_
                    · refine step_append_lies _ (by rfl) (.tmp 38) (.tmp 40) 78 (by rfl) sb 81 i0 _ 1 8 Try.underlying78 hi0 hz0 hz1 hz2 rfl (by decide) (.slice y k cy) k _ (by rfl) (own_go HX3.out.1.1.ry (G4.out.trans (grow_one w4 _))) ⟨w4.heap.size, 0, none⟩ 1 1 [.pointer (some ⟨w3.heap.size, 0, none⟩)] (by rfl) (by rfl) (news81 _ w4.heap.size rfl #[.pointer (some ⟨w3.heap.size, 0, none⟩)]) (by simp [Value.oneCell']) (by omega) (by simp only [maxLen]; omega) (by omega) (by simp; omega) (w4.heap.size + 1) (by simp) ?_
                      intro gy cpy w6 hown2 hgrow2 hat2 hlt3
                      have HX6 := Lib.hid (And.intro (HX3.out.1.1.app2 HW4.out hgrow2 hown2 hat2) (HX3.out.2.trans (app_low HX3.out.1.1.ry HW4.out hgrow2 HX3.out.1.1.los)))
                      have t1 : w6.cell? ⟨sb, 1, none⟩ = some (.slice x k cx) := cell_of_block (off := 1) HX6.out.1.1.blk
                      have t2 : w6.cell? ⟨sb, 2, none⟩ = some (.slice y k cy) := cell_of_block (off := 2) HX6.out.1.1.blk
                      have f1 : w6.frozen? ⟨sb, 1, none⟩ = false := free_of_block HX6.out.1.1.blk
                      have f2 : w6.frozen? ⟨sb, 2, none⟩ = false := free_of_block HX6.out.1.1.blk
                      have hsb6 : sb < w6.heap.size := lt_of_block HX6.out.1.1.blk
                      clear hown2 hgrow2 hat2 hlt3
                      refine hK.out _ _ (trivial) (fun hHeld => ?_)
                      clear hK K
                      try simp only [Act.put, List.setIfInBounds_toArray]
                      refine wpAnyH_take (i := 16) (v := ?_) rfl (by kernel_rfl) (by kernel_rfl) (by kernel_rfl) (fun _ _ _ h => h) (Or.inl ⟨by rfl, ?_⟩) (by with_reducible assumption) ?_
                      rotate_left
                      · intro w hSw
                        try dsimp only at hSw
                        go_simp
                        try with_reducible rfl
                      try simp only [Act.put]
                      refine wpAnyH_take (i := 17) (v := ?_) rfl (by kernel_rfl) (by kernel_rfl) (by kernel_rfl) (fun _ _ _ h => h) (Or.inl ⟨by rfl, ?_⟩) (by with_reducible assumption) ?_
                      rotate_left
                      · intro w hSw
                        try dsimp only at hSw
                        go_simp
                        try with_reducible rfl
                      try simp only [Act.put]
                      refine wpAnyH_ready (rs := [18]) (by kernel_rfl) (by simp) ?_
                      refine AllReadyH.cons (o := _) rfl (fun K hK => ?_) ?_
                      · go_simp
                        refine hK.out _ _ (trivial) (fun hHeld => ?_)
                        clear hK K
                        try simp only [Act.put, List.setIfInBounds_toArray, List.set_cons_zero, List.set_cons_succ]
                        refine wpAnyH_take (i := 19) (v := ?_) rfl (by kernel_rfl) (by kernel_rfl) (by kernel_rfl) (fun _ _ _ h => h) (Or.inl ⟨by rfl, ?_⟩) (by with_reducible assumption) ?_
                        rotate_left
                        · intro w hSw
                          try dsimp only at hSw
                          go_simp
                          try with_reducible rfl
                        try simp only [Act.put, List.setIfInBounds_toArray]
                        refine wpAnyH_take (i := 20) (v := ?_) rfl (by kernel_rfl) (by kernel_rfl) (by kernel_rfl) (fun _ _ _ h => h) (Or.inl ⟨by rfl, ?_⟩) (by with_reducible assumption) ?_
                        rotate_left
                        · intro w hSw
                          try dsimp only at hSw
                          go_simp
                          try with_reducible rfl
                        try simp only [Act.put]
                        refine wpAnyH_ready (rs := [21]) (by kernel_rfl) (by simp) ?_
                        refine AllReadyH.cons (o := _) rfl (fun K hK => ?_) ?_
                        · go_simp
                          refine hK.out _ _ (trivial) (fun hHeld => ?_)
                          clear hK K
                          try simp only [Act.put, List.setIfInBounds_toArray, List.set_cons_zero, List.set_cons_succ]
                          refine wpAnyH_done (by kernel_rfl) ?_ _
                          go_wp2
                          go_roundw
                          case rel => exact ⟨k + 1, by omega, by go_num, _, _, _, _, _, _, HX6.out.1.1.put.1, made_put HBL.out HX6.out.2 HX6.out.1.1⟩
                          case measure => simp [intOf] <;> omega
                        exact AllReadyH.nil
                      exact AllReadyH.nil
                    exact AllReadyH.nil
                  exact AllReadyH.nil
                exact AllReadyH.nil
              exact AllReadyH.nil
            exact AllReadyH.nil
          exact AllReadyH.nil
        refine AllReadyH.cons (o := _) rfl (fun K hK => ?_) ?_
        · go_simp
          refine hK.out _ _ (trivial) (fun hHeld => ?_)
          clear hK K
          try simp only [Act.put, List.setIfInBounds_toArray, List.set_cons_zero, List.set_cons_succ]
          refine wpAnyH_ready (rs := [5, 12]) (by kernel_rfl) (by simp) ?_
          refine AllReadyH.cons (o := _) rfl (fun K hK => ?_) ?_
          · go_simp
            refine hK.out _ _ (trivial) (fun hHeld => ?_)
            clear hK K
            try simp only [Act.put, List.setIfInBounds_toArray, List.set_cons_zero, List.set_cons_succ]
            refine wpAnyH_ready (rs := [8, 12]) (by kernel_rfl) (by simp) ?_
            refine AllReadyH.cons (o := _) rfl (fun K hK => ?_) ?_
            · refine step_append_lies _ (by rfl) (.tmp 31) (.tmp 33) 78 (by rfl) sb 81 i0 _ 1 8 Try.underlying78 hi0 hz0 hz1 hz2 rfl (by decide) (.slice x k cx) k _ (by rfl) (own_go HN.out.rx (G1.out.trans (grow_one w1 _))) ⟨w1.heap.size, 0, none⟩ 1 1 [.pointer (some ⟨W0.heap.size, 0, none⟩)] (by rfl) (by rfl) (news81 _ w1.heap.size rfl #[.pointer (some ⟨W0.heap.size, 0, none⟩)]) (by simp [Value.oneCell']) (by omega) (by simp only [maxLen]; omega) (by omega) (by simp; omega) (w1.heap.size + 1) (by simp) ?_
              intro gx cpx w3 hown1 hgrow hat hlt2
              have HX3 := Lib.hid (And.intro (HN.out.app1 HW1.out hgrow hown1 hat) (app_low HN.out.rx HW1.out hgrow HN.out.los))
              have q1 : w3.cell? ⟨sb, 1, none⟩ = some (.slice x k cx) := cell_of_block (off := 1) HX3.out.1.1.blk
              have q2 : w3.cell? ⟨sb, 2, none⟩ = some (.slice y k cy) := cell_of_block (off := 2) HX3.out.1.1.blk
              have hsb3 : sb < w3.heap.size := lt_of_block HX3.out.1.1.blk
              clear hown1 hgrow hat hlt2
              refine hK.out _ _ (trivial) (fun hHeld => ?_)
              clear hK K
              try simp only [Act.put, List.setIfInBounds_toArray]
              refine wpAnyH_ready (rs := [12, 13]) (by kernel_rfl) (by simp) ?_
              refine AllReadyH.cons (o := _) rfl (fun K hK => ?_) ?_
              · go_simp
                refine hK.out _ _ (trivial) (fun hHeld => ?_)
                clear hK K
                try simp only [Act.put, List.setIfInBounds_toArray, List.set_cons_zero, List.set_cons_succ]
                refine wpAnyH_ready (rs := [13]) (by kernel_rfl) (by simp) ?_
                refine AllReadyH.cons (o := _) rfl (fun K hK => ?_) ?_
                · go_simp
                  go_at_call 31
                  refine (of_nil _).mono ?_
                  rintro e w4 ⟨rfl, hw4⟩
                  have HW4 := Lib.hid hw4
                  have G4 := Lib.hid (show Grow w3 w4 by rw [hw4]; exact grow_one _ _)
                  have s1 := (below_cell G4.out hsb3).trans q1
                  have s2 := (below_cell G4.out hsb3).trans q2
                  have hsb4 : sb < w4.heap.size := Nat.lt_of_lt_of_le hsb3 G4.out.size
                  clear hw4
                  refine hK.out _ _ (trivial) (fun hHeld => ?_)
                  clear hK K
                  try simp only [Act.put, List.setIfInBounds_toArray, List.set_cons_zero, List.set_cons_succ]
                  refine wpAnyH_ready (rs := [14]) (by kernel_rfl) (by simp) ?_
                  refine AllReadyH.cons (o := _) rfl (fun K hK => ?_) ?_
                  · go_simp
                    refine hK.out _ _ (trivial) (fun hHeld => ?_)
                    clear hK K
                    try simp only [Act.put, List.setIfInBounds_toArray, List.set_cons_zero, List.set_cons_succ]
                    refine wpAnyH_ready (rs := [15]) (by kernel_rfl) (by simp) ?_
                    refine AllReadyH.cons (o := _) rfl (fun K hK => ?_) ?_
                    · refine step_append_lies _ (by rfl) (.tmp 38) (.tmp 40) 78 (by rfl) sb 81 i0 _ 1 8 Try.underlying78 hi0 hz0 hz1 hz2 rfl (by decide) (.slice y k cy) k _ (by rfl) (own_go HX3.out.1.1.ry (G4.out.trans (grow_one w4 _))) ⟨w4.heap.size, 0, none⟩ 1 1 [.pointer (some ⟨w3.heap.size, 0, none⟩)] (by rfl) (by rfl) (news81 _ w4.heap.size rfl #[.pointer (some ⟨w3.heap.size, 0, none⟩)]) (by simp [Value.oneCell']) (by omega) (by simp only [maxLen]; omega) (by omega) (by simp; omega) (w4.heap.size + 1) (by simp) ?_
                      intro gy cpy w6 hown2 hgrow2 hat2 hlt3
                      have HX6 := Lib.hid (And.intro (HX3.out.1.1.app2 HW4.out hgrow2 hown2 hat2) (HX3.out.2.trans (app_low HX3.out.1.1.ry HW4.out hgrow2 HX3.out.1.1.los)))
                      have t1 : w6.cell? ⟨sb, 1, none⟩ = some (.slice x k cx) := cell_of_block (off := 1) HX6.out.1.1.blk
                      have t2 : w6.cell? ⟨sb, 2, none⟩ = some (.slice y k cy) := cell_of_block (off := 2) HX6.out.1.1.blk
                      have f1 : w6.frozen? ⟨sb, 1, none⟩ = false := free_of_block HX6.out.1.1.blk
                      have f2 : w6.frozen? ⟨sb, 2, none⟩ = false := free_of_block HX6.out.1.1.blk
                      have hsb6 : sb < w6.heap.size := lt_of_block HX6.out.1.1.blk
                      clear hown2 hgrow2 hat2 hlt3
                      refine hK.out _ _ (trivial) (fun hHeld => ?_)
                      clear hK K
                      try simp only [Act.put, List.setIfInBounds_toArray]
                      refine wpAnyH_take (i := 16) (v := ?_) rfl (by kernel_rfl) (by kernel_rfl) (by kernel_rfl) (fun _ _ _ h => h) (Or.inl ⟨by rfl, ?_⟩) (by with_reducible assumption) ?_
                      rotate_left
                      · intro w hSw
                        try dsimp only at hSw
                        go_simp
                        try with_reducible rfl
                      try simp only [Act.put]
                      refine wpAnyH_take (i := 17) (v := ?_) rfl (by kernel_rfl) (by kernel_rfl) (by kernel_rfl) (fun _ _ _ h => h) (Or.inl ⟨by rfl, ?_⟩) (by with_reducible assumption) ?_
                      rotate_left
                      · intro w hSw
                        try dsimp only at hSw
                        go_simp
                        try with_reducible rfl
                      try simp only [Act.put]
                      refine wpAnyH_ready (rs := [18]) (by kernel_rfl) (by simp) ?_
                      refine AllReadyH.cons (o := _) rfl (fun K hK => ?_) ?_
                      · go_simp
                        refine hK.out _ _ (trivial) (fun hHeld => ?_)
                        clear hK K
                        try simp only [Act.put, List.setIfInBounds_toArray, List.set_cons_zero, List.set_cons_succ]
                        refine wpAnyH_take (i := 19) (v := ?_) rfl (by kernel_rfl) (by kernel_rfl) (by kernel_rfl) (fun _ _ _ h => h) (Or.inl ⟨by rfl, ?_⟩) (by with_reducible assumption) ?_
                        rotate_left
                        · intro w hSw
                          try dsimp only at hSw
                          go_simp
                          try with_reducible rfl
                        try simp only [Act.put, List.setIfInBounds_toArray]
                        refine wpAnyH_take (i := 20) (v := ?_) rfl (by kernel_rfl) (by kernel_rfl) (by kernel_rfl) (fun _ _ _ h => h) (Or.inl ⟨by rfl, ?_⟩) (by with_reducible assumption) ?_
                        rotate_left
                        · intro w hSw
                          try dsimp only at hSw
                          go_simp
                          try with_reducible rfl
                        try simp only [Act.put]
                        refine wpAnyH_ready (rs := [21]) (by kernel_rfl) (by simp) ?_
                        refine AllReadyH.cons (o := _) rfl (fun K hK => ?_) ?_
                        · go_simp
                          refine hK.out _ _ (trivial) (fun hHeld => ?_)
                          clear hK K
                          try simp only [Act.put, List.setIfInBounds_toArray, List.set_cons_zero, List.set_cons_succ]
                          refine wpAnyH_done (by kernel_rfl) ?_ _
                          go_wp2
                          go_roundw
                          case rel => exact ⟨k + 1, by omega, by go_num, _, _, _, _, _, _, HX6.out.1.1.put.1, made_put HBL.out HX6.out.2 HX6.out.1.1⟩
                          case measure => simp [intOf] <;> omega
                        exact AllReadyH.nil
                      exact AllReadyH.nil
                    exact AllReadyH.nil
                  exact AllReadyH.nil
                exact AllReadyH.nil
              refine AllReadyH.cons (o := _) rfl (fun K hK => ?_) ?_
              · go_simp
                go_at_call 31
                refine (of_nil _).mono ?_
                rintro e w4 ⟨rfl, hw4⟩
                have HW4 := Lib.hid hw4
                have G4 := Lib.hid (show Grow w3 w4 by rw [hw4]; exact grow_one _ _)
                have s1 := (below_cell G4.out hsb3).trans q1
                have s2 := (below_cell G4.out hsb3).trans q2
                have hsb4 : sb < w4.heap.size := Nat.lt_of_lt_of_le hsb3 G4.out.size
                clear hw4
                refine hK.out _ _ (trivial) (fun hHeld => ?_)
                clear hK K
                try simp only [Act.put, List.setIfInBounds_toArray, List.set_cons_zero, List.set_cons_succ]
                refine wpAnyH_ready (rs := [12, 14]) (by kernel_rfl) (by simp) ?_
                refine AllReadyH.cons (o := _) rfl (fun K hK => ?_) ?_
                · go_simp
                  refine hK.out _ _ (trivial) (fun hHeld => ?_)
                  clear hK K
                  try simp only [Act.put, List.setIfInBounds_toArray, List.set_cons_zero, List.set_cons_succ]
                  refine wpAnyH_ready (rs := [14]) (by kernel_rfl) (by simp) ?_
                  refine AllReadyH.cons (o := _) rfl (fun K hK => ?_) ?_
                  · go_simp
                    refine hK.out _ _ (trivial) (fun hHeld => ?_)
                    clear hK K
                    try simp only [Act.put, List.setIfInBounds_toArray, List.set_cons_zero, List.set_cons_succ]
                    refine wpAnyH_ready (rs := [15]) (by kernel_rfl) (by simp) ?_
                    refine AllReadyH.cons (o := _) rfl (fun K hK => ?_) ?_
                    · refine step_append_lies _ (by rfl) (.tmp 38) (.tmp 40) 78 (by rfl) sb 81 i0 _ 1 8 Try.underlying78 hi0 hz0 hz1 hz2 rfl (by decide) (.slice y k cy) k _ (by rfl) (own_go HX3.out.1.1.ry (G4.out.trans (grow_one w4 _))) ⟨w4.heap.size, 0, none⟩ 1 1 [.pointer (some ⟨w3.heap.size, 0, none⟩)] (by rfl) (by rfl) (news81 _ w4.heap.size rfl #[.pointer (some ⟨w3.heap.size, 0, none⟩)]) (by simp [Value.oneCell']) (by omega) (by simp only [maxLen]; omega) (by omega) (by simp; omega) (w4.heap.size + 1) (by simp) ?_
                      intro gy cpy w6 hown2 hgrow2 hat2 hlt3
                      have HX6 := Lib.hid (And.intro (HX3.out.1.1.app2 HW4.out hgrow2 hown2 hat2) (HX3.out.2.trans (app_low HX3.out.1.1.ry HW4.out hgrow2 HX3.out.1.1.los)))
                      have t1 : w6.cell? ⟨sb, 1, none⟩ = some (.slice x k cx) := cell_of_block (off := 1) HX6.out.1.1.blk
                      have t2 : w6.cell? ⟨sb, 2, none⟩ = some (.slice y k cy) := cell_of_block (off := 2) HX6.out.1.1.blk
                      have f1 : w6.frozen? ⟨sb, 1, none⟩ = false := free_of_block HX6.out.1.1.blk
                      have f2 : w6.frozen? ⟨sb, 2, none⟩ = false := free_of_block HX6.out.1.1.blk
                      have hsb6 : sb < w6.heap.size := lt_of_block HX6.out.1.1.blk
                      clear hown2 hgrow2 hat2 hlt3
                      refine hK.out _ _ (trivial) (fun hHeld => ?_)
                      clear hK K
                      try simp only [Act.put, List.setIfInBounds_toArray]
                      refine wpAnyH_take (i := 16) (v := ?_) rfl (by kernel_rfl) (by kernel_rfl) (by kernel_rfl) (fun _ _ _ h => h) (Or.inl ⟨by rfl, ?_⟩) (by with_reducible assumption) ?_
                      rotate_left
                      · intro w hSw
                        try dsimp only at hSw
                        go_simp
                        try with_reducible rfl
                      try simp only [Act.put]
                      refine wpAnyH_take (i := 17) (v := ?_) rfl (by kernel_rfl) (by kernel_rfl) (by kernel_rfl) (fun _ _ _ h => h) (Or.inl ⟨by rfl, ?_⟩) (by with_reducible assumption) ?_
                      rotate_left
                      · intro w hSw
                        try dsimp only at hSw
                        go_simp
                        try with_reducible rfl
                      try simp only [Act.put]
                      refine wpAnyH_ready (rs := [18]) (by kernel_rfl) (by simp) ?_
                      refine AllReadyH.cons (o := _) rfl (fun K hK => ?_) ?_
                      · go_simp
                        refine hK.out _ _ (trivial) (fun hHeld => ?_)
                        clear hK K
                        try simp only [Act.put, List.setIfInBounds_toArray, List.set_cons_zero, List.set_cons_succ]
                        refine wpAnyH_take (i := 19) (v := ?_) rfl (by kernel_rfl) (by kernel_rfl) (by kernel_rfl) (fun _ _ _ h => h) (Or.inl ⟨by rfl, ?_⟩) (by with_reducible assumption) ?_
                        rotate_left
                        · intro w hSw
                          try dsimp only at hSw
                          go_simp
                          try with_reducible rfl
                        try simp only [Act.put, List.setIfInBounds_toArray]
                        refine wpAnyH_take (i := 20) (v := ?_) rfl (by kernel_rfl) (by kernel_rfl) (by kernel_rfl) (fun _ _ _ h => h) (Or.inl ⟨by rfl, ?_⟩) (by with_reducible assumption) ?_
                        rotate_left
                        · intro w hSw
                          try dsimp only at hSw
                          go_simp
                          try with_reducible rfl
                        try simp only [Act.put]
                        refine wpAnyH_ready (rs := [21]) (by kernel_rfl) (by simp) ?_
                        refine AllReadyH.cons (o := _) rfl (fun K hK => ?_) ?_
                        · go_simp
                          refine hK.out _ _ (trivial) (fun hHeld => ?_)
                          clear hK K
                          try simp only [Act.put, List.setIfInBounds_toArray, List.set_cons_zero, List.set_cons_succ]
                          refine wpAnyH_done (by kernel_rfl) ?_ _
                          go_wp2
                          go_roundw
                          case rel => exact ⟨k + 1, by omega, by go_num, _, _, _, _, _, _, HX6.out.1.1.put.1, made_put HBL.out HX6.out.2 HX6.out.1.1⟩
                          case measure => simp [intOf] <;> omega
                        exact AllReadyH.nil
                      exact AllReadyH.nil
                    exact AllReadyH.nil
                  exact AllReadyH.nil
                refine AllReadyH.cons (o := _) rfl (fun K hK => ?_) ?_
                · go_simp
                  refine hK.out _ _ (trivial) (fun hHeld => ?_)
                  clear hK K
                  try simp only [Act.put, List.setIfInBounds_toArray, List.set_cons_zero, List.set_cons_succ]
                  refine wpAnyH_ready (rs := [12]) (by kernel_rfl) (by simp) ?_
                  refine AllReadyH.cons (o := _) rfl (fun K hK => ?_) ?_
                  · go_simp
                    refine hK.out _ _ (trivial) (fun hHeld => ?_)
                    clear hK K
                    try simp only [Act.put, List.setIfInBounds_toArray, List.set_cons_zero, List.set_cons_succ]
                    refine wpAnyH_ready (rs := [15]) (by kernel_rfl) (by simp) ?_
                    refine AllReadyH.cons (o := _) rfl (fun K hK => ?_) ?_
                    · refine step_append_lies _ (by rfl) (.tmp 38) (.tmp 40) 78 (by rfl) sb 81 i0 _ 1 8 Try.underlying78 hi0 hz0 hz1 hz2 rfl (by decide) (.slice y k cy) k _ (by rfl) (own_go HX3.out.1.1.ry (G4.out.trans (grow_one w4 _))) ⟨w4.heap.size, 0, none⟩ 1 1 [.pointer (some ⟨w3.heap.size, 0, none⟩)] (by rfl) (by rfl) (news81 _ w4.heap.size rfl #[.pointer (some ⟨w3.heap.size, 0, none⟩)]) (by simp [Value.oneCell']) (by omega) (by simp only [maxLen]; omega) (by omega) (by simp; omega) (w4.heap.size + 1) (by simp) ?_
                      intro gy cpy w6 hown2 hgrow2 hat2 hlt3
                      have HX6 := Lib.hid (And.intro (HX3.out.1.1.app2 HW4.out hgrow2 hown2 hat2) (HX3.out.2.trans (app_low HX3.out.1.1.ry HW4.out hgrow2 HX3.out.1.1.los)))
                      have t1 : w6.cell? ⟨sb, 1, none⟩ = some (.slice x k cx) := cell_of_block (off := 1) HX6.out.1.1.blk
                      have t2 : w6.cell? ⟨sb, 2, none⟩ = some (.slice y k cy) := cell_of_block (off := 2) HX6.out.1.1.blk
                      have f1 : w6.frozen? ⟨sb, 1, none⟩ = false := free_of_block HX6.out.1.1.blk
                      have f2 : w6.frozen? ⟨sb, 2, none⟩ = false := free_of_block HX6.out.1.1.blk
                      have hsb6 : sb < w6.heap.size := lt_of_block HX6.out.1.1.blk
                      clear hown2 hgrow2 hat2 hlt3
                      refine hK.out _ _ (trivial) (fun hHeld => ?_)
                      clear hK K
                      try simp only [Act.put, List.setIfInBounds_toArray]
                      refine wpAnyH_take (i := 16) (v := ?_) rfl (by kernel_rfl) (by kernel_rfl) (by kernel_rfl) (fun _ _ _ h => h) (Or.inl ⟨by rfl, ?_⟩) (by with_reducible assumption) ?_
                      rotate_left
                      · intro w hSw
                        try dsimp only at hSw
                        go_simp
                        try with_reducible rfl
                      try simp only [Act.put]
                      refine wpAnyH_take (i := 17) (v := ?_) rfl (by kernel_rfl) (by kernel_rfl) (by kernel_rfl) (fun _ _ _ h => h) (Or.inl ⟨by rfl, ?_⟩) (by with_reducible assumption) ?_
                      rotate_left
                      · intro w hSw
                        try dsimp only at hSw
                        go_simp
                        try with_reducible rfl
                      try simp only [Act.put]
                      refine wpAnyH_ready (rs := [18]) (by kernel_rfl) (by simp) ?_
                      refine AllReadyH.cons (o := _) rfl (fun K hK => ?_) ?_
                      · go_simp
                        refine hK.out _ _ (trivial) (fun hHeld => ?_)
                        clear hK K
                        try simp only [Act.put, List.setIfInBounds_toArray, List.set_cons_zero, List.set_cons_succ]
                        refine wpAnyH_take (i := 19) (v := ?_) rfl (by kernel_rfl) (by kernel_rfl) (by kernel_rfl) (fun _ _ _ h => h) (Or.inl ⟨by rfl, ?_⟩) (by with_reducible assumption) ?_
                        rotate_left
                        · intro w hSw
                          try dsimp only at hSw
                          go_simp
                          try with_reducible rfl
                        try simp only [Act.put, List.setIfInBounds_toArray]
                        refine wpAnyH_take (i := 20) (v := ?_) rfl (by kernel_rfl) (by kernel_rfl) (by kernel_rfl) (fun _ _ _ h => h) (Or.inl ⟨by rfl, ?_⟩) (by with_reducible assumption) ?_
                        rotate_left
                        · intro w hSw
                          try dsimp only at hSw
                          go_simp
                          try with_reducible rfl
                        try simp only [Act.put]
                        refine wpAnyH_ready (rs := [21]) (by kernel_rfl) (by simp) ?_
                        refine AllReadyH.cons (o := _) rfl (fun K hK => ?_) ?_
                        · go_simp
                          refine hK.out _ _ (trivial) (fun hHeld => ?_)
                          clear hK K
                          try simp only [Act.put, List.setIfInBounds_toArray, List.set_cons_zero, List.set_cons_succ]
                          refine wpAnyH_done (by kernel_rfl) ?_ _
                          go_wp2
                          go_roundw
                          case rel => exact ⟨k + 1, by omega, by go_num, _, _, _, _, _, _, HX6.out.1.1.put.1, made_put HBL.out HX6.out.2 HX6.out.1.1⟩
                          case measure => simp [intOf] <;> omega
                        exact AllReadyH.nil
                      exact AllReadyH.nil
                    exact AllReadyH.nil
                  exact AllReadyH.nil
                exact AllReadyH.nil
              exact AllReadyH.nil
            refine AllReadyH.cons (o := _) rfl (fun K hK => ?_) ?_
            · go_simp
              refine hK.out _ _ (trivial) (fun hHeld => ?_)
              clear hK K
              try simp only [Act.put, List.setIfInBounds_toArray, List.set_cons_zero, List.set_cons_succ]
              refine wpAnyH_ready (rs := [8]) (by kernel_rfl) (by simp) ?_
              refine AllReadyH.cons (o := _) rfl (fun K hK => ?_) ?_
              · refine step_append_lies _ (by rfl) (.tmp 31) (.tmp 33) 78 (by rfl) sb 81 i0 _ 1 8 Try.underlying78 hi0 hz0 hz1 hz2 rfl (by decide) (.slice x k cx) k _ (by rfl) (own_go HN.out.rx (G1.out.trans (grow_one w1 _))) ⟨w1.heap.size, 0, none⟩ 1 1 [.pointer (some ⟨W0.heap.size, 0, none⟩)] (by rfl) (by rfl) (news81 _ w1.heap.size rfl #[.pointer (some ⟨W0.heap.size, 0, none⟩)]) (by simp [Value.oneCell']) (by omega) (by simp only [maxLen]; omega) (by omega) (by simp; omega) (w1.heap.size + 1) (by simp) ?_
                intro gx cpx w3 hown1 hgrow hat hlt2
                have HX3 := Lib.hid (And.intro (HN.out.app1 HW1.out hgrow hown1 hat) (app_low HN.out.rx HW1.out hgrow HN.out.los))
                have q1 : w3.cell? ⟨sb, 1, none⟩ = some (.slice x k cx) := cell_of_block (off := 1) HX3.out.1.1.blk
                have q2 : w3.cell? ⟨sb, 2, none⟩ = some (.slice y k cy) := cell_of_block (off := 2) HX3.out.1.1.blk
                have hsb3 : sb < w3.heap.size := lt_of_block HX3.out.1.1.blk
                clear hown1 hgrow hat hlt2
                refine hK.out _ _ (trivial) (fun hHeld => ?_)
                clear hK K
                try simp only [Act.put, List.setIfInBounds_toArray]
                refine wpAnyH_ready (rs := [13]) (by kernel_rfl) (by simp) ?_
                refine AllReadyH.cons (o := _) rfl (fun K hK => ?_) ?_
                · go_simp
                  go_at_call 31
                  refine (of_nil _).mono ?_
                  rintro e w4 ⟨rfl, hw4⟩
                  have HW4 := Lib.hid hw4
                  have G4 := Lib.hid (show Grow w3 w4 by rw [hw4]; exact grow_one _ _)
                  have s1 := (below_cell G4.out hsb3).trans q1
                  have s2 := (below_cell G4.out hsb3).trans q2
                  have hsb4 : sb < w4.heap.size := Nat.lt_of_lt_of_le hsb3 G4.out.size
                  clear hw4
                  refine hK.out _ _ (trivial) (fun hHeld => ?_)
                  clear hK K
                  try simp only [Act.put, List.setIfInBounds_toArray, List.set_cons_zero, List.set_cons_succ]
                  refine wpAnyH_ready (rs := [14]) (by kernel_rfl) (by simp) ?_
                  refine AllReadyH.cons (o := _) rfl (fun K hK => ?_) ?_
                  · go_simp
                    refine hK.out _ _ (trivial) (fun hHeld => ?_)
                    clear hK K
                    try simp only [Act.put, List.setIfInBounds_toArray, List.set_cons_zero, List.set_cons_succ]
                    refine wpAnyH_ready (rs := [15]) (by kernel_rfl) (by simp) ?_
                    refine AllReadyH.cons (o := _) rfl (fun K hK => ?_) ?_
                    · refine step_append_lies _ (by rfl) (.tmp 38) (.tmp 40) 78 (by rfl) sb 81 i0 _ 1 8 Try.underlying78 hi0 hz0 hz1 hz2 rfl (by decide) (.slice y k cy) k _ (by rfl) (own_go HX3.out.1.1.ry (G4.out.trans (grow_one w4 _))) ⟨w4.heap.size, 0, none⟩ 1 1 [.pointer (some ⟨w3.heap.size, 0, none⟩)] (by rfl) (by rfl) (news81 _ w4.heap.size rfl #[.pointer (some ⟨w3.heap.size, 0, none⟩)]) (by simp [Value.oneCell']) (by omega) (by simp only [maxLen]; omega) (by omega) (by simp; omega) (w4.heap.size + 1) (by simp) ?_
                      intro gy cpy w6 hown2 hgrow2 hat2 hlt3
                      have HX6 := Lib.hid (And.intro (HX3.out.1.1.app2 HW4.out hgrow2 hown2 hat2) (HX3.out.2.trans (app_low HX3.out.1.1.ry HW4.out hgrow2 HX3.out.1.1.los)))
                      have t1 : w6.cell? ⟨sb, 1, none⟩ = some (.slice x k cx) := cell_of_block (off := 1) HX6.out.1.1.blk
                      have t2 : w6.cell? ⟨sb, 2, none⟩ = some (.slice y k cy) := cell_of_block (off := 2) HX6.out.1.1.blk
                      have f1 : w6.frozen? ⟨sb, 1, none⟩ = false := free_of_block HX6.out.1.1.blk
                      have f2 : w6.frozen? ⟨sb, 2, none⟩ = false := free_of_block HX6.out.1.1.blk
                      have hsb6 : sb < w6.heap.size := lt_of_block HX6.out.1.1.blk
                      clear hown2 hgrow2 hat2 hlt3
                      refine hK.out _ _ (trivial) (fun hHeld => ?_)
                      clear hK K
                      try simp only [Act.put, List.setIfInBounds_toArray]
                      refine wpAnyH_take (i := 16) (v := ?_) rfl (by kernel_rfl) (by kernel_rfl) (by kernel_rfl) (fun _ _ _ h => h) (Or.inl ⟨by rfl, ?_⟩) (by with_reducible assumption) ?_
                      rotate_left
                      · intro w hSw
                        try dsimp only at hSw
                        go_simp
                        try with_reducible rfl
                      try simp only [Act.put]
                      refine wpAnyH_take (i := 17) (v := ?_) rfl (by kernel_rfl) (by kernel_rfl) (by kernel_rfl) (fun _ _ _ h => h) (Or.inl ⟨by rfl, ?_⟩) (by with_reducible assumption) ?_
                      rotate_left
                      · intro w hSw
                        try dsimp only at hSw
                        go_simp
                        try with_reducible rfl
                      try simp only [Act.put]
                      refine wpAnyH_ready (rs := [18]) (by kernel_rfl) (by simp) ?_
                      refine AllReadyH.cons (o := _) rfl (fun K hK => ?_) ?_
                      · go_simp
                        refine hK.out _ _ (trivial) (fun hHeld => ?_)
                        clear hK K
                        try simp only [Act.put, List.setIfInBounds_toArray, List.set_cons_zero, List.set_cons_succ]
                        refine wpAnyH_take (i := 19) (v := ?_) rfl (by kernel_rfl) (by kernel_rfl) (by kernel_rfl) (fun _ _ _ h => h) (Or.inl ⟨by rfl, ?_⟩) (by with_reducible assumption) ?_
                        rotate_left
                        · intro w hSw
                          try dsimp only at hSw
                          go_simp
                          try with_reducible rfl
                        try simp only [Act.put, List.setIfInBounds_toArray]
                        refine wpAnyH_take (i := 20) (v := ?_) rfl (by kernel_rfl) (by kernel_rfl) (by kernel_rfl) (fun _ _ _ h => h) (Or.inl ⟨by rfl, ?_⟩) (by with_reducible assumption) ?_
                        rotate_left
                        · intro w hSw
                          try dsimp only at hSw
                          go_simp
                          try with_reducible rfl
                        try simp only [Act.put]
                        refine wpAnyH_ready (rs := [21]) (by kernel_rfl) (by simp) ?_
                        refine AllReadyH.cons (o := _) rfl (fun K hK => ?_) ?_
                        · go_simp
                          refine hK.out _ _ (trivial) (fun hHeld => ?_)
                          clear hK K
                          try simp only [Act.put, List.setIfInBounds_toArray, List.set_cons_zero, List.set_cons_succ]
                          refine wpAnyH_done (by kernel_rfl) ?_ _
                          go_wp2
                          go_roundw
                          case rel => exact ⟨k + 1, by omega, by go_num, _, _, _, _, _, _, HX6.out.1.1.put.1, made_put HBL.out HX6.out.2 HX6.out.1.1⟩
                          case measure => simp [intOf] <;> omega
                        exact AllReadyH.nil
                      exact AllReadyH.nil
                    exact AllReadyH.nil
                  exact AllReadyH.nil
                exact AllReadyH.nil
              exact AllReadyH.nil
            exact AllReadyH.nil
          refine AllReadyH.cons (o := _) rfl (fun K hK => ?_) ?_
          · go_simp
            refine hK.out _ _ (trivial) (fun hHeld => ?_)
            clear hK K
            try simp only [Act.put, List.setIfInBounds_toArray, List.set_cons_zero, List.set_cons_succ]
            refine wpAnyH_ready (rs := [5]) (by kernel_rfl) (by simp) ?_
            refine AllReadyH.cons (o := _) rfl (fun K hK => ?_) ?_
            · go_simp
              refine hK.out _ _ (trivial) (fun hHeld => ?_)
              clear hK K
              try simp only [Act.put, List.setIfInBounds_toArray, List.set_cons_zero, List.set_cons_succ]
              refine wpAnyH_ready (rs := [8]) (by kernel_rfl) (by simp) ?_
              refine AllReadyH.cons (o := _) rfl (fun K hK => ?_) ?_
              · refine step_append_lies _ (by rfl) (.tmp 31) (.tmp 33) 78 (by rfl) sb 81 i0 _ 1 8 Try.underlying78 hi0 hz0 hz1 hz2 rfl (by decide) (.slice x k cx) k _ (by rfl) (own_go HN.out.rx (G1.out.trans (grow_one w1 _))) ⟨w1.heap.size, 0, none⟩ 1 1 [.pointer (some ⟨W0.heap.size, 0, none⟩)] (by rfl) (by rfl) (news81 _ w1.heap.size rfl #[.pointer (some ⟨W0.heap.size, 0, none⟩)]) (by simp [Value.oneCell']) (by omega) (by simp only [maxLen]; omega) (by omega) (by simp; omega) (w1.heap.size + 1) (by simp) ?_
                intro gx cpx w3 hown1 hgrow hat hlt2
                have HX3 := Lib.hid (And.intro (HN.out.app1 HW1.out hgrow hown1 hat) (app_low HN.out.rx HW1.out hgrow HN.out.los))
                have q1 : w3.cell? ⟨sb, 1, none⟩ = some (.slice x k cx) := cell_of_block (off := 1) HX3.out.1.1.blk
                have q2 : w3.cell? ⟨sb, 2, none⟩ = some (.slice y k cy) := cell_of_block (off := 2) HX3.out.1.1.blk
                have hsb3 : sb < w3.heap.size := lt_of_block HX3.out.1.1.blk
                clear hown1 hgrow hat hlt2
                refine hK.out _ _ (trivial) (fun hHeld => ?_)
                clear hK K
                try simp only [Act.put, List.setIfInBounds_toArray]
                refine wpAnyH_ready (rs := [13]) (by kernel_rfl) (by simp) ?_
                refine AllReadyH.cons (o := _) rfl (fun K hK => ?_) ?_
                · go_simp
                  go_at_call 31
                  refine (of_nil _).mono ?_
                  rintro e w4 ⟨rfl, hw4⟩
                  have HW4 := Lib.hid hw4
                  have G4 := Lib.hid (show Grow w3 w4 by rw [hw4]; exact grow_one _ _)
                  have s1 := (below_cell G4.out hsb3).trans q1
                  have s2 := (below_cell G4.out hsb3).trans q2
                  have hsb4 : sb < w4.heap.size := Nat.lt_of_lt_of_le hsb3 G4.out.size
                  clear hw4
                  refine hK.out _ _ (trivial) (fun hHeld => ?_)
                  clear hK K
                  try simp only [Act.put, List.setIfInBounds_toArray, List.set_cons_zero, List.set_cons_succ]
                  refine wpAnyH_ready (rs := [14]) (by kernel_rfl) (by simp) ?_
                  refine AllReadyH.cons (o := _) rfl (fun K hK => ?_) ?_
                  · go_simp
                    refine hK.out _ _ (trivial) (fun hHeld => ?_)
                    clear hK K
                    try simp only [Act.put, List.setIfInBounds_toArray, List.set_cons_zero, List.set_cons_succ]
                    refine wpAnyH_ready (rs := [15]) (by kernel_rfl) (by simp) ?_
                    refine AllReadyH.cons (o := _) rfl (fun K hK => ?_) ?_
                    · refine step_append_lies _ (by rfl) (.tmp 38) (.tmp 40) 78 (by rfl) sb 81 i0 _ 1 8 Try.underlying78 hi0 hz0 hz1 hz2 rfl (by decide) (.slice y k cy) k _ (by rfl) (own_go HX3.out.1.1.ry (G4.out.trans (grow_one w4 _))) ⟨w4.heap.size, 0, none⟩ 1 1 [.pointer (some ⟨w3.heap.size, 0, none⟩)] (by rfl) (by rfl) (news81 _ w4.heap.size rfl #[.pointer (some ⟨w3.heap.size, 0, none⟩)]) (by simp [Value.oneCell']) (by omega) (by simp only [maxLen]; omega) (by omega) (by simp; omega) (w4.heap.size + 1) (by simp) ?_
                      intro gy cpy w6 hown2 hgrow2 hat2 hlt3
                      have HX6 := Lib.hid (And.intro (HX3.out.1.1.app2 HW4.out hgrow2 hown2 hat2) (HX3.out.2.trans (app_low HX3.out.1.1.ry HW4.out hgrow2 HX3.out.1.1.los)))
                      have t1 : w6.cell? ⟨sb, 1, none⟩ = some (.slice x k cx) := cell_of_block (off := 1) HX6.out.1.1.blk
                      have t2 : w6.cell? ⟨sb, 2, none⟩ = some (.slice y k cy) := cell_of_block (off := 2) HX6.out.1.1.blk
                      have f1 : w6.frozen? ⟨sb, 1, none⟩ = false := free_of_block HX6.out.1.1.blk
                      have f2 : w6.frozen? ⟨sb, 2, none⟩ = false := free_of_block HX6.out.1.1.blk
                      have hsb6 : sb < w6.heap.size := lt_of_block HX6.out.1.1.blk
                      clear hown2 hgrow2 hat2 hlt3
                      refine hK.out _ _ (trivial) (fun hHeld => ?_)
                      clear hK K
                      try simp only [Act.put, List.setIfInBounds_toArray]
                      refine wpAnyH_take (i := 16) (v := ?_) rfl (by kernel_rfl) (by kernel_rfl) (by kernel_rfl) (fun _ _ _ h => h) (Or.inl ⟨by rfl, ?_⟩) (by with_reducible assumption) ?_
                      rotate_left
                      · intro w hSw
                        try dsimp only at hSw
                        go_simp
                        try with_reducible rfl
                      try simp only [Act.put]
                      refine wpAnyH_take (i := 17) (v := ?_) rfl (by kernel_rfl) (by kernel_rfl) (by kernel_rfl) (fun _ _ _ h => h) (Or.inl ⟨by rfl, ?_⟩) (by with_reducible assumption) ?_
                      rotate_left
                      · intro w hSw
                        try dsimp only at hSw
                        go_simp
                        try with_reducible rfl
                      try simp only [Act.put]
                      refine wpAnyH_ready (rs := [18]) (by kernel_rfl) (by simp) ?_
                      refine AllReadyH.cons (o := _) rfl (fun K hK => ?_) ?_
                      · go_simp
                        refine hK.out _ _ (trivial) (fun hHeld => ?_)
                        clear hK K
                        try simp only [Act.put, List.setIfInBounds_toArray, List.set_cons_zero, List.set_cons_succ]
                        refine wpAnyH_take (i := 19) (v := ?_) rfl (by kernel_rfl) (by kernel_rfl) (by kernel_rfl) (fun _ _ _ h => h) (Or.inl ⟨by rfl, ?_⟩) (by with_reducible assumption) ?_
                        rotate_left
                        · intro w hSw
                          try dsimp only at hSw
                          go_simp
                          try with_reducible rfl
                        try simp only [Act.put, List.setIfInBounds_toArray]
                        refine wpAnyH_take (i := 20) (v := ?_) rfl (by kernel_rfl) (by kernel_rfl) (by kernel_rfl) (fun _ _ _ h => h) (Or.inl ⟨by rfl, ?_⟩) (by with_reducible assumption) ?_
                        rotate_left
                        · intro w hSw
                          try dsimp only at hSw
                          go_simp
                          try with_reducible rfl
                        try simp only [Act.put]
                        refine wpAnyH_ready (rs := [21]) (by kernel_rfl) (by simp) ?_
                        refine AllReadyH.cons (o := _) rfl (fun K hK => ?_) ?_
                        · go_simp
                          refine hK.out _ _ (trivial) (fun hHeld => ?_)
                          clear hK K
                          try simp only [Act.put, List.setIfInBounds_toArray, List.set_cons_zero, List.set_cons_succ]
                          refine wpAnyH_done (by kernel_rfl) ?_ _
                          go_wp2
                          go_roundw
                          case rel => exact ⟨k + 1, by omega, by go_num, _, _, _, _, _, _, HX6.out.1.1.put.1, made_put HBL.out HX6.out.2 HX6.out.1.1⟩
                          case measure => simp [intOf] <;> omega
                        exact AllReadyH.nil
                      exact AllReadyH.nil
                    exact AllReadyH.nil
                  exact AllReadyH.nil
                exact AllReadyH.nil
              exact AllReadyH.nil
            exact AllReadyH.nil
          exact AllReadyH.nil
        refine AllReadyH.cons (o := _) rfl (fun K hK => ?_) ?_
        · go_simp
          refine hK.out _ _ (trivial) (fun hHeld => ?_)
          clear hK K
          try simp only [Act.put, List.setIfInBounds_toArray, List.set_cons_zero, List.set_cons_succ]
          refine wpAnyH_ready (rs := [5, 7]) (by kernel_rfl) (by simp) ?_
          refine AllReadyH.cons (o := _) rfl (fun K hK => ?_) ?_
          · go_simp
            refine hK.out _ _ (trivial) (fun hHeld => ?_)
            clear hK K
            try simp only [Act.put, List.setIfInBounds_toArray, List.set_cons_zero, List.set_cons_succ]
            refine wpAnyH_ready (rs := [7]) (by kernel_rfl) (by simp) ?_
            refine AllReadyH.cons (o := _) rfl (fun K hK => ?_) ?_
            · go_simp
              refine hK.out _ _ (trivial) (fun hHeld => ?_)
              clear hK K
              try simp only [Act.put, List.setIfInBounds_toArray, List.set_cons_zero, List.set_cons_succ]
              refine wpAnyH_ready (rs := [8]) (by kernel_rfl) (by simp) ?_
              refine AllReadyH.cons (o := _) rfl (fun K hK => ?_) ?_
              · refine step_append_lies _ (by rfl) (.tmp 31) (.tmp 33) 78 (by rfl) sb 81 i0 _ 1 8 Try.underlying78 hi0 hz0 hz1 hz2 rfl (by decide) (.slice x k cx) k _ (by rfl) (own_go HN.out.rx (G1.out.trans (grow_one w1 _))) ⟨w1.heap.size, 0, none⟩ 1 1 [.pointer (some ⟨W0.heap.size, 0, none⟩)] (by rfl) (by rfl) (news81 _ w1.heap.size rfl #[.pointer (some ⟨W0.heap.size, 0, none⟩)]) (by simp [Value.oneCell']) (by omega) (by simp only [maxLen]; omega) (by omega) (by simp; omega) (w1.heap.size + 1) (by simp) ?_
                intro gx cpx w3 hown1 hgrow hat hlt2
                have HX3 := Lib.hid (And.intro (HN.out.app1 HW1.out hgrow hown1 hat) (app_low HN.out.rx HW1.out hgrow HN.out.los))
                have q1 : w3.cell? ⟨sb, 1, none⟩ = some (.slice x k cx) := cell_of_block (off := 1) HX3.out.1.1.blk
                have q2 : w3.cell? ⟨sb, 2, none⟩ = some (.slice y k cy) := cell_of_block (off := 2) HX3.out.1.1.blk
                have hsb3 : sb < w3.heap.size := lt_of_block HX3.out.1.1.blk
                clear hown1 hgrow hat hlt2
                refine hK.out _ _ (trivial) (fun hHeld => ?_)
                clear hK K
                try simp only [Act.put, List.setIfInBounds_toArray]
                refine wpAnyH_ready (rs := [13]) (by kernel_rfl) (by simp) ?_
                refine AllReadyH.cons (o := _) rfl (fun K hK => ?_) ?_
                · go_simp
                  go_at_call 31
                  refine (of_nil _).mono ?_
                  rintro e w4 ⟨rfl, hw4⟩
                  have HW4 := Lib.hid hw4
                  have G4 := Lib.hid (show Grow w3 w4 by rw [hw4]; exact grow_one _ _)
                  have s1 := (below_cell G4.out hsb3).trans q1
                  have s2 := (below_cell G4.out hsb3).trans q2
                  have hsb4 : sb < w4.heap.size := Nat.lt_of_lt_of_le hsb3 G4.out.size
                  clear hw4
                  refine hK.out _ _ (trivial) (fun hHeld => ?_)
                  clear hK K
                  try simp only [Act.put, List.setIfInBounds_toArray, List.set_cons_zero, List.set_cons_succ]
                  refine wpAnyH_ready (rs := [14]) (by kernel_rfl) (by simp) ?_
                  refine AllReadyH.cons (o := _) rfl (fun K hK => ?_) ?_
                  · go_simp
                    refine hK.out _ _ (trivial) (fun hHeld => ?_)
                    clear hK K
                    try simp only [Act.put, List.setIfInBounds_toArray, List.set_cons_zero, List.set_cons_succ]
                    refine wpAnyH_ready (rs := [15]) (by kernel_rfl) (by simp) ?_
                    refine AllReadyH.cons (o := _) rfl (fun K hK => ?_) ?_
                    · refine step_append_lies _ (by rfl) (.tmp 38) (.tmp 40) 78 (by rfl) sb 81 i0 _ 1 8 Try.underlying78 hi0 hz0 hz1 hz2 rfl (by decide) (.slice y k cy) k _ (by rfl) (own_go HX3.out.1.1.ry (G4.out.trans (grow_one w4 _))) ⟨w4.heap.size, 0, none⟩ 1 1 [.pointer (some ⟨w3.heap.size, 0, none⟩)] (by rfl) (by rfl) (news81 _ w4.heap.size rfl #[.pointer (some ⟨w3.heap.size, 0, none⟩)]) (by simp [Value.oneCell']) (by omega) (by simp only [maxLen]; omega) (by omega) (by simp; omega) (w4.heap.size + 1) (by simp) ?_
                      intro gy cpy w6 hown2 hgrow2 hat2 hlt3
                      have HX6 := Lib.hid (And.intro (HX3.out.1.1.app2 HW4.out hgrow2 hown2 hat2) (HX3.out.2.trans (app_low HX3.out.1.1.ry HW4.out hgrow2 HX3.out.1.1.los)))
                      have t1 : w6.cell? ⟨sb, 1, none⟩ = some (.slice x k cx) := cell_of_block (off := 1) HX6.out.1.1.blk
                      have t2 : w6.cell? ⟨sb, 2, none⟩ = some (.slice y k cy) := cell_of_block (off := 2) HX6.out.1.1.blk
                      have f1 : w6.frozen? ⟨sb, 1, none⟩ = false := free_of_block HX6.out.1.1.blk
                      have f2 : w6.frozen? ⟨sb, 2, none⟩ = false := free_of_block HX6.out.1.1.blk
                      have hsb6 : sb < w6.heap.size := lt_of_block HX6.out.1.1.blk
                      clear hown2 hgrow2 hat2 hlt3
                      refine hK.out _ _ (trivial) (fun hHeld => ?_)
                      clear hK K
                      try simp only [Act.put, List.setIfInBounds_toArray]
                      refine wpAnyH_take (i := 16) (v := ?_) rfl (by kernel_rfl) (by kernel_rfl) (by kernel_rfl) (fun _ _ _ h => h) (Or.inl ⟨by rfl, ?_⟩) (by with_reducible assumption) ?_
                      rotate_left
                      · intro w hSw
                        try dsimp only at hSw
                        go_simp
                        try with_reducible rfl
                      try simp only [Act.put]
                      refine wpAnyH_take (i := 17) (v := ?_) rfl (by kernel_rfl) (by kernel_rfl) (by kernel_rfl) (fun _ _ _ h => h) (Or.inl ⟨by rfl, ?_⟩) (by with_reducible assumption) ?_
                      rotate_left
                      · intro w hSw
                        try dsimp only at hSw
                        go_simp
                        try with_reducible rfl
                      try simp only [Act.put]
                      refine wpAnyH_ready (rs := [18]) (by kernel_rfl) (by simp) ?_
                      refine AllReadyH.cons (o := _) rfl (fun K hK => ?_) ?_
                      · go_simp
                        refine hK.out _ _ (trivial) (fun hHeld => ?_)
                        clear hK K
                        try simp only [Act.put, List.setIfInBounds_toArray, List.set_cons_zero, List.set_cons_succ]
                        refine wpAnyH_take (i := 19) (v := ?_) rfl (by kernel_rfl) (by kernel_rfl) (by kernel_rfl) (fun _ _ _ h => h) (Or.inl ⟨by rfl, ?_⟩) (by with_reducible assumption) ?_
                        rotate_left
                        · intro w hSw
                          try dsimp only at hSw
                          go_simp
                          try with_reducible rfl
                        try simp only [Act.put, List.setIfInBounds_toArray]
                        refine wpAnyH_take (i := 20) (v := ?_) rfl (by kernel_rfl) (by kernel_rfl) (by kernel_rfl) (fun _ _ _ h => h) (Or.inl ⟨by rfl, ?_⟩) (by with_reducible assumption) ?_
                        rotate_left
                        · intro w hSw
                          try dsimp only at hSw
                          go_simp
                          try with_reducible rfl
                        try simp only [Act.put]
                        refine wpAnyH_ready (rs := [21]) (by kernel_rfl) (by simp) ?_
                        refine AllReadyH.cons (o := _) rfl (fun K hK => ?_) ?_
                        · go_simp
                          refine hK.out _ _ (trivial) (fun hHeld => ?_)
                          clear hK K
                          try simp only [Act.put, List.setIfInBounds_toArray, List.set_cons_zero, List.set_cons_succ]
                          refine wpAnyH_done (by kernel_rfl) ?_ _
                          go_wp2
                          go_roundw
                          case rel => exact ⟨k + 1, by omega, by go_num, _, _, _, _, _, _, HX6.out.1.1.put.1, made_put HBL.out HX6.out.2 HX6.out.1.1⟩
                          case measure => simp [intOf] <;> omega
                        exact AllReadyH.nil
                      exact AllReadyH.nil
                    exact AllReadyH.nil
                  exact AllReadyH.nil
                exact AllReadyH.nil
              exact AllReadyH.nil
            exact AllReadyH.nil
          refine AllReadyH.cons (o := _) rfl (fun K hK => ?_) ?_
          · go_simp
            refine hK.out _ _ (trivial) (fun hHeld => ?_)
            clear hK K
            try simp only [Act.put, List.setIfInBounds_toArray, List.set_cons_zero, List.set_cons_succ]
            refine wpAnyH_ready (rs := [5]) (by kernel_rfl) (by simp) ?_
            refine AllReadyH.cons (o := _) rfl (fun K hK => ?_) ?_
            · go_simp
              refine hK.out _ _ (trivial) (fun hHeld => ?_)
              clear hK K
              try simp only [Act.put, List.setIfInBounds_toArray, List.set_cons_zero, List.set_cons_succ]
              refine wpAnyH_ready (rs := [8]) (by kernel_rfl) (by simp) ?_
              refine AllReadyH.cons (o := _) rfl (fun K hK => ?_) ?_
              · refine step_append_lies _ (by rfl) (.tmp 31) (.tmp 33) 78 (by rfl) sb 81 i0 _ 1 8 Try.underlying78 hi0 hz0 hz1 hz2 rfl (by decide) (.slice x k cx) k _ (by rfl) (own_go HN.out.rx (G1.out.trans (grow_one w1 _))) ⟨w1.heap.size, 0, none⟩ 1 1 [.pointer (some ⟨W0.heap.size, 0, none⟩)] (by rfl) (by rfl) (news81 _ w1.heap.size rfl #[.pointer (some ⟨W0.heap.size, 0, none⟩)]) (by simp [Value.oneCell']) (by omega) (by simp only [maxLen]; omega) (by omega) (by simp; omega) (w1.heap.size + 1) (by simp) ?_
                intro gx cpx w3 hown1 hgrow hat hlt2
                have HX3 := Lib.hid (And.intro (HN.out.app1 HW1.out hgrow hown1 hat) (app_low HN.out.rx HW1.out hgrow HN.out.los))
                have q1 : w3.cell? ⟨sb, 1, none⟩ = some (.slice x k cx) := cell_of_block (off := 1) HX3.out.1.1.blk
                have q2 : w3.cell? ⟨sb, 2, none⟩ = some (.slice y k cy) := cell_of_block (off := 2) HX3.out.1.1.blk
                have hsb3 : sb < w3.heap.size := lt_of_block HX3.out.1.1.blk
                clear hown1 hgrow hat hlt2
                refine hK.out _ _ (trivial) (fun hHeld => ?_)
                clear hK K
                try simp only [Act.put, List.setIfInBounds_toArray]
                refine wpAnyH_ready (rs := [13]) (by kernel_rfl) (by simp) ?_
                refine AllReadyH.cons (o := _) rfl (fun K hK => ?_) ?_
                · go_simp
                  go_at_call 31
                  refine (of_nil _).mono ?_
                  rintro e w4 ⟨rfl, hw4⟩
                  have HW4 := Lib.hid hw4
                  have G4 := Lib.hid (show Grow w3 w4 by rw [hw4]; exact grow_one _ _)
                  have s1 := (below_cell G4.out hsb3).trans q1
                  have s2 := (below_cell G4.out hsb3).trans q2
                  have hsb4 : sb < w4.heap.size := Nat.lt_of_lt_of_le hsb3 G4.out.size
                  clear hw4
                  refine hK.out _ _ (trivial) (fun hHeld => ?_)
                  clear hK K
                  try simp only [Act.put, List.setIfInBounds_toArray, List.set_cons_zero, List.set_cons_succ]
                  refine wpAnyH_ready (rs := [14]) (by kernel_rfl) (by simp) ?_
                  refine AllReadyH.cons (o := _) rfl (fun K hK => ?_) ?_
                  · go_simp
                    refine hK.out _ _ (trivial) (fun hHeld => ?_)
                    clear hK K
                    try simp only [Act.put, List.setIfInBounds_toArray, List.set_cons_zero, List.set_cons_succ]
                    refine wpAnyH_ready (rs := [15]) (by kernel_rfl) (by simp) ?_
                    refine AllReadyH.cons (o := _) rfl (fun K hK => ?_) ?_
                    · refine step_append_lies _ (by rfl) (.tmp 38) (.tmp 40) 78 (by rfl) sb 81 i0 _ 1 8 Try.underlying78 hi0 hz0 hz1 hz2 rfl (by decide) (.slice y k cy) k _ (by rfl) (own_go HX3.out.1.1.ry (G4.out.trans (grow_one w4 _))) ⟨w4.heap.size, 0, none⟩ 1 1 [.pointer (some ⟨w3.heap.size, 0, none⟩)] (by rfl) (by rfl) (news81 _ w4.heap.size rfl #[.pointer (some ⟨w3.heap.size, 0, none⟩)]) (by simp [Value.oneCell']) (by omega) (by simp only [maxLen]; omega) (by omega) (by simp; omega) (w4.heap.size + 1) (by simp) ?_
                      intro gy cpy w6 hown2 hgrow2 hat2 hlt3
                      have HX6 := Lib.hid (And.intro (HX3.out.1.1.app2 HW4.out hgrow2 hown2 hat2) (HX3.out.2.trans (app_low HX3.out.1.1.ry HW4.out hgrow2 HX3.out.1.1.los)))
                      have t1 : w6.cell? ⟨sb, 1, none⟩ = some (.slice x k cx) := cell_of_block (off := 1) HX6.out.1.1.blk
                      have t2 : w6.cell? ⟨sb, 2, none⟩ = some (.slice y k cy) := cell_of_block (off := 2) HX6.out.1.1.blk
                      have f1 : w6.frozen? ⟨sb, 1, none⟩ = false := free_of_block HX6.out.1.1.blk
                      have f2 : w6.frozen? ⟨sb, 2, none⟩ = false := free_of_block HX6.out.1.1.blk
                      have hsb6 : sb < w6.heap.size := lt_of_block HX6.out.1.1.blk
                      clear hown2 hgrow2 hat2 hlt3
                      refine hK.out _ _ (trivial) (fun hHeld => ?_)
                      clear hK K
                      try simp only [Act.put, List.setIfInBounds_toArray]
                      refine wpAnyH_take (i := 16) (v := ?_) rfl (by kernel_rfl) (by kernel_rfl) (by kernel_rfl) (fun _ _ _ h => h) (Or.inl ⟨by rfl, ?_⟩) (by with_reducible assumption) ?_
                      rotate_left
                      · intro w hSw
                        try dsimp only at hSw
                        go_simp
                        try with_reducible rfl
                      try simp only [Act.put]
                      refine wpAnyH_take (i := 17) (v := ?_) rfl (by kernel_rfl) (by kernel_rfl) (by kernel_rfl) (fun _ _ _ h => h) (Or.inl ⟨by rfl, ?_⟩) (by with_reducible assumption) ?_
                      rotate_left
                      · intro w hSw
                        try dsimp only at hSw
                        go_simp
                        try with_reducible rfl
                      try simp only [Act.put]
                      refine wpAnyH_ready (rs := [18]) (by kernel_rfl) (by simp) ?_
                      refine AllReadyH.cons (o := _) rfl (fun K hK => ?_) ?_
                      · go_simp
                        refine hK.out _ _ (trivial) (fun hHeld => ?_)
                        clear hK K
                        try simp only [Act.put, List.setIfInBounds_toArray, List.set_cons_zero, List.set_cons_succ]
                        refine wpAnyH_take (i := 19) (v := ?_) rfl (by kernel_rfl) (by kernel_rfl) (by kernel_rfl) (fun _ _ _ h => h) (Or.inl ⟨by rfl, ?_⟩) (by with_reducible assumption) ?_
                        rotate_left
                        · intro w hSw
                          try dsimp only at hSw
                          go_simp
                          try with_reducible rfl
                        try simp only [Act.put, List.setIfInBounds_toArray]
                        refine wpAnyH_take (i := 20) (v := ?_) rfl (by kernel_rfl) (by kernel_rfl) (by kernel_rfl) (fun _ _ _ h => h) (Or.inl ⟨by rfl, ?_⟩) (by with_reducible assumption) ?_
                        rotate_left
                        · intro w hSw
                          try dsimp only at hSw
                          go_simp
                          try with_reducible rfl
                        try simp only [Act.put]
                        refine wpAnyH_ready (rs := [21]) (by kernel_rfl) (by simp) ?_
                        refine AllReadyH.cons (o := _) rfl (fun K hK => ?_) ?_
                        · go_simp
                          refine hK.out _ _ (trivial) (fun hHeld => ?_)
                          clear hK K
                          try simp only [Act.put, List.setIfInBounds_toArray, List.set_cons_zero, List.set_cons_succ]
                          refine wpAnyH_done (by kernel_rfl) ?_ _
                          go_wp2
                          go_roundw
                          case rel => exact ⟨k + 1, by omega, by go_num, _, _, _, _, _, _, HX6.out.1.1.put.1, made_put HBL.out HX6.out.2 HX6.out.1.1⟩
                          case measure => simp [intOf] <;> omega
                        exact AllReadyH.nil
                      exact AllReadyH.nil
                    exact AllReadyH.nil
                  exact AllReadyH.nil
                exact AllReadyH.nil
              exact AllReadyH.nil
            exact AllReadyH.nil
          exact AllReadyH.nil
        exact AllReadyH.nil
      refine AllReadyH.cons (o := _) rfl (fun K hK => ?_) ?_
      · go_simp
        refine hK.out _ _ (trivial) (fun hHeld => ?_)
        clear hK K
        try simp only [Act.put, List.setIfInBounds_toArray, List.set_cons_zero, List.set_cons_succ]
        refine wpAnyH_ready (rs := [5, 6]) (by kernel_rfl) (by simp) ?_
        refine AllReadyH.cons (o := _) rfl (fun K hK => ?_) ?_
        · go_simp
          refine hK.out _ _ (trivial) (fun hHeld => ?_)
          clear hK K
          try simp only [Act.put, List.setIfInBounds_toArray, List.set_cons_zero, List.set_cons_succ]
          refine wpAnyH_ready (rs := [6]) (by kernel_rfl) (by simp) ?_
          refine AllReadyH.cons (o := _) rfl (fun K hK => ?_) ?_
          · go_simp
            go_at_call 31
            refine (of_nil _).mono ?_
            rintro e w1 ⟨rfl, hw1⟩
            have HW1 := Lib.hid hw1
            have G1 := Lib.hid (show Grow W0 w1 by rw [hw1]; exact grow_one _ _)
            have p1 := (below_cell G1.out hsb0).trans d1
            have p2 := (below_cell G1.out hsb0).trans d2
            have hsb1 : sb < w1.heap.size := Nat.lt_of_lt_of_le hsb0 G1.out.size
            clear hw1
            refine hK.out _ _ (trivial) (fun hHeld => ?_)
            clear hK K
            try simp only [Act.put, List.setIfInBounds_toArray, List.set_cons_zero, List.set_cons_succ]
            refine wpAnyH_ready (rs := [7]) (by kernel_rfl) (by simp) ?_
            refine AllReadyH.cons (o := _) rfl (fun K hK => ?_) ?_
            · go_simp
              refine hK.out _ _ (trivial) (fun hHeld => ?_)
              clear hK K
              try simp only [Act.put, List.setIfInBounds_toArray, List.set_cons_zero, List.set_cons_succ]
              refine wpAnyH_ready (rs := [8]) (by kernel_rfl) (by simp) ?_
              refine AllReadyH.cons (o := _) rfl (fun K hK => ?_) ?_
              · refine step_append_lies _ (by rfl) (.tmp 31) (.tmp 33) 78 (by rfl) sb 81 i0 _ 1 8 Try.underlying78 hi0 hz0 hz1 hz2 rfl (by decide) (.slice x k cx) k _ (by rfl) (own_go HN.out.rx (G1.out.trans (grow_one w1 _))) ⟨w1.heap.size, 0, none⟩ 1 1 [.pointer (some ⟨W0.heap.size, 0, none⟩)] (by rfl) (by rfl) (news81 _ w1.heap.size rfl #[.pointer (some ⟨W0.heap.size, 0, none⟩)]) (by simp [Value.oneCell']) (by omega) (by simp only [maxLen]; omega) (by omega) (by simp; omega) (w1.heap.size + 1) (by simp) ?_
                intro gx cpx w3 hown1 hgrow hat hlt2
                have HX3 := Lib.hid (And.intro (HN.out.app1 HW1.out hgrow hown1 hat) (app_low HN.out.rx HW1.out hgrow HN.out.los))
                have q1 : w3.cell? ⟨sb, 1, none⟩ = some (.slice x k cx) := cell_of_block (off := 1) HX3.out.1.1.blk
                have q2 : w3.cell? ⟨sb, 2, none⟩ = some (.slice y k cy) := cell_of_block (off := 2) HX3.out.1.1.blk
                have hsb3 : sb < w3.heap.size := lt_of_block HX3.out.1.1.blk
                clear hown1 hgrow hat hlt2
                refine hK.out _ _ (trivial) (fun hHeld => ?_)
                clear hK K
                try simp only [Act.put, List.setIfInBounds_toArray]
                refine wpAnyH_ready (rs := [13]) (by kernel_rfl) (by simp) ?_
                refine AllReadyH.cons (o := _) rfl (fun K hK => ?_) ?_
                · go_simp
                  go_at_call 31
                  refine (of_nil _).mono ?_
                  rintro e w4 ⟨rfl, hw4⟩
                  have HW4 := Lib.hid hw4
                  have G4 := Lib.hid (show Grow w3 w4 by rw [hw4]; exact grow_one _ _)
                  have s1 := (below_cell G4.out hsb3).trans q1
                  have s2 := (below_cell G4.out hsb3).trans q2
                  have hsb4 : sb < w4.heap.size := Nat.lt_of_lt_of_le hsb3 G4.out.size
                  clear hw4
                  refine hK.out _ _ (trivial) (fun hHeld => ?_)
                  clear hK K
                  try simp only [Act.put, List.setIfInBounds_toArray, List.set_cons_zero, List.set_cons_succ]
                  refine wpAnyH_ready (rs := [14]) (by kernel_rfl) (by simp) ?_
                  refine AllReadyH.cons (o := _) rfl (fun K hK => ?_) ?_
                  · go_simp
                    refine hK.out _ _ (trivial) (fun hHeld => ?_)
                    clear hK K
                    try simp only [Act.put, List.setIfInBounds_toArray, List.set_cons_zero, List.set_cons_succ]
                    refine wpAnyH_ready (rs := [15]) (by kernel_rfl) (by simp) ?_
                    refine AllReadyH.cons (o := _) rfl (fun K hK => ?_) ?_
                    · refine step_append_lies _ (by rfl) (.tmp 38) (.tmp 40) 78 (by rfl) sb 81 i0 _ 1 8 Try.underlying78 hi0 hz0 hz1 hz2 rfl (by decide) (.slice y k cy) k _ (by rfl) (own_go HX3.out.1.1.ry (G4.out.trans (grow_one w4 _))) ⟨w4.heap.size, 0, none⟩ 1 1 [.pointer (some ⟨w3.heap.size, 0, none⟩)] (by rfl) (by rfl) (news81 _ w4.heap.size rfl #[.pointer (some ⟨w3.heap.size, 0, none⟩)]) (by simp [Value.oneCell']) (by omega) (by simp only [maxLen]; omega) (by omega) (by simp; omega) (w4.heap.size + 1) (by simp) ?_
                      intro gy cpy w6 hown2 hgrow2 hat2 hlt3
                      have HX6 := Lib.hid (And.intro (HX3.out.1.1.app2 HW4.out hgrow2 hown2 hat2) (HX3.out.2.trans (app_low HX3.out.1.1.ry HW4.out hgrow2 HX3.out.1.1.los)))
                      have t1 : w6.cell? ⟨sb, 1, none⟩ = some (.slice x k cx) := cell_of_block (off := 1) HX6.out.1.1.blk
                      have t2 : w6.cell? ⟨sb, 2, none⟩ = some (.slice y k cy) := cell_of_block (off := 2) HX6.out.1.1.blk
                      have f1 : w6.frozen? ⟨sb, 1, none⟩ = false := free_of_block HX6.out.1.1.blk
                      have f2 : w6.frozen? ⟨sb, 2, none⟩ = false := free_of_block HX6.out.1.1.blk
                      have hsb6 : sb < w6.heap.size := lt_of_block HX6.out.1.1.blk
                      clear hown2 hgrow2 hat2 hlt3
                      refine hK.out _ _ (trivial) (fun hHeld => ?_)
                      clear hK K
                      try simp only [Act.put, List.setIfInBounds_toArray]
                      refine wpAnyH_take (i := 16) (v := ?_) rfl (by kernel_rfl) (by kernel_rfl) (by kernel_rfl) (fun _ _ _ h => h) (Or.inl ⟨by rfl, ?_⟩) (by with_reducible assumption) ?_
                      rotate_left
                      · intro w hSw
                        try dsimp only at hSw
                        go_simp
                        try with_reducible rfl
                      try simp only [Act.put]
                      refine wpAnyH_take (i := 17) (v := ?_) rfl (by kernel_rfl) (by kernel_rfl) (by kernel_rfl) (fun _ _ _ h => h) (Or.inl ⟨by rfl, ?_⟩) (by with_reducible assumption) ?_
                      rotate_left
                      · intro w hSw
                        try dsimp only at hSw
                        go_simp
                        try with_reducible rfl
                      try simp only [Act.put]
                      refine wpAnyH_ready (rs := [18]) (by kernel_rfl) (by simp) ?_
                      refine AllReadyH.cons (o := _) rfl (fun K hK => ?_) ?_
                      · go_simp
                        refine hK.out _ _ (trivial) (fun hHeld => ?_)
                        clear hK K
                        try simp only [Act.put, List.setIfInBounds_toArray, List.set_cons_zero, List.set_cons_succ]
                        refine wpAnyH_take (i := 19) (v := ?_) rfl (by kernel_rfl) (by kernel_rfl) (by kernel_rfl) (fun _ _ _ h => h) (Or.inl ⟨by rfl, ?_⟩) (by with_reducible assumption) ?_
                        rotate_left
                        · intro w hSw
                          try dsimp only at hSw
                          go_simp
                          try with_reducible rfl
                        try simp only [Act.put, List.setIfInBounds_toArray]
                        refine wpAnyH_take (i := 20) (v := ?_) rfl (by kernel_rfl) (by kernel_rfl) (by kernel_rfl) (fun _ _ _ h => h) (Or.inl ⟨by rfl, ?_⟩) (by with_reducible assumption) ?_
                        rotate_left
                        · intro w hSw
                          try dsimp only at hSw
                          go_simp
                          try with_reducible rfl
                        try simp only [Act.put]
                        refine wpAnyH_ready (rs := [21]) (by kernel_rfl) (by simp) ?_
                        refine AllReadyH.cons (o := _) rfl (fun K hK => ?_) ?_
                        · go_simp
                          refine hK.out _ _ (trivial) (fun hHeld => ?_)
                          clear hK K
                          try simp only [Act.put, List.setIfInBounds_toArray, List.set_cons_zero, List.set_cons_succ]
                          refine wpAnyH_done (by kernel_rfl) ?_ _
                          go_wp2
                          go_roundw
                          case rel => exact ⟨k + 1, by omega, by go_num, _, _, _, _, _, _, HX6.out.1.1.put.1, made_put HBL.out HX6.out.2 HX6.out.1.1⟩
                          case measure => simp [intOf] <;> omega
                        exact AllReadyH.nil
                      exact AllReadyH.nil
                    exact AllReadyH.nil
                  exact AllReadyH.nil
                exact AllReadyH.nil
              exact AllReadyH.nil
            exact AllReadyH.nil
          exact AllReadyH.nil
        refine AllReadyH.cons (o := _) rfl (fun K hK => ?_) ?_
        · go_simp
          go_at_call 31
          refine (of_nil _).mono ?_
          rintro e w1 ⟨rfl, hw1⟩
          have HW1 := Lib.hid hw1
          have G1 := Lib.hid (show Grow W0 w1 by rw [hw1]; exact grow_one _ _)
          have p1 := (below_cell G1.out hsb0).trans d1
          have p2 := (below_cell G1.out hsb0).trans d2
          have hsb1 : sb < w1.heap.size := Nat.lt_of_lt_of_le hsb0 G1.out.size
          clear hw1
          refine hK.out _ _ (trivial) (fun hHeld => ?_)
          clear hK K
          try simp only [Act.put, List.setIfInBounds_toArray, List.set_cons_zero, List.set_cons_succ]
          refine wpAnyH_ready (rs := [5, 7]) (by kernel_rfl) (by simp) ?_
          refine AllReadyH.cons (o := _) rfl (fun K hK => ?_) ?_
          · go_simp
            refine hK.out _ _ (trivial) (fun hHeld => ?_)
            clear hK K
            try simp only [Act.put, List.setIfInBounds_toArray, List.set_cons_zero, List.set_cons_succ]
            refine wpAnyH_ready (rs := [7]) (by kernel_rfl) (by simp) ?_
            refine AllReadyH.cons (o := _) rfl (fun K hK => ?_) ?_
            · go_simp
              refine hK.out _ _ (trivial) (fun hHeld => ?_)
              clear hK K
              try simp only [Act.put, List.setIfInBounds_toArray, List.set_cons_zero, List.set_cons_succ]
              refine wpAnyH_ready (rs := [8]) (by kernel_rfl) (by simp) ?_
              refine AllReadyH.cons (o := _) rfl (fun K hK => ?_) ?_
              · refine step_append_lies _ (by rfl) (.tmp 31) (.tmp 33) 78 (by rfl) sb 81 i0 _ 1 8 Try.underlying78 hi0 hz0 hz1 hz2 rfl (by decide) (.slice x k cx) k _ (by rfl) (own_go HN.out.rx (G1.out.trans (grow_one w1 _))) ⟨w1.heap.size, 0, none⟩ 1 1 [.pointer (some ⟨W0.heap.size, 0, none⟩)] (by rfl) (by rfl) (news81 _ w1.heap.size rfl #[.pointer (some ⟨W0.heap.size, 0, none⟩)]) (by simp [Value.oneCell']) (by omega) (by simp only [maxLen]; omega) (by omega) (by simp; omega) (w1.heap.size + 1) (by simp) ?_
                intro gx cpx w3 hown1 hgrow hat hlt2
                have HX3 := Lib.hid (And.intro (HN.out.app1 HW1.out hgrow hown1 hat) (app_low HN.out.rx HW1.out hgrow HN.out.los))
                have q1 : w3.cell? ⟨sb, 1, none⟩ = some (.slice x k cx) := cell_of_block (off := 1) HX3.out.1.1.blk
                have q2 : w3.cell? ⟨sb, 2, none⟩ = some (.slice y k cy) := cell_of_block (off := 2) HX3.out.1.1.blk
                have hsb3 : sb < w3.heap.size := lt_of_block HX3.out.1.1.blk
                clear hown1 hgrow hat hlt2
                refine hK.out _ _ (trivial) (fun hHeld => ?_)
                clear hK K
                try simp only [Act.put, List.setIfInBounds_toArray]
                refine wpAnyH_ready (rs := [13]) (by kernel_rfl) (by simp) ?_
                refine AllReadyH.cons (o := _) rfl (fun K hK => ?_) ?_
                · go_simp
                  go_at_call 31
                  refine (of_nil _).mono ?_
                  rintro e w4 ⟨rfl, hw4⟩
                  have HW4 := Lib.hid hw4
                  have G4 := Lib.hid (show Grow w3 w4 by rw [hw4]; exact grow_one _ _)
                  have s1 := (below_cell G4.out hsb3).trans q1
                  have s2 := (below_cell G4.out hsb3).trans q2
                  have hsb4 : sb < w4.heap.size := Nat.lt_of_lt_of_le hsb3 G4.out.size
                  clear hw4
                  refine hK.out _ _ (trivial) (fun hHeld => ?_)
                  clear hK K
                  try simp only [Act.put, List.setIfInBounds_toArray, List.set_cons_zero, List.set_cons_succ]
                  refine wpAnyH_ready (rs := [14]) (by kernel_rfl) (by simp) ?_
                  refine AllReadyH.cons (o := _) rfl (fun K hK => ?_) ?_
                  · go_simp
                    refine hK.out _ _ (trivial) (fun hHeld => ?_)
                    clear hK K
                    try simp only [Act.put, List.setIfInBounds_toArray, List.set_cons_zero, List.set_cons_succ]
                    refine wpAnyH_ready (rs := [15]) (by kernel_rfl) (by simp) ?_
                    refine AllReadyH.cons (o := _) rfl (fun K hK => ?_) ?_
                    · refine step_append_lies _ (by rfl) (.tmp 38) (.tmp 40) 78 (by rfl) sb 81 i0 _ 1 8 Try.underlying78 hi0 hz0 hz1 hz2 rfl (by decide) (.slice y k cy) k _ (by rfl) (own_go HX3.out.1.1.ry (G4.out.trans (grow_one w4 _))) ⟨w4.heap.size, 0, none⟩ 1 1 [.pointer (some ⟨w3.heap.size, 0, none⟩)] (by rfl) (by rfl) (news81 _ w4.heap.size rfl #[.pointer (some ⟨w3.heap.size, 0, none⟩)]) (by simp [Value.oneCell']) (by omega) (by simp only [maxLen]; omega) (by omega) (by simp; omega) (w4.heap.size + 1) (by simp) ?_
                      intro gy cpy w6 hown2 hgrow2 hat2 hlt3
                      have HX6 := Lib.hid (And.intro (HX3.out.1.1.app2 HW4.out hgrow2 hown2 hat2) (HX3.out.2.trans (app_low HX3.out.1.1.ry HW4.out hgrow2 HX3.out.1.1.los)))
                      have t1 : w6.cell? ⟨sb, 1, none⟩ = some (.slice x k cx) := cell_of_block (off := 1) HX6.out.1.1.blk
                      have t2 : w6.cell? ⟨sb, 2, none⟩ = some (.slice y k cy) := cell_of_block (off := 2) HX6.out.1.1.blk
                      have f1 : w6.frozen? ⟨sb, 1, none⟩ = false := free_of_block HX6.out.1.1.blk
                      have f2 : w6.frozen? ⟨sb, 2, none⟩ = false := free_of_block HX6.out.1.1.blk
                      have hsb6 : sb < w6.heap.size := lt_of_block HX6.out.1.1.blk
                      clear hown2 hgrow2 hat2 hlt3
                      refine hK.out _ _ (trivial) (fun hHeld => ?_)
                      clear hK K
                      try simp only [Act.put, List.setIfInBounds_toArray]
                      refine wpAnyH_take (i := 16) (v := ?_) rfl (by kernel_rfl) (by kernel_rfl) (by kernel_rfl) (fun _ _ _ h => h) (Or.inl ⟨by rfl, ?_⟩) (by with_reducible assumption) ?_
                      rotate_left
                      · intro w hSw
                        try dsimp only at hSw
                        go_simp
                        try with_reducible rfl
                      try simp only [Act.put]
                      refine wpAnyH_take (i := 17) (v := ?_) rfl (by kernel_rfl) (by kernel_rfl) (by kernel_rfl) (fun _ _ _ h => h) (Or.inl ⟨by rfl, ?_⟩) (by with_reducible assumption) ?_
                      rotate_left
                      · intro w hSw
                        try dsimp only at hSw
                        go_simp
                        try with_reducible rfl
                      try simp only [Act.put]
                      refine wpAnyH_ready (rs := [18]) (by kernel_rfl) (by simp) ?_
                      refine AllReadyH.cons (o := _) rfl (fun K hK => ?_) ?_
                      · go_simp
                        refine hK.out _ _ (trivial) (fun hHeld => ?_)
                        clear hK K
                        try simp only [Act.put, List.setIfInBounds_toArray, List.set_cons_zero, List.set_cons_succ]
                        refine wpAnyH_take (i := 19) (v := ?_) rfl (by kernel_rfl) (by kernel_rfl) (by kernel_rfl) (fun _ _ _ h => h) (Or.inl ⟨by rfl, ?_⟩) (by with_reducible assumption) ?_
                        rotate_left
                        · intro w hSw
                          try dsimp only at hSw
                          go_simp
                          try with_reducible rfl
                        try simp only [Act.put, List.setIfInBounds_toArray]
                        refine wpAnyH_take (i := 20) (v := ?_) rfl (by kernel_rfl) (by kernel_rfl) (by kernel_rfl) (fun _ _ _ h => h) (Or.inl ⟨by rfl, ?_⟩) (by with_reducible assumption) ?_
                        rotate_left
                        · intro w hSw
                          try dsimp only at hSw
                          go_simp
                          try with_reducible rfl
                        try simp only [Act.put]
                        refine wpAnyH_ready (rs := [21]) (by kernel_rfl) (by simp) ?_
                        refine AllReadyH.cons (o := _) rfl (fun K hK => ?_) ?_
                        · go_simp
                          refine hK.out _ _ (trivial) (fun hHeld => ?_)
                          clear hK K
                          try simp only [Act.put, List.setIfInBounds_toArray, List.set_cons_zero, List.set_cons_succ]
                          refine wpAnyH_done (by kernel_rfl) ?_ _
                          go_wp2
                          go_roundw
                          case rel => exact ⟨k + 1, by omega, by go_num, _, _, _, _, _, _, HX6.out.1.1.put.1, made_put HBL.out HX6.out.2 HX6.out.1.1⟩
                          case measure => simp [intOf] <;> omega
                        exact AllReadyH.nil
                      exact AllReadyH.nil
                    exact AllReadyH.nil
                  exact AllReadyH.nil
                exact AllReadyH.nil
              exact AllReadyH.nil
            exact AllReadyH.nil
          refine AllReadyH.cons (o := _) rfl (fun K hK => ?_) ?_
          · go_simp
            refine hK.out _ _ (trivial) (fun hHeld => ?_)
            clear hK K
            try simp only [Act.put, List.setIfInBounds_toArray, List.set_cons_zero, List.set_cons_succ]
            refine wpAnyH_ready (rs := [5]) (by kernel_rfl) (by simp) ?_
            refine AllReadyH.cons (o := _) rfl (fun K hK => ?_) ?_
            · go_simp
              refine hK.out _ _ (trivial) (fun hHeld => ?_)
              clear hK K
              try simp only [Act.put, List.setIfInBounds_toArray, List.set_cons_zero, List.set_cons_succ]
              refine wpAnyH_ready (rs := [8]) (by kernel_rfl) (by simp) ?_
              refine AllReadyH.cons (o := _) rfl (fun K hK => ?_) ?_
              · refine step_append_lies _ (by rfl) (.tmp 31) (.tmp 33) 78 (by rfl) sb 81 i0 _ 1 8 Try.underlying78 hi0 hz0 hz1 hz2 rfl (by decide) (.slice x k cx) k _ (by rfl) (own_go HN.out.rx (G1.out.trans (grow_one w1 _))) ⟨w1.heap.size, 0, none⟩ 1 1 [.pointer (some ⟨W0.heap.size, 0, none⟩)] (by rfl) (by rfl) (news81 _ w1.heap.size rfl #[.pointer (some ⟨W0.heap.size, 0, none⟩)]) (by simp [Value.oneCell']) (by omega) (by simp only [maxLen]; omega) (by omega) (by simp; omega) (w1.heap.size + 1) (by simp) ?_
                intro gx cpx w3 hown1 hgrow hat hlt2
                have HX3 := Lib.hid (And.intro (HN.out.app1 HW1.out hgrow hown1 hat) (app_low HN.out.rx HW1.out hgrow HN.out.los))
                have q1 : w3.cell? ⟨sb, 1, none⟩ = some (.slice x k cx) := cell_of_block (off := 1) HX3.out.1.1.blk
                have q2 : w3.cell? ⟨sb, 2, none⟩ = some (.slice y k cy) := cell_of_block (off := 2) HX3.out.1.1.blk
                have hsb3 : sb < w3.heap.size := lt_of_block HX3.out.1.1.blk
                clear hown1 hgrow hat hlt2
                refine hK.out _ _ (trivial) (fun hHeld => ?_)
                clear hK K
                try simp only [Act.put, List.setIfInBounds_toArray]
                refine wpAnyH_ready (rs := [13]) (by kernel_rfl) (by simp) ?_
                refine AllReadyH.cons (o := _) rfl (fun K hK => ?_) ?_
                · go_simp
                  go_at_call 31
                  refine (of_nil _).mono ?_
                  rintro e w4 ⟨rfl, hw4⟩
                  have HW4 := Lib.hid hw4
                  have G4 := Lib.hid (show Grow w3 w4 by rw [hw4]; exact grow_one _ _)
                  have s1 := (below_cell G4.out hsb3).trans q1
                  have s2 := (below_cell G4.out hsb3).trans q2
                  have hsb4 : sb < w4.heap.size := Nat.lt_of_lt_of_le hsb3 G4.out.size
                  clear hw4
                  refine hK.out _ _ (trivial) (fun hHeld => ?_)
                  clear hK K
                  try simp only [Act.put, List.setIfInBounds_toArray, List.set_cons_zero, List.set_cons_succ]
                  refine wpAnyH_ready (rs := [14]) (by kernel_rfl) (by simp) ?_
                  refine AllReadyH.cons (o := _) rfl (fun K hK => ?_) ?_
                  · go_simp
                    refine hK.out _ _ (trivial) (fun hHeld => ?_)
                    clear hK K
                    try simp only [Act.put, List.setIfInBounds_toArray, List.set_cons_zero, List.set_cons_succ]
                    refine wpAnyH_ready (rs := [15]) (by kernel_rfl) (by simp) ?_
                    refine AllReadyH.cons (o := _) rfl (fun K hK => ?_) ?_
                    · refine step_append_lies _ (by rfl) (.tmp 38) (.tmp 40) 78 (by rfl) sb 81 i0 _ 1 8 Try.underlying78 hi0 hz0 hz1 hz2 rfl (by decide) (.slice y k cy) k _ (by rfl) (own_go HX3.out.1.1.ry (G4.out.trans (grow_one w4 _))) ⟨w4.heap.size, 0, none⟩ 1 1 [.pointer (some ⟨w3.heap.size, 0, none⟩)] (by rfl) (by rfl) (news81 _ w4.heap.size rfl #[.pointer (some ⟨w3.heap.size, 0, none⟩)]) (by simp [Value.oneCell']) (by omega) (by simp only [maxLen]; omega) (by omega) (by simp; omega) (w4.heap.size + 1) (by simp) ?_
                      intro gy cpy w6 hown2 hgrow2 hat2 hlt3
                      have HX6 := Lib.hid (And.intro (HX3.out.1.1.app2 HW4.out hgrow2 hown2 hat2) (HX3.out.2.trans (app_low HX3.out.1.1.ry HW4.out hgrow2 HX3.out.1.1.los)))
                      have t1 : w6.cell? ⟨sb, 1, none⟩ = some (.slice x k cx) := cell_of_block (off := 1) HX6.out.1.1.blk
                      have t2 : w6.cell? ⟨sb, 2, none⟩ = some (.slice y k cy) := cell_of_block (off := 2) HX6.out.1.1.blk
                      have f1 : w6.frozen? ⟨sb, 1, none⟩ = false := free_of_block HX6.out.1.1.blk
                      have f2 : w6.frozen? ⟨sb, 2, none⟩ = false := free_of_block HX6.out.1.1.blk
                      have hsb6 : sb < w6.heap.size := lt_of_block HX6.out.1.1.blk
                      clear hown2 hgrow2 hat2 hlt3
                      refine hK.out _ _ (trivial) (fun hHeld => ?_)
                      clear hK K
                      try simp only [Act.put, List.setIfInBounds_toArray]
                      refine wpAnyH_take (i := 16) (v := ?_) rfl (by kernel_rfl) (by kernel_rfl) (by kernel_rfl) (fun _ _ _ h => h) (Or.inl ⟨by rfl, ?_⟩) (by with_reducible assumption) ?_
                      rotate_left
                      · intro w hSw
                        try dsimp only at hSw
                        go_simp
                        try with_reducible rfl
                      try simp only [Act.put]
                      refine wpAnyH_take (i := 17) (v := ?_) rfl (by kernel_rfl) (by kernel_rfl) (by kernel_rfl) (fun _ _ _ h => h) (Or.inl ⟨by rfl, ?_⟩) (by with_reducible assumption) ?_
                      rotate_left
                      · intro w hSw
                        try dsimp only at hSw
                        go_simp
                        try with_reducible rfl
                      try simp only [Act.put]
                      refine wpAnyH_ready (rs := [18]) (by kernel_rfl) (by simp) ?_
                      refine AllReadyH.cons (o := _) rfl (fun K hK => ?_) ?_
                      · go_simp
                        refine hK.out _ _ (trivial) (fun hHeld => ?_)
                        clear hK K
                        try simp only [Act.put, List.setIfInBounds_toArray, List.set_cons_zero, List.set_cons_succ]
                        refine wpAnyH_take (i := 19) (v := ?_) rfl (by kernel_rfl) (by kernel_rfl) (by kernel_rfl) (fun _ _ _ h => h) (Or.inl ⟨by rfl, ?_⟩) (by with_reducible assumption) ?_
                        rotate_left
                        · intro w hSw
                          try dsimp only at hSw
                          go_simp
                          try with_reducible rfl
                        try simp only [Act.put, List.setIfInBounds_toArray]
                        refine wpAnyH_take (i := 20) (v := ?_) rfl (by kernel_rfl) (by kernel_rfl) (by kernel_rfl) (fun _ _ _ h => h) (Or.inl ⟨by rfl, ?_⟩) (by with_reducible assumption) ?_
                        rotate_left
                        · intro w hSw
                          try dsimp only at hSw
                          go_simp
                          try with_reducible rfl
                        try simp only [Act.put]
                        refine wpAnyH_ready (rs := [21]) (by kernel_rfl) (by simp) ?_
                        refine AllReadyH.cons (o := _) rfl (fun K hK => ?_) ?_
                        · go_simp
                          refine hK.out _ _ (trivial) (fun hHeld => ?_)
                          clear hK K
                          try simp only [Act.put, List.setIfInBounds_toArray, List.set_cons_zero, List.set_cons_succ]
                          refine wpAnyH_done (by kernel_rfl) ?_ _
                          go_wp2
                          go_roundw
                          case rel => exact ⟨k + 1, by omega, by go_num, _, _, _, _, _, _, HX6.out.1.1.put.1, made_put HBL.out HX6.out.2 HX6.out.1.1⟩
                          case measure => simp [intOf] <;> omega
                        exact AllReadyH.nil
                      exact AllReadyH.nil
                    exact AllReadyH.nil
                  exact AllReadyH.nil
                exact AllReadyH.nil
              exact AllReadyH.nil
            exact AllReadyH.nil
          exact AllReadyH.nil
        exact AllReadyH.nil
      exact AllReadyH.nil
    · obtain rfl : k = g.vars.length := by omega
      go_wp2_with fail
      obtain ⟨x, y, cx, cy, fs, ds, hN, hbl⟩ := hh.out
      have HN := Lib.hid hN
      have HBL := Lib.hid hbl
      have hGW : GramAt wr sb g := (gram_up (HG.out.below (HGW.out.mono hB)) HWB.out.2).below hbl
      have hT := try_t (n := n) (sb := sb) (w := wr) (lo := sb) (R := fun d w2 => (d = true → ∃ F Fo, GoodSets K n g sb F Fo w2) ∧ (d = false → Over K (rulesOf g) g.vars.length n))
        (fun d w2 w3 hs h => ⟨fun hd => by obtain ⟨F, Fo, h1⟩ := h.1 hd; exact ⟨F, Fo, setsR_sft h1.1 hs, h1.2⟩, h.2⟩) (fun w1 b hk1 hb hm => by
          have hgr : Grow wr w1 := hk1.below (Nat.le_refl _) (fun _ _ h => h)
          have hheld : held n = n := by unfold held; rw [if_neg (by omega), if_neg (by omega)]
          rw [hheld] at hm
          obtain ⟨pb, pc, qb, qc, bs, hX⟩ := fill_start (hN.go hgr) hv1 hm hn.1 (rulesOf g)
          have hls := hN.los
          refine (fill_any hX ⟨hK1, hK2⟩ hR (by have := hgr.size; omega) (by omega) hn.2 (hGW.below (below_up hgr hls)) hrl hleft hv1).mono ?_
          rintro e w2 (⟨rfl, F, Fo, hx, hc1, hc2⟩ | ho)
          · obtain ⟨l, s, h1, h2, h3, h4, h5⟩ := hx.met
            exact ⟨true, rfl, hx.tch, ⟨fun _ => ⟨F, Fo, hx.reads, hx.sysF, hx.sysD, hc1, hc2, by omega⟩, (fun h => by cases h)⟩, l, s, h1⟩
          · exact ⟨false, ⟨[], ho.1, rfl⟩, ho.2.2.1, ⟨(fun h => by cases h), fun _ => ho.2.1⟩, ho.2.2.2⟩)
      unfold fillV at hT
      refine hT.mono ?_
      rintro e w5 ⟨d, s, rfl, htch, hr⟩
      have HBB : Hid (Below w.heap.size w w5) := Lib.hid (Below.trans (show Below w.heap.size w W from HGW.out) ((HBL.out.trans (htch.below HN.out.los)).mono HWB.out.1))
      have HR := Lib.hid hr
      clear hT hGW hN hbl htch hr hh
      cases d
      · go_wp2_with fail
        go_ret2
        exact ⟨HBB.out, .inr ⟨rfl, by first | exact HR.out.2 rfl | exact HR.out.2 trivial⟩⟩
      · obtain ⟨F, Fo, hgs⟩ : ∃ F Fo, GoodSets K n g sb F Fo w5 := by first | exact HR.out.1 rfl | exact HR.out.1 trivial
        have HGS := Lib.hid hgs
        clear hgs
        go_wp2_with fail
        go_ret2
        exact ⟨HBB.out, .inl ⟨sb, F, Fo, rfl, HGS.out⟩⟩
end Go.Proofs.Ytmiiolgbjicocaa
