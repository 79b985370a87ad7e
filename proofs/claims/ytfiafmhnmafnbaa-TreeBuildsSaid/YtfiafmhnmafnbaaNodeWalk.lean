/- A tree is built: the walk. -/
import Derived.Test.YtfiafmhnmafnbaaNode
namespace Go.Proofs.Ytfiafmhnmafnbaa
open Go.RowKit
theorem info29 : (Try.prog.info? 29).map (fun i => (i.zero, i.size, i.bytes)) = some (some (.pointer none), 1, 8) := by kernel_rfl
theorem build_new {B bb : Nat} {g : GramD} {rl : List Int} {w : World} (h : BuildAt B bb g rl w) (o : Obj) : BuildAt B bb g rl (w.alloc o) := by
  obtain ⟨h1, h2, a, c, h3, h4, h5⟩ := h
  have hb := lt_of_block h3
  have hB : Below B w (w.alloc o) := (Below.refl _ _).alloc (by omega) _
  exact ⟨h1, h2.below hB, a, c, heap_alloc_keep h3, h4.below hB, h5⟩
theorem build_same {B bb : Nat} {g : GramD} {rl : List Int} {w w' : World} (h : BuildAt B bb g rl w) (hb : Below w.heap.size w w') : BuildAt B bb g rl w' := by
  obtain ⟨h1, h2, a, c, h3, h4, h5⟩ := h
  have hlt := lt_of_block h3
  have hB : Below B w w' := hb.mono (by omega)
  exact ⟨h1, h2.below hB, a, c, (hb.block _ hlt).trans h3, h4.below hB, h5⟩
theorem NodeInv.drewN {B bb nb : Nat} {g : GramD} {s r : Int} {kids : List PT} {rest : List Int} {w : World} {k : Nat} {ms : List MT} {v : Value} {wr : World} (h : NodeInv B bb nb g s r kids rest w k ms v wr) (n : Nat) :
    NodeInv B bb nb g s r kids rest w k ms v (wr.drewN n) :=
  ⟨h.len, h.pts, h.node, row_kept h.row fun _ _ => rfl, fun m hm => (h.lies m hm).drewN n, h.apart, build_same h.build ⟨rfl, rfl, rfl, Nat.le_refl _, fun _ _ => rfl⟩, h.kept.trans ⟨rfl, rfl, rfl, Nat.le_refl _, fun _ _ _ => rfl⟩, h.low, h.nbw⟩
theorem NodeInv.drew {B bb nb : Nat} {g : GramD} {s r : Int} {kids : List PT} {rest : List Int} {w : World} {k : Nat} {ms : List MT} {v : Value} {wr : World} (h : NodeInv B bb nb g s r kids rest w k ms v wr) :
    NodeInv B bb nb g s r kids rest w k ms v wr.drew :=
  ⟨h.len, h.pts, h.node, row_kept h.row fun _ _ => rfl, fun m hm => (h.lies m hm).drew, h.apart, build_same h.build ⟨rfl, rfl, rfl, Nat.le_refl _, fun _ _ => rfl⟩, h.kept.trans ⟨rfl, rfl, rfl, Nat.le_refl _, fun _ _ _ => rfl⟩, h.low, h.nbw⟩
/-- The builder behind one rule that is taken, the new node beside it. -/
theorem NodeInv.start {B bb : Nat} {g : GramD} {s r : Int} {kids : List PT} {rest : List Int} {w : World} {a : Option Addr} {c : Nat} (hB : B ≤ bb) (hg : GramAt w B g)
    (hb : w.heap[bb]? = some (.cells #[.slice g.ta g.terms.length g.tc, .slice g.va g.vars.length g.vc, .slice g.ra g.rules.length g.rc, .slice a (r :: (PT.rulesL kids ++ rest)).length c] 62 (0, 0)))
    (hi : Ints w B a (r :: (PT.rulesL kids ++ rest))) (hl : (r :: (PT.rulesL kids ++ rest)).length ≤ c) (hc : c ≤ 9223372036854775807) {t : TypeId} :
    t = 45 → NodeInv B bb w.heap.size g s r kids rest w 0 [] (.slice none 0 0) ((w.setCell ⟨bb, 3, none⟩ (.slice (if c = 1 then a else a.map (fun x => x.add 1)) (PT.rulesL kids ++ rest).length (c - 1))).alloc (.cells #[.int .i64 s, .int .i64 r, .slice none 0 0] t)) := by
  rintro rfl
  have hlt := lt_of_block hb
  have hBB : Below B w ((w.setCell ⟨bb, 3, none⟩ (.slice (if c = 1 then a else a.map (fun x => x.add 1)) (PT.rulesL kids ++ rest).length (c - 1))).alloc (.cells #[.int .i64 s, .int .i64 r, .slice none 0 0] 45)) :=
    ((Below.refl _ _).setCell (p := ⟨bb, 3, none⟩) hB _).alloc (by simp [World.setCell]; omega) _
  have hsz : (w.setCell ⟨bb, 3, none⟩ (.slice (if c = 1 then a else a.map (fun x => x.add 1)) (PT.rulesL kids ++ rest).length (c - 1))).heap.size = w.heap.size := by simp [World.setCell]
  refine ⟨rfl, by simp, ?_, World.ownsRow_nil _ _ _ _, by simp, by simp [Value.ownBlock, MT.blocksL], ?_, ?_, hlt, rfl⟩
  · rw [← hsz]
    exact heap_alloc_this _ _
  · exact ⟨hB, hg.below hBB, _, _, heap_alloc_keep (heap_setCell_known hb), (ints_tail hi hl).below hBB, by simp at hl ⊢; omega, by omega⟩
  · exact (Kept.setCell (S := (· = bb)) (Kept.refl _ _) (p := ⟨bb, 3, none⟩) (.inl rfl) _).alloc _
theorem nodeInv_right {B bb nb : Nat} {g : GramD} {s r : Int} {kids : List PT} {rest : List Int} {w : World} {k : Nat} {ms : List MT} {v : Value} {wr : World} (h : NodeInv B bb nb g s r kids rest w k ms v wr) {rn : Nat} (hrn : rn < g.rules.length) :
    ∃ rb ro, g.ra = some ⟨rb, ro, none⟩ ∧ wr.cell? ⟨rb, ro + rn * 3 + 1, none⟩ = some (.slice g.rules[rn].ra g.rules[rn].right.length g.rules[rn].rc) := by
  obtain ⟨rb, ro, h1, _, _, h2, _⟩ := h.build.2.1.rules rn hrn
  exact ⟨rb, ro, h1, h2⟩
theorem NodeInv.done {B bb nb : Nat} {g : GramD} {s r : Int} {kids : List PT} {rest : List Int} {w : World} {k : Nat} {ms : List MT} {v : Value} {wr : World} (h : NodeInv B bb nb g s r kids rest w k ms v wr) (hk : k = kids.length) :
    NodePost (.node s r kids) B bb g rest w (.returned (.pointer (some ⟨nb, 0, none⟩))) wr := by
  subst hk
  have hnw := h.nbw
  have hrow := h.row
  rw [show kids.length = ms.length from h.len.symm] at hrow
  refine ⟨.node nb v s r ms, rfl, ?_, ⟨by omega, h.node, row_low (by omega) hrow, MT.atL_iff.2 fun m hm => (h.lies m hm).low (by omega)⟩, ?_, ?_, h.kept⟩
  · rw [MT.pt_node, h.pts, List.take_length]
  · rw [MT.blocks]
    refine List.nodup_cons.2 ⟨fun hm => ?_, h.apart⟩
    rcases List.mem_append.1 hm with hm | hm
    · have := (row_lt h.row (g := nb) (by simpa using hm)).1
      omega
    · rw [MT.blocksL_flat] at hm
      obtain ⟨m, hm, hx⟩ := List.mem_flatMap.1 hm
      have := (h.lies m hm).lt nb hx
      omega
  · have := h.build
    rw [List.drop_length] at this
    simpa [PT.rulesL] using this
set_option maxRecDepth 100000 in
set_option maxHeartbeats 4000000 in
theorem node_any {B : Nat} {g : GramD} (hsm : Small g) (T : PT) (hv : T.valid g = true) {bb : Nat} {rest : List Int} {w : World} (h : BuildAt B bb g (T.rules ++ rest) w) :
    Calls Try.prog 30 #[.pointer (some ⟨bb, 0, none⟩), .int .i64 T.sym] w (NodePost T B bb g rest w) := by
  induction T using PT.ind generalizing rest w with | h s r kids ih => ?_
  have HI := fun W => Lib.hid (isVar_any s W)
  by_cases hs : s < 0
  · obtain ⟨h1, rfl, rfl⟩ := valid_leaf hv hs
    have HQ := Lib.hid h
    rw [show isv s = false by simp [isv]; omega] at HI
    clear h ih hv h1
    unfold PT.sym
    go_enter Try.func30, Try.ntmps30
    go_wp2_with (first | (go_at_call 35; refine (HI _).out.mono ?_; rintro e w' ⟨rfl, rfl⟩))
    go_ret
    refine ⟨.node w.heap.size (.slice none 0 0) s (-1) [], rfl, rfl, ⟨Nat.le_refl _, heap_alloc_this _ _, World.ownsRow_nil _ _ _ _, trivial⟩, by simp [MT.blocks, MT.blocksL, Value.ownBlock], ?_, (Kept.refl _ _).alloc _⟩
    have h2 := HQ.out
    simp only [PT.rules, PT.rulesL, if_neg (show ¬ 0 ≤ s by omega), List.nil_append] at h2
    exact build_new h2 _
  · obtain ⟨rn, rfl, hrn, hleft, hsyms, hkv⟩ := valid_var hv (by omega)
    have hkl : kids.length = g.rules[rn].right.length := by rw [← hsyms]; simp
    have hk8 : kids.length ≤ 8 := by rw [hkl]; exact hsm.2 rn hrn
    have hlr : g.rules.length ≤ 24 := hsm.1
    rw [show isv s = true by simp [isv]; omega] at HI
    have hz : (0 : Int) ≤ s := by omega
    rw [PT.rules, if_pos hz] at h
    obtain ⟨hB, hg, a, c, hb, hi, hl, hc⟩ := h
    simp only [List.cons_append, List.nil_append] at hb hi hl
    have HN := Lib.hid (NodeInv.start (s := s) hB hg hb hi hl hc rfl)
    obtain ⟨ob, oo, rfl, hob, hoc⟩ := hi 0 (by simp)
    simp only [List.getElem_cons_zero, Nat.add_zero] at hoc
    have hbw := lt_of_block hb
    have hsl := fun W => slice_1 W (some ⟨ob, oo, none⟩) ((rn : Int) :: (PT.rulesL kids ++ rest)).length c (by simp)
    simp only [List.length_cons, Nat.add_sub_cancel] at hsl hl hb
    have HSY := Lib.hid hsyms
    have IH : Hid (∀ k (hk : k < kids.length) (rest : List Int) (w : World), BuildAt B bb g (kids[k].rules ++ rest) w → Calls Try.prog 30 #[.pointer (some ⟨bb, 0, none⟩), .int .i64 kids[k].sym] w (NodePost kids[k] B bb g rest w)) :=
      Lib.hid fun k hk rest w h1 => ih _ (List.getElem_mem hk) (hkv _ (List.getElem_mem hk)) h1
    have c0 := cell_of_block (off := 3) hb
    simp only [List.getElem?_toArray, List.getElem?_cons_succ, List.getElem?_cons_zero] at c0
    have f0 : w.frozen? ⟨bb, 3, none⟩ = false := free_of_block hb
    have hlen0 : (0 : Int) < (((PT.rulesL kids ++ rest).length + 1 : Nat) : Int) := by omega
    clear ih hv hkv hsyms hg hi hb
    unfold PT.sym
    have HLn := Lib.hid (show (PT.rulesL kids ++ rest).length = (PT.rulesL kids ++ rest).length from rfl)
    generalize (PT.rulesL kids ++ rest).length = n at HN hsl hl c0 hlen0
    obtain ⟨X, m, hX⟩ : ∃ X m, (Value.slice (if c = 1 then some (⟨ob, oo, none⟩ : Addr) else (some (⟨ob, oo, none⟩ : Addr)).map (fun x => x.add 1)) n (c - 1)) = .slice X n m := ⟨_, _, rfl⟩
    rw [hX] at HN
    have HX := Lib.hid hX
    clear hX hsl
    have hcs : (X = some ⟨ob, oo, none⟩ ∧ m = 0 ∧ c = 1 ∧ n = 0) ∨ (X = some ⟨ob, oo + 1, none⟩ ∧ m = c - 1 ∧ c ≠ 1) := by
      have h1 := HX.out
      by_cases hc1 : c = 1
      · simp [hc1] at h1
        exact .inl ⟨h1.1.symm, h1.2.symm, hc1, by omega⟩
      · simp [hc1, addr_add] at h1
        exact .inr ⟨h1.1.symm, h1.2.symm, hc1⟩
    clear HX HLn
    obtain ⟨i0, hi0, hz0, hz1, hz2⟩ := info_parts info29
    rcases hcs with ⟨rfl, rfl, rfl, rfl⟩ | ⟨rfl, rfl, hc1⟩
    all_goals
      go_enter Try.func30, Try.ntmps30
      go_wp2_with (first | (go_at_call 35; refine (HI _).out.mono ?_; rintro e w' ⟨rfl, rfl⟩))
      first
        | (have hcc := hc1; generalize ((w.setCell ⟨bb, 3, none⟩ (.slice (some ⟨ob, oo + 1, none⟩) n (c - 1))).alloc (.cells #[.int .i64 s, .int .i64 rn, .slice none 0 0] 45)) = W1 at *; clear hcc hc1)
        | generalize ((w.setCell ⟨bb, 3, none⟩ (.slice (some ⟨ob, oo, none⟩) 0 0)).alloc (.cells #[.int .i64 s, .int .i64 rn, .slice none 0 0] 45)) = W1 at *
      clear c0 f0 hl hc hlen0 hoc
      obtain ⟨rb, ro, hra, gR⟩ := nodeInv_right HN.out hrn
      obtain ⟨_, _, gba, gbc, gblk, _⟩ := HN.out.build
      have gB := cell_of_block (off := 2) gblk
      have gN := cell_of_block (off := 1) HN.out.node
      simp only [List.getElem?_toArray, List.getElem?_cons_succ, List.getElem?_cons_zero] at gB gN
      rw [hra] at gB
      have hri : (rn : Int) < g.rules.length := by omega
      have hri0 : (0 : Int) ≤ rn := by omega
      generalize w.heap.size = nb at *
      go_quiet (fail)
      have HN1 := Lib.hid (HN.out.drewN nq)
      clear HN gR gblk gB gN
      generalize W1.drewN nq = W2 at *
      go_wp2
      go_loopw [44] (fun i wr => ∃ k : Nat, k ≤ kids.length ∧ i = .int .i64 k ∧ Hid (∃ ms v, NodeInv B bb nb g s rn kids rest w k ms v wr)) (fun i _ => kids.length - (intOf i).toNat)
      case atStart => exact ⟨0, by omega, rfl, _, _, HN1.out⟩
      case round =>
        clear HN1
        obtain ⟨k, hk, rfl, hh⟩ := hrel
        obtain ⟨ms, v, hN⟩ := hh.out
        have HN := Lib.hid hN
        have HNd := Lib.hid hN.drew
        have hrow := hN.row
        rw [show k = (ms.map MT.ptr).length by rw [List.length_map, hN.len]] at hrow
        obtain ⟨va, vc, rfl, -, -, -, -⟩ := row_reads hrow
        rw [List.length_map, hN.len] at HN HNd
        have gN := cell_of_block (off := 2) HN.out.node
        have gS := cell_of_block (off := 0) HN.out.node
        simp only [List.getElem?_toArray, List.getElem?_cons_succ, List.getElem?_cons_zero] at gN
        have fN : wr.frozen? ⟨nb, 2, none⟩ = false := free_of_block HN.out.node
        have hnb := lt_of_block HN.out.node
        clear hh hN hrow gS
        by_cases hlt : k < kids.length
        · obtain ⟨xb, xo, hxa, hxb, hxc⟩ : ∃ xb xo, g.rules[rn].ra = some ⟨xb, xo, none⟩ ∧ xb < B ∧ wr.cell? ⟨xb, xo + k, none⟩ = some (.int .i64 kids[k].sym) := by
            obtain ⟨_, _, _, _, _, _, _, hI, _⟩ := HN.out.build.2.1.rules rn hrn
            obtain ⟨xb, xo, h1, h2, h3⟩ := hI k (by omega)
            refine ⟨xb, xo, h1, h2, ?_⟩
            rw [h3]
            have : g.rules[rn].right[k]'(by omega) = kids[k].sym := by
              have := List.getElem_of_eq HSY.out (i := k) (by simpa using hlt)
              rw [List.getElem_map] at this
              exact this.symm
            rw [this]
          have hki : (k : Int) < g.rules[rn].right.length := by omega
          have IHk := Lib.hid (IH.out k hlt (PT.rulesL (kids.drop (k + 1)) ++ rest) wr.drew (by
            have := HNd.out.build
            rw [List.drop_eq_getElem_cons hlt] at this
            simpa only [PT.rulesL, List.append_assoc] using this))
          rw [hxa]
          have HTT := Lib.hid hlt
          generalize hT : kids[k]'hlt = T at hxc IHk
          have HTk := Lib.hid hT
          generalize hy : T.sym = y at *
          clear hT hy hxa
          go_wp2
          go_region_law (first
            | (refine step_append_lies _ (by rfl) (.tmp 52) (.tmp 56) 43 (by rfl) (nb + 1) 29 i0 _ 1 8 Try.underlying43 hi0 hz0 hz1 hz2 rfl (by omega) (.slice va k vc) k _ (by rfl) HRW.out ⟨w1.heap.size, 0, none⟩ 1 1 [.pointer (some ⟨tb, 0, none⟩)] (by rfl) (by rfl) (World.news_of_block (cs := #[.pointer (some ⟨tb, 0, none⟩)]) (t := 29) (fr := (0, 0)) (heap_alloc_new _ _)) (by simp [Value.oneCell']) (by omega) (by simp only [maxLen]; omega) (by omega) (by simp; omega) (w1.heap.size + 1) (by simp) ?_; intro gg cap' w3 hown1 hgrow hat hlt2
               have gN3 : w3.cell? ⟨nb, 2, none⟩ = some (.slice va k vc) := (hgrow.cell ((World.cell?_alloc_past _ _ _ (by omega)).trans gN1) (fun e => by have := (row_lt HN.out.row e.symm).1; simp only at this; omega))
               have fN3 : w3.frozen? ⟨nb, 2, none⟩ = false := ((hgrow.frozen_far _ (by simp; omega) (fun e => by have := (row_lt HN.out.row e.symm).1; simp only at this; omega)).trans ((World.frozen?_alloc_past _ _ _ (by omega)).trans fN1)))
            | (go_simp; go_at_call 30; refine IHk.out.mono ?_; rintro e w1 ⟨t, he, hpt, hAt, hnd, hbu, hkp⟩
               unfold MT.ptr at he
               subst he
               have gN1 : w1.cell? ⟨nb, 2, none⟩ = some (.slice va k vc) := (World.cell?_of_block (hkp.block nb hnb (by omega))).trans gN
               have fN1 : w1.frozen? ⟨nb, 2, none⟩ = false := (World.frozen?_of_block (hkp.block nb hnb (by omega))).trans fN
               have hs1 : wr.heap.size ≤ w1.heap.size := hkp.size
               have hnb1 : nb < w1.heap.size := by omega
               have HT := Lib.hid (And.intro hpt (And.intro hAt (And.intro hnd (And.intro hbu hkp))))
               have HTP := Lib.hid (show t.ptr = .pointer (some ⟨t.blk, 0, none⟩) from rfl)
               have HR1 : Hid (w1.ownsRow (nb + 1) 29 1 (.slice va k vc) k (ms.map MT.ptr)) := row_kept HN.out.row fun x hx => by
                 have := row_lt HN.out.row hx
                 exact hkp.block x this.2 (by omega)
               clear hpt hAt hnd hbu hkp
               generalize t.blk = tb at *
               have HRW : Hid ((w1.alloc (.cells #[.pointer (some ⟨tb, 0, none⟩)] 29)).ownsRow (nb + 1) 29 1 (.slice va k vc) k (ms.map MT.ptr)) := row_kept HR1.out fun x hx => Below.heap_alloc _ _ _ (row_lt HR1.out hx).2))
          all_goals
            go_wp2
            go_roundw
            case rel =>
              have HF := Lib.hid (HNd.out.next hlt (HT.out.1.trans HTk.out.symm) HT.out.2.1 HT.out.2.2.1 HT.out.2.2.2.1 HT.out.2.2.2.2 rfl hgrow (by rw [HTP.out]; exact hown1) hat)
              exact ⟨k + 1, by omega, by go_num, _, _, HF.out⟩
            case measure => simp [intOf]; omega
        · have hke : k = kids.length := by omega
          have hki : ¬ (k : Int) < g.rules[rn].right.length := by omega
          have HF := Lib.hid (HN.out.done hke)
          clear HN HNd
          go_wp2
          go_ret
          exact HF.out
end Go.Proofs.Ytfiafmhnmafnbaa
