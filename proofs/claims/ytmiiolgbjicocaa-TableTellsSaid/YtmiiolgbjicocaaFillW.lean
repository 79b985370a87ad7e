/- The filling of the sets: the walk. -/
import Derived.Test.YtmiiolgbjicocaaFillA
import Derived.Deep.RegionHeld3
import Derived.Test.YtmiiolgbjicocaaRight
namespace Go.Proofs.Ytmiiolgbjicocaa
open Go.RowKit
attribute [local go_sem] run_store_float
theorem rules_len (g : GramD) : (rulesOf g).length = g.rules.length := by unfold rulesOf; rw [List.length_map]
theorem again_less {c : Bool} {a b : Nat} (h : c = true → a < b) : (match Value.bool c with | .bool true => 1 + a | _ => 0) < 1 + b := by
  cases c with
  | true => have := h rfl; show 1 + a < 1 + b; omega
  | false => show 0 < 1 + b; omega
def FillPost (w : World) (lo mb sb : Nat) (K : Int) (pb pc qb qc : Nat) (g : GramD) (R : Rls) (bs : List Nat) (nv : Nat) (n0 : Int) (e : Ending) (w' : World) : Prop :=
  (e = .returned (.tuple #[]) ∧ ∃ F Fo, FillX w lo mb sb K pb pc qb qc g R bs nv n0 [] [] F Fo w' ∧ ClosedF K R (memF F) ∧ ClosedD K R (memF F) (memF Fo)) ∨ OverPost w lo mb K R nv n0 e w'
theorem tch_gram {lo mb : Nat} {w wr : World} {g : GramD} (h : Tch lo mb w wr) (hl : lo ≤ w.heap.size) (hg : GramAt w lo g) : GramAt wr lo g := hg.below (h.below hl)
theorem grow_one (w : World) (o : Obj) : Grow w (w.alloc o) := ((Kept.refl (fun _ => False) w).alloc o).below (Nat.le_refl _) (fun _ _ h => h)
theorem grow_oned (w : World) (o : Obj) : Grow w (w.alloc o).drew := ((Kept.refl (fun _ => False) w).alloc o).drew.below (Nat.le_refl _) (fun _ _ h => h)
theorem below_up {w w' : World} {B : Nat} (h : Grow w w') (hB : B ≤ w.heap.size) : Below B w w' := ⟨h.os, h.tape, h.output, h.size, fun k hk => h.block k (by omega)⟩
/-- A block that filling leaves. -/
theorem tch_block {lo mb : Nat} {w w' : World} (h : Tch lo mb w w') {n0 : Int} {F Fo : List Wds} (hm : ∃ l s : Int, MeterAt w mb l s ∧ 0 ≤ l ∧ 0 ≤ s ∧ l + s = n0 ∧ s = (wordsN F + wordsN Fo : Nat)) {k : Nat} {cs : Array Value} {t : TypeId} (hk : w.heap[k]? = some (.cells cs t (0, 0))) (h1 : t ≠ 108) (h2 : t ≠ 26) (h3 : t ≠ 114) : w'.heap[k]? = some (.cells cs t (0, 0)) := by
  refine (h.typ k cs t hk h1 h2 ?_).trans hk
  rintro rfl
  obtain ⟨l, s, hm, _⟩ := hm
  unfold MeterAt at hm
  rw [hm] at hk
  injection hk with hk
  injection hk with _ h5
  exact h3 h5.symm
theorem rulesOf_at {g : GramD} {k : Nat} (hk : k < g.rules.length) : (rulesOf g)[k]? = some (g.rules[k].left.toNat, g.rules[k].right) := by
  unfold rulesOf
  rw [List.getElem?_map, List.getElem?_eq_getElem hk]; rfl
set_option maxRecDepth 100000 in
theorem slice_lh1 (W : World) (b o n c m : Nat) (h : m + 1 ≤ c) : (Instr.slice 26 (.slice (some ⟨b, o, none⟩) n c) (some (.int .i64 (m : Int))) (some (.int .i64 ((m : Int) + 1))) none).run Try.prog W = .ok (.slice (some ⟨b, o + m, none⟩) 1 (c - m)) W := by
  have hz : (Go.sizeOf 3).run Try.prog W = .ok 1 W := rfl
  have he : Try.prog.elem 26 = 3 := by simp [Program.elem, Try.underlying26]
  rw [run_slice_lh W 26 _ _ _ (by simp [Program.elem, Try.underlying26]) .i64 .i64 _ _ (by omega) (by omega) (by omega), he, hz]
  have h1 : ¬ c = m := by omega
  have h2 : ((m : Int) + 1).toNat - m = 1 := by omega
  simp [Result.andThen, sliced, Addr.add, h1]
theorem lst_drop {W : World} {b o : Nat} {xs : List Int} (h : Lst W (some ⟨b, o, none⟩) xs) {m : Nat} (hm : m < xs.length) : Lst W (some ⟨b, o + m, none⟩) [xs[m]] := fun i hi => by
  have : i = 0 := by simpa using hi
  subst this
  obtain ⟨b', o', h1, h2, h3⟩ := h m hm
  simp only [Option.some.injEq, Addr.mk.injEq, and_true] at h1
  obtain ⟨rfl, rfl⟩ := h1
  exact ⟨b, o + m, rfl, h2, h3⟩
theorem ints_lst {W : World} {lo : Nat} {a : Option Addr} {xs : List Int} (h : Ints W lo a xs) (hl : lo ≤ W.heap.size) : Lst W a xs := fun i hi => by
  obtain ⟨b, off, h1, h2, h3⟩ := h i hi
  exact ⟨b, off, h1, by omega, h3⟩
def IsB (b : Bool) (n : Nat) : Prop := b = true ↔ 0 < n
theorem nil_in {w : World} {lo mb sb : Nat} {K : Int} {pb pc qb qc : Nat} {g : GramD} {R : Rls} {bs : List Nat} {nv : Nat} {n0 : Int} {bx : List Nat} {lx : List Wds} {F Fo : List Wds} {wr : World} (h : FillX w lo mb sb K pb pc qb qc g R bs nv n0 bx lx F (Fo.set 0 (takeL (Fo.getD 0 []) [[]])) wr) (hp : 0 < nv) : [] ∈ (Fo.set 0 (takeL (Fo.getD 0 []) [[]])).getD 0 [] := by
  have := h.sysD.len
  rw [List.length_set] at this
  rw [getD_set (by omega), if_pos rfl, mem_takeL]
  exact .inr (by simp)
/-- A round's rules so far. -/
def DoneF (K : Int) (R : Rls) (F : List Wds) (k : Nat) : Prop := ∀ j, j < k → ∀ r, R[j]? = some r → ∀ u ∈ aheadL K F r.2 [[]], u ∈ F.getD r.1 []
def LoopF (w : World) (lo mb sb : Nat) (K : Int) (pb pc qb qc : Nat) (g : GramD) (R : Rls) (bs : List Nat) (nv : Nat) (n0 : Int) (Fo F : List Wds) (left k : Nat) (c : Bool) (wq : World) : Prop :=
  ∃ F', FillX w lo mb sb K pb pc qb qc g R bs nv n0 [] [] F' Fo wq ∧ (c = false → F' = F ∧ leftOf mb wq = left ∧ DoneF K R F k) ∧ (c = true → leftOf mb wq < left)
theorem fill_next {w W0 w3 : World} {lo mb sb : Nat} {K : Int} {pb pc qb qc : Nat} {g : GramD} {R : Rls} {bs : List Nat} {nv : Nat} {n0 : Int} {Fo F F' : List Wds} {left k : Nat} {c : Bool} {wq : World}
    (hc0 : c = false → F' = F ∧ leftOf mb wq = left ∧ DoneF K R F k) (hc1 : c = true → leftOf mb wq < left) {l2 : Nat} (hl2 : l2 = leftOf mb wq) (ht : Tch lo mb w W0) {r : Nat × List Int} (hr : R[k]? = some r)
    {bx : List Nat} {lx : List Wds} {n : Nat} (hx : FillX W0 lo mb sb K pb pc qb qc g R bs nv n0 bx lx (F'.set r.1 (takeL (F'.getD r.1 []) (aheadL K F' r.2 [[]]))) Fo w3) (hl : leftOf mb w3 + n = l2) (hn : n + (F'.getD r.1 []).length = (takeL (F'.getD r.1 []) (aheadL K F' r.2 [[]])).length)
    (hv : r.1 < nv) {bb c' : Bool} (hb : bb = true ↔ 0 < n) (hc' : c' = (bb || c)) : LoopF w lo mb sb K pb pc qb qc g R bs nv n0 Fo F left (k + 1) c' w3 := by
  refine ⟨_, (hx.cut.onto ht), fun h => ?_, fun h => ?_⟩
  · subst hc'
    have h1 : bb = false ∧ c = false := by simpa using h
    obtain ⟨rfl, h2, h3⟩ := hc0 h1.2
    have hn0 : n = 0 := by
      rcases Nat.eq_zero_or_pos n with h4 | h4
      · exact h4
      · have := hb.2 h4; rw [h1.1] at this; cases this
    subst hn0
    have hlen : F'.length = nv := by have := hx.sysF.len; rwa [List.length_set] at this
    have hmem := takeL_same (A := F'.getD r.1 []) (B := aheadL K F' r.2 [[]]) (by omega)
    refine ⟨?_, by omega, fun j hj q hq u hu => ?_⟩
    · rw [takeL_id hmem, set_same (by omega)]
    · rcases Nat.lt_or_ge j k with h4 | h4
      · exact h3 j h4 q hq u hu
      · obtain rfl : j = k := by omega
        rw [hr] at hq; cases hq
        exact hmem u hu
  · subst hc'
    cases c with
    | true => have := hc1 rfl; omega
    | false =>
      have h2 := (hc0 rfl).2.1
      have : bb = true := by simpa using h
      have := hb.1 this
      omega
set_option maxRecDepth 100000 in
set_option maxHeartbeats 4000000 in
theorem fill_any {w : World} {lo mb sb : Nat} {K : Int} {pb pc qb qc : Nat} {g : GramD} {bs : List Nat} {nv : Nat} {n0 : Int} {F0 Fo0 : List Wds} (h : FillX w lo mb sb K pb pc qb qc g (rulesOf g) bs nv n0 [] [] F0 Fo0 w) (hK : 1 ≤ K ∧ K ≤ 2) (hR : GoodR nv (rulesOf g)) (hlo : lo ≤ w.heap.size) (hml : lo ≤ mb) (hn0 : n0 ≤ 1000000)
    (hg : GramAt w lo g) (hrl : g.rules.length ≤ 24) (hleft : ∀ i (h : i < g.rules.length), 0 ≤ g.rules[i].left ∧ g.rules[i].right.length ≤ g.rules[i].rc) (hpos : 0 < nv) :
    Calls Try.prog 33 #[.pointer (some ⟨sb, 0, none⟩), .pointer (some ⟨mb, 0, none⟩)] w (FillPost w lo mb sb K pb pc qb qc g (rulesOf g) bs nv n0) := by
  have H0 := Lib.hid h
  have HG := Lib.hid hg
  have HLF := Lib.hid hleft
  have HRR := Lib.hid hR
  clear h hg hleft hR
  have HK := Lib.hid hK
  clear hK
  have hri : (g.rules.length : Int) ≤ 24 := by omega
  go_enter Try.func33, Try.ntmps33
  go_wp2_with fail
  go_loopw [4] (fun ag wr => ∃ b : Bool, ag = .bool b ∧ Hid (∃ F, FillX w lo mb sb K pb pc qb qc g (rulesOf g) bs nv n0 [] [] F Fo0 wr ∧ (b = false → ClosedF K (rulesOf g) (memF F)))) (fun ag wr => match ag with | .bool true => 1 + leftOf mb wr | _ => 0)
  case atStart => exact ⟨true, rfl, _, H0.out, fun h => by cases h⟩
  case round =>
    obtain ⟨b, rfl, hh⟩ := hrel
    obtain ⟨F, hF, hcl⟩ := hh.out
    have HF := Lib.hid hF
    have HCL := Lib.hid hcl
    have s5 : wr.cell? ⟨sb, 5, none⟩ = some (.slice g.ra g.rules.length g.rc) := cell_of_block (off := 5) hF.sets.blk
    clear hh hF hcl
    cases b
    · have HCF := Lib.hid (HCL.out rfl)
      clear HCL s5
      go_wp2_with fail
      have HB := Lib.hid HF.out.rebase
      have HT0 := Lib.hid HF.out.tch
      have HLW := Lib.hid (Nat.le_trans hlo HF.out.tch.size)
      obtain ⟨cs, hcs, hps⟩ := HB.out.sets.fol
      obtain ⟨b, hb, hbc⟩ := hps 0 hpos
      have HBB := Lib.hid hb
      have HK2 := Lib.hid (show ∀ w', Tch lo mb wr w' → w'.cell? ⟨sb, 2, none⟩ = some (.slice (some ⟨qb, 0, none⟩) nv qc) ∧ w'.cell? ⟨qb, 0, none⟩ = some (.pointer (some ⟨b, 0, none⟩)) from fun w' ht => by
        have e1 := tch_block ht HB.out.met HB.out.sets.blk (by decide) (by decide) (by decide)
        have e3 := tch_block ht HB.out.met hcs (by decide) (by decide) (by decide)
        exact ⟨cell_of_block (off := 2) e1, (cell_of_block (off := 0) e3).trans hbc⟩)
      have hSd := HK2.out wr.drew (Tch.grow (grow_drew _))
      have hB1 := Lib.hid (two_at wr (.cells #[] 3) (.cells #[.slice (some ⟨wr.heap.size, 0, none⟩) 0 0] 26)).2
      have hposi : (0 : Int) < nv := by omega
      clear hcs hps hb hbc HF
      refine wp_region_held_drew (S := fun w' => w'.cell? ⟨sb, 2, none⟩ = some (.slice (some ⟨qb, 0, none⟩) nv qc) ∧ w'.cell? ⟨qb, 0, none⟩ = some (.pointer (some ⟨b, 0, none⟩))) (by kernel_rfl) (hSd) (fun hHeld => ?_)
      refine wpAnyH_take (i := 0) (v := ?_) rfl (by kernel_rfl) (by kernel_rfl) (by kernel_rfl) (fun _ _ _ h => h) (Or.inl ⟨by rfl, ?_⟩) (by with_reducible assumption) ?_
      rotate_left
      · intro w hSw
        try dsimp only at hSw
        go_simp
        try with_reducible rfl
      try simp only [Act.put, List.setIfInBounds_toArray]
      refine wpAnyH_take (i := 1) (v := ?_) rfl (by kernel_rfl) (by kernel_rfl) (by kernel_rfl) (fun _ _ _ h => h) (Or.inl ⟨by rfl, ?_⟩) (by with_reducible assumption) ?_
      rotate_left
      · intro w hSw
        try dsimp only at hSw
        go_simp
        try with_reducible rfl
      try simp only [Act.put]
      refine wpAnyH_take (i := 2) (v := ?_) rfl (by kernel_rfl) (by kernel_rfl) (by kernel_rfl) (fun _ _ _ h => h) (Or.inl ⟨by rfl, ?_⟩) (by with_reducible assumption) ?_
      rotate_left
      · intro w hSw
        try dsimp only at hSw
        go_simp
        try with_reducible rfl
      try simp only [Act.put]
      refine wpAnyH_take (i := 3) (v := ?_) rfl (by kernel_rfl) (by kernel_rfl) (by kernel_rfl) (fun _ _ _ h => h) (Or.inl ⟨by rfl, ?_⟩) (by with_reducible assumption) ?_
      rotate_left
      · intro w hSw
        try dsimp only at hSw
        go_simp
        try with_reducible rfl
      try simp only [Act.put]
      refine wpAnyH_take (i := 4) (v := ?_) rfl (by kernel_rfl) (by kernel_rfl) (by kernel_rfl) (fun _ _ _ h => h) (Or.inl ⟨by rfl, ?_⟩) (by with_reducible assumption) ?_
      rotate_left
      · intro w hSw
        try dsimp only at hSw
        go_simp
        try with_reducible rfl
      try simp only [Act.put]
      refine wpAnyH_take (i := 5) (v := ?_) rfl (by kernel_rfl) (by kernel_rfl) (by kernel_rfl) (fun _ _ _ h => h) (Or.inl ⟨by rfl, ?_⟩) (by with_reducible assumption) ?_
      rotate_left
      · intro w hSw
        try dsimp only at hSw
        go_simp
        try with_reducible rfl
      try simp only [Act.put]
      refine wpAnyH_take (i := 6) (v := ?_) rfl (by kernel_rfl) (by kernel_rfl) (by kernel_rfl) (fun _ _ _ h => h) (Or.inl ⟨by rfl, ?_⟩) (by with_reducible assumption) ?_
      rotate_left
      · intro w hSw
        try dsimp only at hSw
        go_simp
        try with_reducible rfl
      try simp only [Act.put]
      refine wpAnyH_ready (rs := [7]) (by kernel_rfl) (by simp) ?_
      refine AllReadyH.cons (o := _) rfl (fun K hK => ?_) ?_
      · go_simp
        refine hK.out _ _ (HK2.out _ (Tch.grow (grow_oned wr _))) (fun hHeld => ?_)
        clear hK K
        try simp only [Act.put, List.setIfInBounds_toArray, List.set_cons_zero, List.set_cons_succ]
        refine wpAnyH_ready (rs := [8]) (by kernel_rfl) (by simp) ?_
        refine AllReadyH.cons (o := _) rfl (fun K hK => ?_) ?_
        · go_simp
          refine hK.out _ _ (HK2.out _ (Tch.grow (grow_two wr _ _))) (fun hHeld => ?_)
          clear hK K
          try simp only [Act.put, List.setIfInBounds_toArray, List.set_cons_zero, List.set_cons_succ]
          refine wpAnyH_ready (rs := [9]) (by kernel_rfl) (by simp) ?_
          refine AllReadyH.cons (o := _) rfl (fun K hK => ?_) ?_
          · go_simp
            go_at_call 31
            refine (of_lit0 hB1.out).mono ?_
            rintro e w1 ⟨ob1, rfl, hs1, hg1⟩
            have HX1 := Lib.hid (And.intro (HB.out.go ((grow_two wr _ _).trans hg1)) hs1)
            clear hs1 hg1
            refine hK.out _ _ (HK2.out _ HX1.out.1.tch) (fun hHeld => ?_)
            clear hK K
            try simp only [Act.put, List.setIfInBounds_toArray, List.set_cons_zero, List.set_cons_succ]
            refine wpAnyH_ready (rs := [10]) (by kernel_rfl) (by simp) ?_
            refine AllReadyH.cons (o := _) rfl (fun K hK => ?_) ?_
            · go_simp
              go_at_call 64
              rcases HX1.out.1.follow HK.out.2 HRR.out HLW.out hml hn0 hpos HBB.out HX1.out.2 okW_nil (HX1.out.1.sysD.first hpos) with ⟨nn, hnn2, hcall⟩ | hcall
              rotate_left
              · refine hcall.mono ?_
                rintro e w3 ho
                have HOV := Lib.hid (ho.onto HT0.out)
                obtain rfl := ho.1
                clear ho
                exact ⟨rfl, .inr HOV.out⟩
              refine hcall.mono ?_
              rintro e w3 ⟨rfl, hx3, hl3⟩
              have HX3 := Lib.hid (And.intro hx3 (nil_in hx3 hpos))
              clear hx3 hl3 hnn2
              refine hK.out _ _ (HK2.out _ HX3.out.1.tch) (fun hHeld => ?_)
              clear hK K
              try simp only [Act.put, List.setIfInBounds_toArray, List.set_cons_zero, List.set_cons_succ]
              refine wpAnyH_done (by kernel_rfl) ?_ _
              go_wp2_with fail
              have HX4 := Lib.hid (And.intro (HX3.out.1.cut.onto HT0.out) HX3.out.2)
              clear HB HK2 hSd hB1 HX1 HX3 HBB
              go_loopw [7] (fun ag wq => ∃ b : Bool, ag = .bool b ∧ Hid (∃ Fo, FillX w lo mb sb K pb pc qb qc g (rulesOf g) bs nv n0 [] [] F Fo wq ∧ [] ∈ Fo.getD 0 [] ∧ (b = false → ClosedD K (rulesOf g) (memF F) (memF Fo)))) (fun ag wq => match ag with | .bool true => 1 + leftOf mb wq | _ => 0)
              case atStart => exact ⟨true, rfl, _, HX4.out.1, HX4.out.2, fun h => by cases h⟩
              case round =>
                clear HX4
                obtain ⟨b2, rfl, hh⟩ := hrel
                obtain ⟨Fo, hF2, h02, hcl2⟩ := hh.out
                have HF2 := Lib.hid hF2
                have H02 := Lib.hid h02
                have HCL2 := Lib.hid hcl2
                have s5 : wr.cell? ⟨sb, 5, none⟩ = some (.slice g.ra g.rules.length g.rc) := cell_of_block (off := 5) hF2.sets.blk
                clear hh hF2 h02 hcl2
                cases b2
                · go_wp2_with fail
                  go_end0
                  exact .inl ⟨rfl, F, Fo, HF2.out, HCF.out, (by first | exact HCL2.out rfl | exact HCL2.out trivial)⟩
                · clear HCL2
                  go_wp2_with fail
                  obtain ⟨wo, hwo⟩ : ∃ x, x = wr := ⟨_, rfl⟩
                  subst hwo
                  go_loopw [7, 63] (fun ag i wq => ∃ (k : Nat) (c : Bool), k ≤ g.rules.length ∧ i = .int .i64 k ∧ ag = .bool c ∧ Hid (LoopD w lo mb sb K pb pc qb qc g (rulesOf g) bs nv n0 F Fo (leftOf mb wo) k c wq)) (fun _ i _ => g.rules.length - (intOf i).toNat)
                  case atStart => exact ⟨0, false, by omega, rfl, rfl, Fo, HF2.out, H02.out, fun _ => ⟨rfl, rfl, fun j hj => by omega⟩, fun h => by cases h⟩
                  case round =>
                    clear s5
                    obtain ⟨k, c, hk, rfl, rfl, hh⟩ := hrel
                    obtain ⟨Fo', hF', h0', hc0, hc1⟩ := hh.out
                    have HX := Lib.hid hF'
                    have H0' := Lib.hid h0'
                    have HC0 := Lib.hid hc0
                    have HC1 := Lib.hid hc1
                    have hsz := hF'.tch.size
                    clear hh hF' hc0 hc1 h0'
                    by_cases hlt : k < g.rules.length
                    · have hki : (k : Int) < g.rules.length := by omega
                      obtain ⟨rb, off, hra, hrb, r0, r1, r2, hri2, hrl2⟩ := (tch_gram HX.out.tch hlo HG.out).rules k hlt
                      obtain ⟨hl0, hcap⟩ := HLF.out k hlt
                      obtain ⟨n, hn⟩ := Int.eq_ofNat_of_zero_le hl0
                      have HRK := Lib.hid (rulesOf_at hlt)
                      rw [hn] at HRK r0
                      generalize g.rules[k] = r at *
                      obtain ⟨left, xa, xs, xc, wt⟩ := r
                      dsimp only at *
                      subst hn
                      generalize hRA : g.ra = ra at *
                      subst hra
                      go_wp2_with fail
                      obtain ⟨hn1, hfo, hx8⟩ := HRR.out _ (List.mem_of_getElem? HRK.out)
                      dsimp only at hn1 hfo hx8
                      have HVV := Lib.hid hn1
                      have hnn : n < nv := by simpa using hn1
                      have hC := heap_alloc_this wr (.cells #[.int .i64 (n : Int), .slice xa xs.length xc, .float .f64 wt] 64)
                      have HB := Lib.hid (HX.out.go (grow_one wr (.cells #[.int .i64 (n : Int), .slice xa xs.length xc, .float .f64 wt] 64)))
                      have HGR := Lib.hid ((grow_one wr (.cells #[.int .i64 (n : Int), .slice xa xs.length xc, .float .f64 wt] 64)).trans (grow_drew _))
                      have HI := Lib.hid (hri2.below (below_up ((grow_one wr (.cells #[.int .i64 (n : Int), .slice xa xs.length xc, .float .f64 wt] 64)).trans (grow_drew _)) (Nat.le_trans hlo hsz)))
                      have hsz0 : wr.heap.size < (wr.alloc (.cells #[.int .i64 (n : Int), .slice xa xs.length xc, .float .f64 wt] 64)).heap.size := by simp
                      have hxs8 : xs.length ≤ 8 := hx8
                      clear r0 r1 r2 hri2 hn1
                      generalize hCC : wr.heap.size = C at *
                      generalize wr.alloc (.cells #[.int .i64 (n : Int), .slice xa xs.length xc, .float .f64 wt] 64) = W0 at *
                      have HLW0 := Lib.hid (show lo ≤ W0.heap.size by omega)
                      obtain ⟨cs, hcs, hps⟩ := HB.out.sets.fol
                      obtain ⟨b, hb, hbc⟩ := hps n hnn
                      have HBB := Lib.hid hb
                      have hSd : W0.drew.cell? ⟨sb, 2, none⟩ = some (.slice (some ⟨qb, 0, none⟩) nv qc) ∧ W0.drew.cell? ⟨C, 0, none⟩ = some (.int .i64 (n : Int)) ∧ W0.drew.cell? ⟨qb, n, none⟩ = some (.pointer (some ⟨b, 0, none⟩)) := ⟨cell_of_block (off := 2) HB.out.sets.blk, cell_of_block (off := 0) hC, (cell_of_block (off := n) hcs).trans hbc⟩
                      have HKC := Lib.hid (show ∀ w', Tch lo mb W0.drew w' → w'.cell? ⟨C, 1, none⟩ = some (.slice xa xs.length xc) ∧ C < w'.heap.size from fun w' ht => by
                        have e2 := tch_block ht HB.out.met hC (by decide) (by decide) (by decide)
                        exact ⟨cell_of_block (off := 1) e2, lt_of_block e2⟩)
                      have q1 := (HKC.out _ (Tch.refl _ _ _)).1
                      have HTS := Lib.hid (tail_start (r := ((n : Int).toNat, xs)) HX.out HK.out.2 HRR.out H0'.out HC0.out HC1.out HVV.out HBB.out HGR.out)
                      clear hcs hps hb hbc hC HBB
                      have hni : (n : Int) < nv := by omega
                      go_region_held3 (fun w' => w'.cell? ⟨sb, 2, none⟩ = some (.slice (some ⟨qb, 0, none⟩) nv qc) ∧ w'.cell? ⟨C, 0, none⟩ = some (.int .i64 (n : Int)) ∧ w'.cell? ⟨qb, n, none⟩ = some (.pointer (some ⟨b, 0, none⟩))) (with_reducible exact hSd) (fail)
                      go_wp2_with fail
                      go_loopw [7, 10, 11] (fun ag tl i wq => ∃ (j : Nat) (c' : Bool) (ob : Nat), j ≤ xs.length ∧ i = .int .i64 ((j : Int) - 1) ∧ ag = .bool c' ∧ tl = .pointer (some ⟨ob, 0, none⟩) ∧ Hid (LoopT w lo mb sb K pb pc qb qc g (rulesOf g) bs nv n0 F Fo (leftOf mb wo) k ((n : Int).toNat, xs) j ob c' wq ∧ Tch lo mb W0.drew wq)) (fun _ _ i _ => (intOf i + 1).toNat)
                      case atStart => exact ⟨xs.length, c, b, Nat.le_refl _, by go_num, rfl, rfl, HTS.out, Tch.refl _ _ _⟩
                      case round =>
                        clear q1 hSd HTS
                        obtain ⟨j, c', ob, hj, rfl, rfl, rfl, HT5⟩ := hrel
                        by_cases h0 : j = 0
                        · subst h0
                          go_wp2_with fail
                          go_roundw
                          case rel => exact ⟨k + 1, c', by omega, by go_num, rfl, tail_end HT5.out.1 HRK.out⟩
                          case measure => simp [intOf] <;> omega
                        · obtain ⟨m, rfl⟩ : ∃ m, j = m + 1 := ⟨j - 1, by omega⟩
                          have he : (((m + 1 : Nat) : Int) - 1) = (m : Int) := by omega
                          rw [he]
                          have hlm : m < xs.length := by omega
                          obtain ⟨bx, lx, Fo2, Tt, idx, hx, hidx, hTt, hsT, hoT, htT, h0T, hcT0, hcT1⟩ := HT5.out.1.ex
                          have HX5 := Lib.hid hx.rebase
                          have HTW := Lib.hid hx.tch
                          have HLW := Lib.hid (Nat.le_trans hlo hx.tch.size)
                          have HTT := Lib.hid (hx.rebase.setE hidx hTt hsT)
                          have HTS := Lib.hid (fun p (hp : p < nv) => tail_set hx.rebase hp hTt)
                          have HTF := Lib.hid (And.intro hidx (And.intro hsT (And.intro htT (And.intro h0T (And.intro hcT0 hcT1)))))
                          have HOT := Lib.hid hoT
                          have HTD := Lib.hid HT5.out.2
                          obtain ⟨q1, hqc⟩ := HKC.out _ HTD.out
                          obtain ⟨xb, xo, hxa, hxb, hxc⟩ := (HI.out.below (HTD.out.below HLW0.out)) m hlm
                          subst hxa
                          have hmi : (m : Int) < xs.length := by omega
                          obtain ⟨hs1, hs2⟩ := hfo xs[m] (List.getElem_mem hlm)
                          have HFX : Hid (FormOK nv [xs[m]]) := Lib.hid (fun y hy => by obtain rfl := List.mem_singleton.1 hy; exact hfo _ (List.getElem_mem hlm))
                          have HXM := Lib.hid (show xs[m]? = some xs[m] from List.getElem?_eq_getElem hlm)
                          have hsl := fun W => slice_lh1 W xb xo xs.length xc m (by omega)
                          have HLS := Lib.hid (show ∀ w', Tch lo mb W0.drew w' → Lst w' (some ⟨xb, xo + m, none⟩) [xs[m]] from fun w' ht => lst_drop (ints_lst (HI.out.below (ht.below HLW0.out)) (Nat.le_trans HLW0.out ht.size)) hlm)
                          have HIV := fun W => Lib.hid (isVar_any xs[m] W)
                          clear hx hidx hTt hsT hoT htT h0T hcT0 hcT1 he h0 HT5
                          generalize xs[m] = x at *
                          by_cases hx0 : 0 ≤ x
                          · obtain ⟨p, rfl⟩ := Int.eq_ofNat_of_zero_le hx0
                            rw [decide_eq_true hx0] at HIV
                            have hp : p < nv := by omega
                            have hpi : (p : Int) < nv := by omega
                            obtain ⟨cs, hcs, hps⟩ := HX5.out.sets.fol
                            obtain ⟨bp, hbp, hbc⟩ := hps p hp
                            have y1 : wr.cell? ⟨sb, 2, none⟩ = some (.slice (some ⟨qb, 0, none⟩) nv qc) := cell_of_block (off := 2) HX5.out.sets.blk
                            have y2 : wr.cell? ⟨qb, p, none⟩ = some (.pointer (some ⟨bp, 0, none⟩)) := (cell_of_block (off := p) hcs).trans hbc
                            have HGM := Lib.hid (fun v u (h : memF Fo2 v u) => show memF (Fo2.set p (takeL (Fo2.getD p []) Tt)) v u from (memF_set (by rw [HX5.out.sysD.len]; exact hp)).2 (.inl h))
                            have HSA := Lib.hid (show ∀ n : Nat, n + (Fo2.getD p []).length = (takeL (Fo2.getD p []) Tt).length → n = 0 → Fo2.set p (takeL (Fo2.getD p []) Tt) = Fo2 ∧ (0 ≤ (p : Int) → ∀ u ∈ Tt, u ∈ Fo2.getD (p : Int).toNat []) from fun n hn h0 => by
                              have h1 := takeL_same (A := Fo2.getD p []) (B := Tt) (by omega)
                              exact ⟨by rw [takeL_id h1, set_same (by rw [HX5.out.sysD.len]; exact hp)], fun _ => h1⟩)
                            rcases HX5.out.follow HK.out.2 HRR.out HLW.out hml hn0 hp hbp HTT.out HOT.out (HX5.out.sysD.step HX5.out.sysF (List.mem_of_getElem? HRK.out) (i := m) HXM.out hx0 hp HTF.out.2.2.1) with ⟨nn, hnn2, hcall⟩ | hcall
                            · have HCALL := Lib.hid hcall
                              have HN2 := Lib.hid hnn2
                              clear hcall hnn2 hcs hps hbp hbc
                              go_wp2_with (first
                                | (go_at_call 64; refine HCALL.out.mono ?_; rintro e w3 ⟨rfl, hx3, hl3⟩
                                   have HX6 := Lib.hid (And.intro hx3 (And.intro hl3 (hx3.setE HTF.out.1 (HTS.out p hp) HTF.out.2.1)))
                                   obtain ⟨q2, hqc2⟩ := HKC.out _ (HTD.out.trans hx3.tch)
                                   have HBE : Hid (IsB (decide (0 < nn)) nn) := Lib.hid (by unfold IsB; simp)
                                   clear hx3 hl3
                                   generalize decide (0 < nn) = bb at *
                                   cases bb)
                                | (go_at_call 49; refine (HIV _).out.mono ?_; rintro e w2 ⟨rfl, rfl⟩))
                              all_goals
                                refine (ahead_any HX6.out.1.reads HK.out (sysF_ok HK.out.2 HRR.out HX6.out.1.sysF) (HLS.out _ (HTD.out.trans HX6.out.1.tch)) (by simp) HFX.out HX6.out.2.2 HOT.out).mono ?_
                                rintro e w4 ⟨ob4, rfl, hs4, hg4⟩
                                have HNX := Lib.hid (And.intro (tail_step (r := ((n : Int).toNat, xs)) HTW.out HLW.out HK.out.2 HRR.out (List.mem_of_getElem? HRK.out) HX6.out.1 HOT.out HXM.out HTF.out.2.2.1 HTF.out.2.2.2.1 HTF.out.2.2.2.2.1 HTF.out.2.2.2.2.2 HGM.out HX6.out.2.1 (HSA.out _ HN2.out) HBE.out rfl hg4 hs4) (HTD.out.trans (HX6.out.1.tch.trans (Tch.grow hg4))))
                                clear hs4 hg4
                                go_wp2_with fail
                                go_roundw
                                case rel => exact ⟨m, _, ob4, by omega, by go_num, rfl, rfl, HNX.out.1, HNX.out.2⟩
                                case measure => simp [intOf] <;> omega
                            · have HCALL := Lib.hid hcall
                              clear hcall hcs hps hbp hbc
                              go_wp2_with (first
                                | (go_at_call 64; refine HCALL.out.mono ?_; rintro e w3 ho
                                   have HOV := Lib.hid (ho.onto HTW.out)
                                   obtain rfl := ho.1
                                   clear ho)
                                | (go_at_call 49; refine (HIV _).out.mono ?_; rintro e w2 ⟨rfl, rfl⟩))
                              exact ⟨rfl, .inr HOV.out⟩
                          · rw [decide_eq_false hx0] at HIV
                            go_wp2_with (first | (go_at_call 49; refine (HIV _).out.mono ?_; rintro e w2 ⟨rfl, rfl⟩))
                            refine (ahead_any HX5.out.reads HK.out (sysF_ok HK.out.2 HRR.out HX5.out.sysF) (HLS.out _ HTD.out) (by simp) HFX.out HTT.out HOT.out).mono ?_
                            rintro e w4 ⟨ob4, rfl, hs4, hg4⟩
                            have HNX := Lib.hid (And.intro (tail_step (r := ((n : Int).toNat, xs)) (n := 0) (bb := false) HTW.out HLW.out HK.out.2 HRR.out (List.mem_of_getElem? HRK.out) HX5.out HOT.out HXM.out HTF.out.2.2.1 HTF.out.2.2.2.1 HTF.out.2.2.2.2.1 HTF.out.2.2.2.2.2 (fun _ _ h => h) (Nat.add_zero _) (fun _ => ⟨rfl, fun h => absurd h (by omega)⟩) (by simp) rfl hg4 hs4) (HTD.out.trans (Tch.grow hg4)))
                            clear hs4 hg4
                            go_wp2_with fail
                            go_roundw
                            case rel => exact ⟨m, _, ob4, by omega, by go_num, rfl, rfl, HNX.out.1, HNX.out.2⟩
                            case measure => simp [intOf] <;> omega
                    · obtain rfl : k = g.rules.length := by omega
                      go_wp2_with fail
                      go_roundw
                      case rel => exact ⟨c, rfl, Fo', HX.out, H0'.out, fun h => by
                        obtain ⟨rfl, _, h3⟩ := HC0.out h
                        exact closedD_of H0'.out (by rw [rules_len]; exact h3)⟩
                      case measure => exact again_less HC1.out
            exact AllReadyH.nil
          exact AllReadyH.nil
        exact AllReadyH.nil
      exact AllReadyH.nil
    · clear HCL
      go_wp2_with fail
      obtain ⟨wo, hwo⟩ : ∃ x, x = wr := ⟨_, rfl⟩
      subst hwo
      go_loopw [4, 20] (fun ag i wq => ∃ (k : Nat) (c : Bool), k ≤ g.rules.length ∧ i = .int .i64 k ∧ ag = .bool c ∧ Hid (LoopF w lo mb sb K pb pc qb qc g (rulesOf g) bs nv n0 Fo0 F (leftOf mb wo) k c wq)) (fun _ i _ => g.rules.length - (intOf i).toNat)
      case atStart => exact ⟨0, false, by omega, rfl, rfl, F, HF.out, fun _ => ⟨rfl, rfl, fun j hj => by omega⟩, fun h => by cases h⟩
      case round =>
        clear s5
        obtain ⟨k, c, hk, rfl, rfl, hh⟩ := hrel
        obtain ⟨F', hF', hc0, hc1⟩ := hh.out
        have HX := Lib.hid hF'
        have HC0 := Lib.hid hc0
        have HC1 := Lib.hid hc1
        have hsz := hF'.tch.size
        clear hh hF' hc0 hc1
        by_cases hlt : k < g.rules.length
        · have hki : (k : Int) < g.rules.length := by omega
          obtain ⟨rb, off, hra, hrb, r0, r1, r2, hri2, hrl2⟩ := (tch_gram HX.out.tch hlo HG.out).rules k hlt
          obtain ⟨hl0, -⟩ := HLF.out k hlt
          obtain ⟨n, hn⟩ := Int.eq_ofNat_of_zero_le hl0
          have HRK := Lib.hid (rulesOf_at hlt)
          have HNIL := Lib.hid (HG.out.nils k hlt)
          rw [hn] at HRK r0
          generalize g.rules[k] = r at *
          obtain ⟨left, xa, xs, xc, wt⟩ := r
          dsimp only at *
          subst hn
          generalize hRA : g.ra = ra at *
          subst hra
          go_wp2_with fail
          obtain ⟨hn1, hfo, hx8⟩ := HRR.out _ (List.mem_of_getElem? HRK.out)
          dsimp only at hn1 hfo hx8
          have HVV := Lib.hid hn1
          have hnn : n < nv := by simpa using hn1
          have hC := heap_alloc_this wr (.cells #[.int .i64 (n : Int), .slice xa xs.length xc, .float .f64 wt] 64)
          have HB := Lib.hid ((HX.out.go (grow_one wr (.cells #[.int .i64 (n : Int), .slice xa xs.length xc, .float .f64 wt] 64))).rebase)
          have HT0 := Lib.hid (HX.out.tch.trans (Tch.grow (grow_one wr (.cells #[.int .i64 (n : Int), .slice xa xs.length xc, .float .f64 wt] 64))))
          have HLO := Lib.hid (leftOf_go HX.out (grow_one wr (.cells #[.int .i64 (n : Int), .slice xa xs.length xc, .float .f64 wt] 64)))
          have HI := Lib.hid (hri2.below (below_up (grow_one wr (.cells #[.int .i64 (n : Int), .slice xa xs.length xc, .float .f64 wt] 64)) (Nat.le_trans hlo hsz)))
          have hsz0 : wr.heap.size < (wr.alloc (.cells #[.int .i64 (n : Int), .slice xa xs.length xc, .float .f64 wt] 64)).heap.size := by simp
          clear r0 r1 r2 hri2 hn1
          generalize wr.heap.size = C at *
          generalize wr.alloc (.cells #[.int .i64 (n : Int), .slice xa xs.length xc, .float .f64 wt] 64) = W0 at *
          have HLW := Lib.hid (show lo ≤ W0.heap.size by omega)
          obtain ⟨cs, hcs, hps⟩ := HB.out.sets.fst
          obtain ⟨b, hb, hbc⟩ := hps n hnn
          have HBB := Lib.hid hb
          have HK4 := Lib.hid (show ∀ w', Tch lo mb W0 w' → w'.cell? ⟨sb, 1, none⟩ = some (.slice (some ⟨pb, 0, none⟩) nv pc) ∧ w'.cell? ⟨C, 0, none⟩ = some (.int .i64 (n : Int)) ∧ w'.cell? ⟨C, 1, none⟩ = some (.slice xa xs.length xc) ∧ w'.cell? ⟨pb, n, none⟩ = some (.pointer (some ⟨b, 0, none⟩)) from fun w' ht => by
            have e1 := tch_block ht HB.out.met HB.out.sets.blk (by decide) (by decide) (by decide)
            have e2 := tch_block ht HB.out.met hC (by decide) (by decide) (by decide)
            have e3 := tch_block ht HB.out.met hcs (by decide) (by decide) (by decide)
            exact ⟨cell_of_block (off := 1) e1, cell_of_block (off := 0) e2, cell_of_block (off := 1) e2, (cell_of_block (off := n) e3).trans hbc⟩)
          have hSd := HK4.out W0.drew (Tch.grow (grow_drew _))
          have hB1 := Lib.hid (two_at W0 (.cells #[] 3) (.cells #[.slice (some ⟨W0.heap.size, 0, none⟩) 0 0] 26)).2
          clear hcs hps hb hbc hC
          refine wp_region_held_drew (S := fun w' => w'.cell? ⟨sb, 1, none⟩ = some (.slice (some ⟨pb, 0, none⟩) nv pc) ∧ w'.cell? ⟨C, 0, none⟩ = some (.int .i64 (n : Int)) ∧ w'.cell? ⟨C, 1, none⟩ = some (.slice xa xs.length xc) ∧ w'.cell? ⟨pb, n, none⟩ = some (.pointer (some ⟨b, 0, none⟩))) (by kernel_rfl) (hSd) (fun hHeld => ?_)
          refine wpAnyH_take (i := 0) (v := ?_) rfl (by kernel_rfl) (by kernel_rfl) (by kernel_rfl) (fun _ _ _ h => h) (Or.inl ⟨by rfl, ?_⟩) (by with_reducible assumption) ?_
          rotate_left
          · intro w hSw
            try dsimp only at hSw
            go_simp
            try with_reducible rfl
          try simp only [Act.put, List.setIfInBounds_toArray]
          refine wpAnyH_take (i := 1) (v := ?_) rfl (by kernel_rfl) (by kernel_rfl) (by kernel_rfl) (fun _ _ _ h => h) (Or.inl ⟨by rfl, ?_⟩) (by with_reducible assumption) ?_
          rotate_left
          · intro w hSw
            try dsimp only at hSw
            go_simp
            try with_reducible rfl
          try simp only [Act.put]
          refine wpAnyH_take (i := 2) (v := ?_) rfl (by kernel_rfl) (by kernel_rfl) (by kernel_rfl) (fun _ _ _ h => h) (Or.inl ⟨by rfl, ?_⟩) (by with_reducible assumption) ?_
          rotate_left
          · intro w hSw
            try dsimp only at hSw
            go_simp
            try with_reducible rfl
          try simp only [Act.put]
          refine wpAnyH_take (i := 3) (v := ?_) rfl (by kernel_rfl) (by kernel_rfl) (by kernel_rfl) (fun _ _ _ h => h) (Or.inl ⟨by rfl, ?_⟩) (by with_reducible assumption) ?_
          rotate_left
          · intro w hSw
            try dsimp only at hSw
            go_simp
            try with_reducible rfl
          try simp only [Act.put]
          refine wpAnyH_take (i := 4) (v := ?_) rfl (by kernel_rfl) (by kernel_rfl) (by kernel_rfl) (fun _ _ _ h => h) (Or.inl ⟨by rfl, ?_⟩) (by with_reducible assumption) ?_
          rotate_left
          · intro w hSw
            try dsimp only at hSw
            go_simp
            try with_reducible rfl
          try simp only [Act.put]
          refine wpAnyH_take (i := 5) (v := ?_) rfl (by kernel_rfl) (by kernel_rfl) (by kernel_rfl) (fun _ _ _ h => h) (Or.inl ⟨by rfl, ?_⟩) (by with_reducible assumption) ?_
          rotate_left
          · intro w hSw
            try dsimp only at hSw
            go_simp
            try with_reducible rfl
          try simp only [Act.put]
          refine wpAnyH_take (i := 6) (v := ?_) rfl (by kernel_rfl) (by kernel_rfl) (by kernel_rfl) (fun _ _ _ h => h) (Or.inl ⟨by rfl, ?_⟩) (by with_reducible assumption) ?_
          rotate_left
          · intro w hSw
            try dsimp only at hSw
            go_simp
            try with_reducible rfl
          try simp only [Act.put]
          refine wpAnyH_take (i := 7) (v := ?_) rfl (by kernel_rfl) (by kernel_rfl) (by kernel_rfl) (fun _ _ _ h => h) (Or.inl ⟨by rfl, ?_⟩) (by with_reducible assumption) ?_
          rotate_left
          · intro w hSw
            try dsimp only at hSw
            go_simp
            try with_reducible rfl
          try simp only [Act.put]
          refine wpAnyH_take (i := 8) (v := ?_) rfl (by kernel_rfl) (by kernel_rfl) (by kernel_rfl) (fun _ _ _ h => h) (Or.inl ⟨by rfl, ?_⟩) (by with_reducible assumption) ?_
          rotate_left
          · intro w hSw
            try dsimp only at hSw
            go_simp
            try with_reducible rfl
          try simp only [Act.put]
          refine wpAnyH_take (i := 9) (v := ?_) rfl (by kernel_rfl) (by kernel_rfl) (by kernel_rfl) (fun _ _ _ h => h) (Or.inl ⟨by rfl, ?_⟩) (by with_reducible assumption) ?_
          rotate_left
          · intro w hSw
            try dsimp only at hSw
            go_simp
            try with_reducible rfl
          try simp only [Act.put]
          refine wpAnyH_take (i := 10) (v := ?_) rfl (by kernel_rfl) (by kernel_rfl) (by kernel_rfl) (fun _ _ _ h => h) (Or.inl ⟨by rfl, ?_⟩) (by with_reducible assumption) ?_
          rotate_left
          · intro w hSw
            try dsimp only at hSw
            go_simp
            try with_reducible rfl
          try simp only [Act.put]
          refine wpAnyH_take (i := 11) (v := ?_) rfl (by kernel_rfl) (by kernel_rfl) (by kernel_rfl) (fun _ _ _ h => h) (Or.inl ⟨by rfl, ?_⟩) (by with_reducible assumption) ?_
          rotate_left
          · intro w hSw
            try dsimp only at hSw
            go_simp
            try with_reducible rfl
          try simp only [Act.put]
          refine wpAnyH_ready (rs := [12]) (by kernel_rfl) (by simp) ?_
          refine AllReadyH.cons (o := _) rfl (fun K hK => ?_) ?_
          · go_simp
            refine hK.out _ _ (HK4.out _ (Tch.grow (grow_oned W0 _))) (fun hHeld => ?_)
            clear hK K
            try simp only [Act.put, List.setIfInBounds_toArray, List.set_cons_zero, List.set_cons_succ]
            refine wpAnyH_ready (rs := [13]) (by kernel_rfl) (by simp) ?_
            refine AllReadyH.cons (o := _) rfl (fun K hK => ?_) ?_
            · go_simp
              refine hK.out _ _ (HK4.out _ (Tch.grow (grow_two W0 _ _))) (fun hHeld => ?_)
              clear hK K
              try simp only [Act.put, List.setIfInBounds_toArray, List.set_cons_zero, List.set_cons_succ]
              refine wpAnyH_ready (rs := [14]) (by kernel_rfl) (by simp) ?_
              refine AllReadyH.cons (o := _) rfl (fun K hK => ?_) ?_
              · go_simp
                go_at_call 31
                refine (of_lit0 hB1.out).mono ?_
                rintro e w1 ⟨ob1, rfl, hs1, hg1⟩
                have HX1 := Lib.hid (And.intro (HB.out.go ((grow_two W0 _ _).trans hg1)) (And.intro hs1 (And.intro (HI.out.below (below_up ((grow_two W0 _ _).trans hg1) HLW.out)) (leftOf_go HB.out ((grow_two W0 _ _).trans hg1)))))
                clear hs1 hg1
                refine hK.out _ _ (HK4.out _ HX1.out.1.tch) (fun hHeld => ?_)
                clear hK K
                try simp only [Act.put, List.setIfInBounds_toArray, List.set_cons_zero, List.set_cons_succ]
                refine wpAnyH_ready (rs := [15]) (by kernel_rfl) (by simp) ?_
                refine AllReadyH.cons (o := _) rfl (fun K hK => ?_) ?_
                · go_simp
                  go_at_call 65
                  refine (ahead_any HX1.out.1.reads HK.out (sysF_ok HK.out.2 HRR.out HX1.out.1.sysF) (ints_lst HX1.out.2.2.1 (Nat.le_trans HLW.out HX1.out.1.tch.size)) hx8 hfo HX1.out.2.1 okW_nil).mono ?_
                  rintro e w2 ⟨ob2, rfl, hs2, hg2⟩
                  have HX2 := Lib.hid (And.intro (HX1.out.1.add HLW.out hg2 hs2) (And.intro (show SetE ob2 _ w2 from ⟨_, hs2⟩) ((leftOf_go HX1.out.1 hg2).trans HX1.out.2.2.2)))
                  clear hs2 hg2
                  refine hK.out _ _ (HK4.out _ HX2.out.1.tch) (fun hHeld => ?_)
                  clear hK K
                  try simp only [Act.put, List.setIfInBounds_toArray, List.set_cons_zero, List.set_cons_succ]
                  refine wpAnyH_ready (rs := [16]) (by kernel_rfl) (by simp) ?_
                  refine AllReadyH.cons (o := _) rfl (fun K hK => ?_) ?_
                  · go_simp
                    go_at_call 64
                    rcases HX2.out.1.first HK.out.2 HRR.out HLW.out hml hn0 (List.mem_of_getElem? HRK.out) HBB.out HX2.out.2.1 with ⟨nn, hnn2, hcall⟩ | hcall
                    rotate_left
                    · refine hcall.mono ?_
                      rintro e w3 ho
                      have HOV := Lib.hid (ho.onto HT0.out)
                      obtain rfl := ho.1
                      clear ho
                      exact ⟨rfl, .inr HOV.out⟩
                    refine hcall.mono ?_
                    rintro e w3 ⟨rfl, hx3, hl3⟩
                    have HX3 := Lib.hid (And.intro hx3 (And.intro hl3 hnn2))
                    clear hx3 hl3 hnn2
                    have HBE : Hid ((decide (0 < nn) = true ↔ 0 < nn)) := Lib.hid (by simp)
                    generalize decide (0 < nn) = bb at *
                    refine hK.out _ _ (HK4.out _ HX3.out.1.tch) (fun hHeld => ?_)
                    clear hK K
                    try simp only [Act.put, List.setIfInBounds_toArray, List.set_cons_zero, List.set_cons_succ]
                    cases bb
                    all_goals
                      refine wpAnyH_take (i := 17) (v := ?_) rfl (by kernel_rfl) (by kernel_rfl) (by kernel_rfl) (fun _ _ _ h => h) (Or.inl ⟨by rfl, ?_⟩) (by with_reducible assumption) ?_
                      rotate_left
                      · intro w hSw
                        try dsimp only at hSw
                        go_simp
                        try with_reducible rfl
                      try simp only [Act.put, List.setIfInBounds_toArray]
                      refine wpAnyH_ready (rs := [18]) (by kernel_rfl) (by simp) ?_
                      refine AllReadyH.cons (o := _) rfl (fun K hK => ?_) ?_
                      · go_simp
                        refine hK.out _ _ (by with_reducible assumption) (fun hHeld => ?_)
                        clear hK K
                        try simp only [Act.put, List.setIfInBounds_toArray, List.set_cons_zero, List.set_cons_succ]
                        refine wpAnyH_take (i := 19) (v := ?_) rfl (by kernel_rfl) (by kernel_rfl) (by kernel_rfl) (fun _ _ _ h => h) (Or.inl ⟨by rfl, ?_⟩) (by with_reducible assumption) ?_
                        rotate_left
                        · intro w hSw
                          try dsimp only at hSw
                          go_simp
                          try with_reducible rfl
                        try simp only [Act.put, List.setIfInBounds_toArray]
                        refine wpAnyH_take (i := 20) (v := ?_) rfl (by kernel_rfl) (by kernel_rfl) (by kernel_rfl) (fun _ _ _ h => h) (Or.inl ⟨by rfl, ?_⟩) (by with_reducible assumption) ?_
                        rotate_left
                        · intro w hSw
                          try dsimp only at hSw
                          go_simp
                          try with_reducible rfl
                        try simp only [Act.put]
                        refine wpAnyH_done (by kernel_rfl) ?_ _
                        go_wp2
                        go_roundw
                        case rel => exact ⟨k + 1, _, by omega, by go_num, rfl, fill_next HC0.out HC1.out (HX2.out.2.2.trans HLO.out) HT0.out HRK.out HX3.out.1 HX3.out.2.1 HX3.out.2.2 HVV.out HBE.out rfl⟩
                        case measure => simp [intOf] <;> omega
                      exact AllReadyH.nil
                  exact AllReadyH.nil
                exact AllReadyH.nil
              exact AllReadyH.nil
            exact AllReadyH.nil
          exact AllReadyH.nil
        · obtain rfl : k = g.rules.length := by omega
          go_wp2_with fail
          go_roundw
          case rel => exact ⟨c, rfl, F', HX.out, fun h => by
            obtain ⟨rfl, _, h3⟩ := HC0.out h
            exact closedF_of (by rw [rules_len]; exact h3)⟩
          case measure => exact again_less HC1.out
end Go.Proofs.Ytmiiolgbjicocaa
