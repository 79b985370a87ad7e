/- What symbols begin with: the program's walk. -/
import Derived.Test.YtmiiolgbjicocaaSetsM
import Derived.Deep.RegionHeld3
import Derived.Test.YtmiiolgbjicocaaNt
namespace Go.Proofs.Ytmiiolgbjicocaa
open Go.RowKit
/-- The sets' block and its two rows of pointers. -/
structure SetsB (sb : Nat) (K : Int) (pb pc qb qc : Nat) (g : GramD) (bs : List Nat) (nv : Nat) (w : World) : Prop where
  blk : w.heap[sb]? = some (.cells #[.int .i64 K, .slice (some ⟨pb, 0, none⟩) nv pc, .slice (some ⟨qb, 0, none⟩) nv qc, g.tv, g.vv, g.rv] 80 (0, 0))
  fst : ∃ cs, w.heap[pb]? = some (.cells cs 81 (0, 0)) ∧ ∀ i, i < nv → ∃ b, bs[i]? = some b ∧ cs[i]? = some (.pointer (some ⟨b, 0, none⟩))
  fol : ∃ cs, w.heap[qb]? = some (.cells cs 81 (0, 0)) ∧ ∀ i, i < nv → ∃ b, bs[nv + i]? = some b ∧ cs[i]? = some (.pointer (some ⟨b, 0, none⟩))
  len : bs.length = 2 * nv
theorem SetsB.kept {sb : Nat} {K : Int} {pb pc qb qc : Nat} {g : GramD} {bs : List Nat} {nv : Nat} {w w' : World} (h : SetsB sb K pb pc qb qc g bs nv w) (hk : ∀ (k : Nat) cs t, w.heap[k]? = some (.cells cs t (0, 0)) → (t = 80 ∨ t = 81) → w'.heap[k]? = w.heap[k]?) : SetsB sb K pb pc qb qc g bs nv w' := by
  refine ⟨(hk _ _ _ h.blk (.inl rfl)).trans h.blk, ?_, ?_, h.len⟩
  · obtain ⟨cs, h1, h2⟩ := h.fst
    exact ⟨cs, (hk _ _ _ h1 (.inr rfl)).trans h1, h2⟩
  · obtain ⟨cs, h1, h2⟩ := h.fol
    exact ⟨cs, (hk _ _ _ h1 (.inr rfl)).trans h1, h2⟩
theorem SetsB.go {sb : Nat} {K : Int} {pb pc qb qc : Nat} {g : GramD} {bs : List Nat} {nv : Nat} {w w' : World} (h : SetsB sb K pb pc qb qc g bs nv w) (hb : Grow w w') : SetsB sb K pb pc qb qc g bs nv w' :=
  h.kept fun k _ _ hk _ => hb.block k (lt_of_block hk)
/-- The sets wherever they are: what is read of them. -/
structure SetsR (sb : Nat) (K : Int) (g : GramD) (nv : Nat) (F Fo : List Wds) (w : World) : Prop where
  ex : ∃ pb pc qb qc bs lo lvs, SetsB sb K pb pc qb qc g bs nv w ∧ AllS lo bs lvs (F ++ Fo) w
  lenF : F.length = nv
  lenD : Fo.length = nv
  srt : (∀ v, Sorted (F.getD v [])) ∧ ∀ v, Sorted (Fo.getD v [])
theorem SetsR.go {sb : Nat} {K : Int} {g : GramD} {nv : Nat} {F Fo : List Wds} {w w' : World} (h : SetsR sb K g nv F Fo w) (hb : Grow w w') : SetsR sb K g nv F Fo w' := by
  obtain ⟨⟨pb, pc, qb, qc, bs, lo, lvs, h1, h2⟩, h3, h4, h5⟩ := h
  exact ⟨⟨pb, pc, qb, qc, bs, lo, lvs, h1.go hb, h2.go hb⟩, h3, h4, h5⟩
theorem getD_of {F : List Wds} {i : Nat} {L : Wds} (h : F[i]? = some L) : F.getD i [] = L := by rw [List.getD_eq_getElem?_getD, h]; rfl
theorem AllS.setE {lo : Nat} {bs : List Nat} {lvs : List Value} {Ls : List Wds} {w : World} (h : AllS lo bs lvs Ls w) {i b : Nat} (hi : bs[i]? = some b) (hs : Sorted (Ls.getD i [])) : SetE b (Ls.getD i []) w := by
  obtain ⟨lv, vs, L, h1, h2, h3⟩ := h.get hi
  rw [getD_of h2] at *
  exact SetAt.e h3 hs
theorem getD_app1 {F Fo : List Wds} {i : Nat} (h : i < F.length) : (F ++ Fo).getD i [] = F.getD i [] := by
  rw [List.getD_eq_getElem?_getD, List.getElem?_append_left h, ← List.getD_eq_getElem?_getD]
theorem getD_app2 {F Fo : List Wds} {i : Nat} : (F ++ Fo).getD (F.length + i) [] = Fo.getD i [] := by
  rw [List.getD_eq_getElem?_getD, List.getElem?_append_right (by omega), ← List.getD_eq_getElem?_getD, show F.length + i - F.length = i by omega]
/-- The first set of a variable. -/
theorem SetsR.first {sb : Nat} {K : Int} {g : GramD} {nv : Nat} {F Fo : List Wds} {w : World} (h : SetsR sb K g nv F Fo w) : ∃ pb pc, w.cell? ⟨sb, 0, none⟩ = some (.int .i64 K) ∧ w.cell? ⟨sb, 1, none⟩ = some (.slice (some ⟨pb, 0, none⟩) nv pc) ∧ sb < w.heap.size ∧ pb < w.heap.size ∧
    ∀ i, i < nv → ∃ b, w.cell? ⟨pb, i, none⟩ = some (.pointer (some ⟨b, 0, none⟩)) ∧ SetE b (F.getD i []) w := by
  obtain ⟨⟨pb, pc, qb, qc, bs, lo, lvs, h1, h2⟩, h3, h4, h5⟩ := h
  obtain ⟨cs, h6, h7⟩ := h1.fst
  refine ⟨pb, pc, cell_of_block (off := 0) h1.blk, cell_of_block (off := 1) h1.blk, lt_of_block h1.blk, lt_of_block h6, fun i hi => ?_⟩
  obtain ⟨b, h8, h9⟩ := h7 i hi
  refine ⟨b, (cell_of_block (off := i) h6).trans h9, ?_⟩
  have := h2.setE h8 (by rw [getD_app1 (by omega)]; exact h5.1 i)
  rwa [getD_app1 (by omega)] at this
theorem of_lit {W : World} {b c : Nat} {a : Option Addr} {xs : List Int} (hb : W.heap[b]? = some (.cells #[.slice a xs.length c] 26 (0, 0))) (hx : Lst W a xs) (hn : a = none → c = 0) (hle : xs.length ≤ c) (hl : xs.length ≤ 10000) :
    Calls Try.prog 31 #[.slice (some ⟨b, 0, none⟩) 1 1] W (PtrPost [xs] W) := by
  have h : Lsts W (some ⟨b, 0, none⟩) [xs] := fun i hi => by
    have : i = 0 := by simpa using hi
    subst this
    exact ⟨b, 0, a, c, rfl, lt_of_block hb, cell_of_block (off := 0) hb, hx, hn, hle⟩
  have := of_e (c := 1) h (by simp) (fun y hy => by obtain rfl := List.mem_singleton.1 hy; exact hl)
  have e : ofL [xs] = [xs] := rfl
  rw [e] at this
  exact this
theorem lst_nil (W : World) (a : Option Addr) : Lst W a [] := fun i hi => by simp at hi
theorem of_lit0 {W : World} {b c : Nat} {a : Addr} (hb : W.heap[b]? = some (.cells #[.slice (some a) 0 c] 26 (0, 0))) : Calls Try.prog 31 #[.slice (some ⟨b, 0, none⟩) 1 1] W (PtrPost [[]] W) :=
  of_lit (xs := []) (a := some a) (c := c) hb (lst_nil _ _) (fun h => by cases h) (Nat.zero_le _) (Nat.zero_le _)
theorem of_lit1 {W : World} {b : Nat} {a : Addr} {x : Int} (hb : W.heap[b]? = some (.cells #[.slice (some a) 1 1] 26 (0, 0))) (hx : Lst W (some a) [x]) : Calls Try.prog 31 #[.slice (some ⟨b, 0, none⟩) 1 1] W (PtrPost [[x]] W) :=
  of_lit (xs := [x]) (a := some a) (c := 1) hb hx (fun h => by cases h) (Nat.le_refl _) (by simp)
theorem grow_drew (w : World) : Grow w w.drew := ⟨rfl, rfl, rfl, Nat.le_refl _, fun _ _ => rfl⟩
theorem isVar_any (s : Int) (w : World) : Calls Try.prog 49 #[.int .i64 s] w fun e w' => e = .returned (.bool (decide (0 ≤ s))) ∧ w = w' := by
  by_cases h : 0 ≤ s
  · go_enter Try.func49, Try.ntmps49
    go_wp2
    go_ret
    exact ⟨by rw [decide_eq_true h]; rfl, rfl⟩
  · go_enter Try.func49, Try.ntmps49
    go_wp2
    go_ret
    exact ⟨by rw [decide_eq_false (by omega)]; rfl, rfl⟩
theorem ahead_on {k : Int} {F : List Wds} {f : List Int} {T : Wds} {j : Nat} (hj : j < f.length) : aheadL k F (f.drop j) T = timesL (xOf F f[j]) (aheadL k F (f.drop (j + 1)) T) k := by
  rw [List.drop_eq_getElem_cons hj, aheadL]
theorem nt_small {s : Int} (h : -6 ≤ s) (h2 : s < 0) : nt s = -s - 1 := by
  have : s = -1 ∨ s = -2 ∨ s = -3 ∨ s = -4 ∨ s = -5 ∨ s = -6 := by omega
  rcases this with rfl | rfl | rfl | rfl | rfl | rfl <;> decide
theorem grow_two (w : World) (o1 o2 : Obj) : Grow w ((w.alloc o1).alloc o2).drew :=
  (((Kept.refl (fun _ => False) w).alloc o1).alloc o2).drew.below (Nat.le_refl _) (fun _ _ h => h)
theorem two_at (w : World) (o1 o2 : Obj) : ((w.alloc o1).alloc o2).drew.heap[w.heap.size]? = some o1 ∧ ((w.alloc o1).alloc o2).drew.heap[w.heap.size + 1]? = some o2 :=
  ⟨heap_alloc_keep (heap_alloc_this _ _), by have := heap_alloc_this (w.alloc o1) o2; rw [World.size_alloc] at this; exact this⟩
theorem lst_one {W : World} {b : Nat} {x : Int} (hb : W.heap[b]? = some (.cells #[.int .i64 x] 3 (0, 0))) : Lst W (some ⟨b, 0, none⟩) [x] := fun i hi => by
  have : i = 0 := by simpa using hi
  subst this
  exact ⟨b, 0, rfl, lt_of_block hb, cell_of_block (off := 0) hb⟩
/-- A new set: all its blocks are new. -/
def PtrB (L : Wds) (w : World) (e : Ending) (w' : World) : Prop := ∃ ob, e = .returned (.pointer (some ⟨ob, 0, none⟩)) ∧ SetB w.heap.size ob L w' ∧ Grow w w'
theorem SetB.low {lo lo' ob : Nat} {L : Wds} {w : World} (h : SetB lo ob L w) (hl : lo' ≤ lo) : SetB lo' ob L w := by
  obtain ⟨lv, vs, h1, h2, h3, h4⟩ := h
  exact ⟨lv, vs, h1, h2, by omega, fun k hk => by have := h4 k hk; omega⟩
theorem times_b {W : World} {ab bb : Nat} {A B : Wds} {K : Int} (ha : SetE ab A W) (hb : SetE bb B W) (h1 : OkW A) (h2 : OkW B) (hK : 1 ≤ K ∧ K ≤ 2) : Calls Try.prog 84 #[.pointer (some ⟨ab, 0, none⟩), .pointer (some ⟨bb, 0, none⟩), .int .i64 K] W (PtrB (timesL A B K) W) := by
  have l1 := okW_few ha.sorted h1
  have l2 := okW_few hb.sorted h2
  obtain ⟨b1, hs⟩ := ha
  obtain ⟨b2, ht⟩ := hb
  exact times_any hs ht (okW_short h1) (okW_short h2) (by omega) (by omega) K (by omega)
set_option maxRecDepth 100000 in
set_option maxHeartbeats 1000000 in
theorem ahead_any {sb tb : Nat} {K : Int} {g : GramD} {nv : Nat} {F Fo : List Wds} {w : World} (h : SetsR sb K g nv F Fo w) (hK : 1 ≤ K ∧ K ≤ 2) (hF : ∀ v, OkW (F.getD v [])) {fa : Option Addr} {fc : Nat} {f : List Int} (hf : Lst w fa f) (hfl : f.length ≤ 8) (hfo : FormOK nv f)
    {T : Wds} (ht : SetE tb T w) (hT : OkW T) : Calls Try.prog 65 #[.pointer (some ⟨sb, 0, none⟩), .slice fa f.length fc, .pointer (some ⟨tb, 0, none⟩)] w (PtrB (aheadL K F f T) w) := by
  have HR := Lib.hid h
  have HL := Lib.hid hf
  have HT := Lib.hid ht
  obtain ⟨pb, pc, c0, c1, hsb, hpb, hfst⟩ := h.first
  have HFS := Lib.hid (fun wr (hg : Grow w wr) i (hi : i < nv) => show ∃ b, wr.cell? ⟨pb, i, none⟩ = some (.pointer (some ⟨b, 0, none⟩)) ∧ SetE b (F.getD i []) wr from by
    obtain ⟨b, h1, h2⟩ := hfst i hi
    exact ⟨b, (below_cell hg hpb).trans h1, h2.go hg⟩)
  have HFO := Lib.hid hfo
  have HTM := Lib.hid (fun W ab bb (A B : Wds) (ha : SetE ab A W) (hb : SetE bb B W) (h1 : OkW A) (h2 : OkW B) => times_b ha hb h1 h2 hK)
  have HTS := Lib.hid hT
  have HFF := Lib.hid hF
  have HKK := Lib.hid hK
  clear h hf ht hfst hfo hT hF
  obtain ⟨hK1, hK2⟩ := hK
  go_enter Try.func65, Try.ntmps65
  have hB1 := Lib.hid (two_at w (.cells #[] 3) (.cells #[.slice (some ⟨w.heap.size, 0, none⟩) 0 0] 26)).2
  go_wp2_with fail
  refine wp_region_held_drew (S := fun w' => w'.cell? ⟨sb, 0, none⟩ = some (.int .i64 K)) (by kernel_rfl) (c0) (fun hHeld => ?_)
  refine wpAnyH_take (i := 0) (v := ?_) rfl (by kernel_rfl) (by kernel_rfl) (by kernel_rfl) (fun _ _ _ h => h) (Or.inl ⟨by rfl, ?_⟩) (by with_reducible assumption) ?_
  rotate_left
  · intro w hSw
    try dsimp only at hSw
    go_simp
    try with_reducible rfl
  try simp only [Act.put, List.setIfInBounds_toArray]
  refine wpAnyH_take (i := 4) (v := ?_) rfl (by kernel_rfl) (by kernel_rfl) (by kernel_rfl) (fun _ _ _ h => h) (Or.inl ⟨by rfl, ?_⟩) (by with_reducible assumption) ?_
  rotate_left
  · intro w hSw
    try dsimp only at hSw
    go_simp
    try with_reducible rfl
  try simp only [Act.put]
  refine wpAnyH_take (i := 5) (v := ?_) rfl (by kernel_rfl) (by kernel_rfl) (by kernel_rfl) (fun _ _ _ h => h) (Or.inl ⟨by rfl, ?_⟩) (by with_reducible assumption) ?_
  rotate_left
  · intro w hSw
    try dsimp only at hSw
    go_simp
    try with_reducible rfl
  try simp only [Act.put]
  refine wpAnyH_take (i := 6) (v := ?_) rfl (by kernel_rfl) (by kernel_rfl) (by kernel_rfl) (fun _ _ _ h => h) (Or.inl ⟨by rfl, ?_⟩) (by with_reducible assumption) ?_
  rotate_left
  · intro w hSw
    try dsimp only at hSw
    go_simp
    try with_reducible rfl
  try simp only [Act.put]
  refine wpAnyH_take (i := 7) (v := ?_) rfl (by kernel_rfl) (by kernel_rfl) (by kernel_rfl) (fun _ _ _ h => h) (Or.inl ⟨by rfl, ?_⟩) (by with_reducible assumption) ?_
  rotate_left
  · intro w hSw
    try dsimp only at hSw
    go_simp
    try with_reducible rfl
  try simp only [Act.put]
  refine wpAnyH_ready (rs := [1]) (by kernel_rfl) (by simp) ?_
  refine AllReadyH.cons (o := _) rfl (fun K hK => ?_) ?_
  · go_simp
    refine hK.out _ _ (cell_alloc_keep hsb hHeld) (fun hHeld => ?_)
    clear hK K
    try simp only [Act.put, List.setIfInBounds_toArray, List.set_cons_zero, List.set_cons_succ]
    refine wpAnyH_ready (rs := [2]) (by kernel_rfl) (by simp) ?_
    refine AllReadyH.cons (o := _) rfl (fun K hK => ?_) ?_
    · go_simp
      refine hK.out _ _ (cell_alloc_keep (by simp; omega) hHeld) (fun hHeld => ?_)
      clear hK K
      try simp only [Act.put, List.setIfInBounds_toArray, List.set_cons_zero, List.set_cons_succ]
      refine wpAnyH_ready (rs := [3]) (by kernel_rfl) (by simp) ?_
      refine AllReadyH.cons (o := _) rfl (fun K hK => ?_) ?_
      · go_simp
        go_at_call 31
        refine (of_lit0 hB1.out).mono ?_
        rintro e w1 ⟨ob, rfl, hs1, hg1⟩
        have X1 := Lib.hid (And.intro (HT.out.go ((grow_two w _ _).trans hg1)) (And.intro hs1 ((grow_two w _ _).trans hg1)))
        have c01 := (below_cell X1.out.2.2 hsb).trans c0
        clear hs1 hg1
        refine hK.out _ _ (c01) (fun hHeld => ?_)
        clear hK K
        try simp only [Act.put, List.setIfInBounds_toArray, List.set_cons_zero, List.set_cons_succ]
        refine wpAnyH_ready (rs := [8]) (by kernel_rfl) (by simp) ?_
        refine AllReadyH.cons (o := _) rfl (fun K hK => ?_) ?_
        · go_simp
          go_at_call 84
          refine (HTM.out _ _ _ _ _ X1.out.1 X1.out.2.1 HTS.out okW_nil).mono ?_
          rintro e w2 ⟨ob2, rfl, hs2, hg2⟩
          have X2 := Lib.hid (And.intro (hs2.low X1.out.2.2.size) (X1.out.2.2.trans hg2))
          have c02 := (below_cell X2.out.2 hsb).trans c0
          clear hs2 hg2
          refine hK.out _ _ (c02) (fun hHeld => ?_)
          clear hK K
          try simp only [Act.put, List.setIfInBounds_toArray, List.set_cons_zero, List.set_cons_succ]
          refine wpAnyH_take (i := 9) (v := ?_) rfl (by kernel_rfl) (by kernel_rfl) (by kernel_rfl) (fun _ _ _ h => h) (Or.inl ⟨by rfl, ?_⟩) (by with_reducible assumption) ?_
          rotate_left
          · intro w hSw
            try dsimp only at hSw
            go_simp
            try with_reducible rfl
          try simp only [Act.put, List.setIfInBounds_toArray]
          refine wpAnyH_done (by kernel_rfl) ?_ _
          go_wp2_with fail
          go_loopw [7, 8] (fun o i wr => ∃ j : Nat, j ≤ f.length ∧ i = .int .i64 ((j : Int) - 1) ∧ ∃ ob, o = .pointer (some ⟨ob, 0, none⟩) ∧ Hid (SetB w.heap.size ob (aheadL K F (f.drop j) T) wr ∧ Grow w wr)) (fun _ i _ => (intOf i + 1).toNat)
          case atStart => exact ⟨f.length, Nat.le_refl _, by go_num, _, rfl, by rw [List.drop_length]; exact X2.out.1, X2.out.2⟩
          case round =>
            obtain ⟨j, hj, rfl, ob, rfl, HX⟩ := hrel
            have hbs := HX.out.2.size
            by_cases h0 : j = 0
            · subst h0
              go_wp2_with fail
              go_ret
              exact ⟨ob, rfl, HX.out.1, HX.out.2⟩
            · obtain ⟨m, rfl⟩ : ∃ m, j = m + 1 := ⟨j - 1, by omega⟩
              have he : (((m + 1 : Nat) : Int) - 1) = (m : Int) := by omega
              rw [he]
              have hlt : m < f.length := by omega
              obtain ⟨fb, off, rfl, hfb, hfc⟩ := HL.out m hlt
              have g0 := (below_cell HX.out.2 hfb).trans hfc
              have HE := Lib.hid (ahead_on (k := K) (F := F) (T := T) hlt)
              obtain ⟨hx1, hx2⟩ := HFO.out f[m] (List.getElem_mem hlt)
              have HOK : Hid (OkW (aheadL K F (f.drop (m + 1)) T)) := Lib.hid (okW_ahead HFF.out HKK.out.2 (fun x hx => HFO.out x (List.mem_of_mem_drop hx)) HTS.out)
              have HIV := fun W => Lib.hid (isVar_any f[m] W)
              have hmi : (m : Int) < f.length := by omega
              have d0 := (below_cell HX.out.2 hsb).trans c0
              have d1 := (below_cell HX.out.2 hsb).trans c1
              have hsb2 : sb < wr.heap.size := by omega
              clear hfc he h0
              generalize f[m] = x at *
              by_cases h0 : 0 ≤ x
              · obtain ⟨n, rfl⟩ := Int.eq_ofNat_of_zero_le h0
                have hn : n < nv := by omega
                rw [decide_eq_true h0] at HIV
                obtain ⟨b1, hcb, hset⟩ := HFS.out wr HX.out.2 n hn
                have HC := Lib.hid (HTM.out wr.drew _ _ _ _ (hset.go (grow_drew _)) (SetE.go ⟨_, HX.out.1⟩ (grow_drew _)) (HFF.out n) HOK.out)
                have HEX := Lib.hid (show aheadL K F (f.drop m) T = timesL (F.getD n []) (aheadL K F (f.drop (m + 1)) T) K by rw [HE.out]; unfold xOf; rw [if_pos h0]; rfl)
                have hni : (n : Int) < nv := by omega
                clear hset HE hx1 hx2
                generalize F.getD n [] = A at *
                generalize aheadL K F (f.drop (m + 1)) T = U at *
                go_wp2_with (first | (go_at_call 49; refine (HIV _).out.mono ?_; rintro e w1 ⟨rfl, rfl⟩))
                have hSd : wr.drew.cell? ⟨sb, 0, none⟩ = some (.int .i64 K) ∧ wr.drew.cell? ⟨sb, 1, none⟩ = some (.slice (some ⟨pb, 0, none⟩) nv pc) ∧ wr.drew.cell? ⟨pb, n, none⟩ = some (.pointer (some ⟨b1, 0, none⟩)) := ⟨d0, d1, hcb⟩
                go_region_held3 (fun w' => w'.cell? ⟨sb, 0, none⟩ = some (.int .i64 K) ∧ w'.cell? ⟨sb, 1, none⟩ = some (.slice (some ⟨pb, 0, none⟩) nv pc) ∧ w'.cell? ⟨pb, n, none⟩ = some (.pointer (some ⟨b1, 0, none⟩)))
                  (first | with_reducible exact hS1 | with_reducible exact hSd)
                  (first
                  | (go_at_call 84; refine HC.out.mono ?_; rintro e w3 ⟨ob3, rfl, hs3, hg3⟩
                     have hS1 : w3.cell? ⟨sb, 0, none⟩ = some (.int .i64 K) ∧ w3.cell? ⟨sb, 1, none⟩ = some (.slice (some ⟨pb, 0, none⟩) nv pc) ∧ w3.cell? ⟨pb, n, none⟩ = some (.pointer (some ⟨b1, 0, none⟩)) := ⟨(below_cell hg3 hsb2).trans hSd.1, (below_cell hg3 hsb2).trans hSd.2.1, (below_cell hg3 (Nat.lt_of_lt_of_le hpb hbs)).trans hSd.2.2⟩
                     have X3 := Lib.hid (And.intro (hs3.low (Nat.le_trans hbs (Nat.le_refl _))) (HX.out.2.trans ((grow_drew _).trans hg3)))
                     clear hs3 hg3))
                all_goals
                  go_wp2_with fail
                  go_roundw
                  case rel => exact ⟨m, by omega, by go_num, ob3, rfl, by rw [HEX.out]; exact X3.out.1, X3.out.2⟩
                  case measure => simp [intOf] <;> omega
              · rw [decide_eq_false h0] at HIV
                have HEX := Lib.hid (show aheadL K F (f.drop m) T = timesL [[-x - 1]] (aheadL K F (f.drop (m + 1)) T) K by rw [HE.out]; unfold xOf; rw [if_neg h0])
                have hnt : bits .xor .i64 (if IntKind.i64.signed = true then -1 else 9223372036854775807) x = -x - 1 := (show bits .xor .i64 (if IntKind.i64.signed = true then -1 else 9223372036854775807) x = nt x from rfl).trans (nt_small hx2 (by omega))
                have hOX : OkW [[-x - 1]] := fun w hw => by
                  obtain rfl : w = [-x - 1] := by simpa using hw
                  exact ⟨by simp, fun y hy => by obtain rfl := List.mem_singleton.1 hy; omega⟩
                have HOX := Lib.hid hOX
                clear hOX HE
                generalize aheadL K F (f.drop (m + 1)) T = U at *
                generalize -x - 1 = y at *
                have hB2 := Lib.hid (two_at wr (.cells #[.int .i64 y] 3) (.cells #[.slice (some ⟨wr.heap.size, 0, none⟩) 1 1] 26))
                go_wp2_with (first | (go_at_call 49; refine (HIV _).out.mono ?_; rintro e w1 ⟨rfl, rfl⟩))
                refine wp_region_held_drew (S := fun w' => w'.cell? ⟨sb, 0, none⟩ = some (.int .i64 K)) (by kernel_rfl) (d0) (fun hHeld => ?_)
                refine wpAnyH_take (i := 0) (v := ?_) rfl (by kernel_rfl) (by kernel_rfl) (by kernel_rfl) (fun _ _ _ h => h) (Or.inl ⟨by rfl, ?_⟩) (by with_reducible assumption) ?_
                rotate_left
                · intro w hSw
                  try dsimp only at hSw
                  go_simp
                  try with_reducible rfl
                try simp only [Act.put, List.setIfInBounds_toArray]
                refine wpAnyH_take (i := 1) (v := ?_) rfl (by kernel_rfl) (by kernel_rfl) (by kernel_rfl) (fun _ _ _ h => h) (Or.inl ⟨by rfl, ?_⟩) (by with_reducible assumption) ?_
                rotate_left
                · intro w hSw
                  try dsimp only at hSw
                  go_simp
                  try with_reducible rfl
                try simp only [Act.put]
                refine wpAnyH_take (i := 5) (v := ?_) rfl (by kernel_rfl) (by kernel_rfl) (by kernel_rfl) (fun _ _ _ h => h) (Or.inl ⟨by rfl, ?_⟩) (by with_reducible assumption) ?_
                rotate_left
                · intro w hSw
                  try dsimp only at hSw
                  go_simp
                  try with_reducible rfl
                try simp only [Act.put]
                refine wpAnyH_take (i := 6) (v := ?_) rfl (by kernel_rfl) (by kernel_rfl) (by kernel_rfl) (fun _ _ _ h => h) (Or.inl ⟨by rfl, ?_⟩) (by with_reducible assumption) ?_
                rotate_left
                · intro w hSw
                  try dsimp only at hSw
                  go_simp
                  try with_reducible rfl
                try simp only [Act.put]
                refine wpAnyH_take (i := 7) (v := ?_) rfl (by kernel_rfl) (by kernel_rfl) (by kernel_rfl) (fun _ _ _ h => h) (Or.inl ⟨by rfl, ?_⟩) (by with_reducible assumption) ?_
                rotate_left
                · intro w hSw
                  try dsimp only at hSw
                  go_simp
                  try with_reducible rfl
                try simp only [Act.put]
                refine wpAnyH_take (i := 8) (v := ?_) rfl (by kernel_rfl) (by kernel_rfl) (by kernel_rfl) (fun _ _ _ h => h) (Or.inl ⟨by rfl, ?_⟩) (by with_reducible assumption) ?_
                rotate_left
                · intro w hSw
                  try dsimp only at hSw
                  go_simp
                  try with_reducible rfl
                try simp only [Act.put]
                refine wpAnyH_take (i := 9) (v := ?_) rfl (by kernel_rfl) (by kernel_rfl) (by kernel_rfl) (fun _ _ _ h => h) (Or.inl ⟨by rfl, ?_⟩) (by with_reducible assumption) ?_
                rotate_left
                · intro w hSw
                  try dsimp only at hSw
                  go_simp
                  try with_reducible rfl
                try simp only [Act.put]
                refine wpAnyH_ready (rs := [2]) (by kernel_rfl) (by simp) ?_
                refine AllReadyH.cons (o := _) rfl (fun K hK => ?_) ?_
                · go_simp
                  refine hK.out _ _ (cell_alloc_keep hsb2 hHeld) (fun hHeld => ?_)
                  clear hK K
                  try simp only [Act.put, List.setIfInBounds_toArray, List.set_cons_zero, List.set_cons_succ]
                  refine wpAnyH_ready (rs := [3]) (by kernel_rfl) (by simp) ?_
                  refine AllReadyH.cons (o := _) rfl (fun K hK => ?_) ?_
                  · go_simp
                    refine hK.out _ _ (cell_alloc_keep (by simp; omega) hHeld) (fun hHeld => ?_)
                    clear hK K
                    try simp only [Act.put, List.setIfInBounds_toArray, List.set_cons_zero, List.set_cons_succ]
                    refine wpAnyH_ready (rs := [4]) (by kernel_rfl) (by simp) ?_
                    refine AllReadyH.cons (o := _) rfl (fun K hK => ?_) ?_
                    · go_simp
                      go_at_call 31
                      refine (of_lit1 hB2.out.2 (lst_one hB2.out.1)).mono ?_
                      rintro e w3 ⟨ob3, rfl, hs3, hg3⟩
                      have X3 := Lib.hid (And.intro (SetE.go ⟨_, HX.out.1⟩ ((grow_two wr _ _).trans hg3)) (And.intro hs3 (HX.out.2.trans ((grow_two wr _ _).trans hg3))))
                      have d03 := (below_cell X3.out.2.2 hsb).trans c0
                      clear hs3 hg3
                      refine hK.out _ _ (d03) (fun hHeld => ?_)
                      clear hK K
                      try simp only [Act.put, List.setIfInBounds_toArray, List.set_cons_zero, List.set_cons_succ]
                      refine wpAnyH_ready (rs := [10]) (by kernel_rfl) (by simp) ?_
                      refine AllReadyH.cons (o := _) rfl (fun K hK => ?_) ?_
                      · go_simp
                        go_at_call 84
                        refine (HTM.out _ _ _ _ _ X3.out.2.1 X3.out.1 HOX.out HOK.out).mono ?_
                        rintro e w4 ⟨ob4, rfl, hs4, hg4⟩
                        have X4 := Lib.hid (And.intro (hs4.low X3.out.2.2.size) (X3.out.2.2.trans hg4))
                        have d04 := (below_cell X4.out.2 hsb).trans c0
                        clear hs4 hg4
                        refine hK.out _ _ (d04) (fun hHeld => ?_)
                        clear hK K
                        try simp only [Act.put, List.setIfInBounds_toArray, List.set_cons_zero, List.set_cons_succ]
                        refine wpAnyH_take (i := 11) (v := ?_) rfl (by kernel_rfl) (by kernel_rfl) (by kernel_rfl) (fun _ _ _ h => h) (Or.inl ⟨by rfl, ?_⟩) (by with_reducible assumption) ?_
                        rotate_left
                        · intro w hSw
                          try dsimp only at hSw
                          go_simp
                          try with_reducible rfl
                        try simp only [Act.put, List.setIfInBounds_toArray]
                        refine wpAnyH_done (by kernel_rfl) ?_ _
                        go_wp2_with fail
                        go_roundw
                        case rel => exact ⟨m, by omega, by go_num, ob4, rfl, by rw [HEX.out]; exact X4.out.1, X4.out.2⟩
                        case measure => simp [intOf] <;> omega
                      exact AllReadyH.nil
                    exact AllReadyH.nil
                  exact AllReadyH.nil
                exact AllReadyH.nil
        exact AllReadyH.nil
      exact AllReadyH.nil
    exact AllReadyH.nil
  exact AllReadyH.nil
end Go.Proofs.Ytmiiolgbjicocaa
