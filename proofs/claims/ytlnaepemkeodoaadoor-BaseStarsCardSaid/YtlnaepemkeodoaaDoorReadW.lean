/- A base, read: the walk. -/
import Derived.Test.YtlnaepemkeodoaaDoorRead
namespace Go.Proofs.YtlnaepemkeodoaaDoor
open Go.RowKit
theorem line_short {l x : List UInt8} (h : x ∈ splitL l) : x.length ≤ l.length := by
  have h1 := splitL_len l
  have h2 : ∀ (L : List (List UInt8)), x ∈ L → x.length + 1 ≤ (L.map fun x => x.length + 1).sum := by
    intro L
    induction L with
    | nil => intro h; cases h
    | cons y r ih =>
      intro h
      rw [List.map_cons, List.sum_cons]
      rcases List.mem_cons.1 h with rfl | h
      · omega
      · have := ih h; omega
  have := h2 _ h
  omega
theorem splitL_few (l : List UInt8) : (splitL l).length ≤ l.length + 1 := by
  have h1 := splitL_len l
  have h2 : ∀ (L : List (List UInt8)), L.length ≤ (L.map fun x => x.length + 1).sum := by
    intro L
    induction L with
    | nil => simp
    | cons y r ih => rw [List.map_cons, List.sum_cons, List.length_cons]; omega
  have := h2 (splitL l)
  omega
structure RRel (w0 : World) (base bb lb : Nat) (arr : Array Value) (Ls : List (List UInt8)) (R : St) (k : Nat) (st : St) (bv : Value) (wr : World) : Prop where
  f : foldS st k (Ls.drop k) = R
  b : Base st.marks st.heads
  i : RInv w0 base bb lb arr wr st bv
theorem RRel.next {w0 wr w' : World} {base bb lb k : Nat} {arr : Array Value} {Ls : List (List UInt8)} {R st st' : St} {bv bv' : Value} (h : RRel w0 base bb lb arr Ls R k st bv wr) (hk : k < Ls.length) (hs : stepS st k Ls[k] = st') (hi : RInv w0 base bb lb arr w' st' bv') :
    RRel w0 base bb lb arr Ls R (k + 1) st' bv' w' := by
  refine ⟨?_, ?_, hi⟩
  · rw [← h.f, List.drop_eq_getElem_cons hk, foldS, hs]
  · rw [← hs]; exact step_base h.b
theorem step_skip {st : St} {k : Nat} {L : List UInt8} (h : skipB L = true) : stepS st k L = st := by unfold stepS; rw [if_pos h]
theorem step_err {st : St} {k : Nat} {L : List UInt8} {E : Int} (h : skipB L = false) (he : errOf st L = E) (hE : E ≠ 0) : stepS st k L = ⟨st.marks, st.heads, st.bad ++ [(E, k + 1)]⟩ := by
  unfold stepS; rw [if_neg (by rw [h]; decide), he, if_neg hE]
theorem step_add {st : St} {k : Nat} {L : List UInt8} (h : skipB L = false) (he : errOf st L = 0) : stepS st k L = ⟨addM st.marks L, addH st.heads L, st.bad⟩ := by
  unfold stepS; rw [if_neg (by rw [h]; decide), if_pos he]
theorem err_a {st : St} {L : List UInt8} (h : lineE L ≠ 0) : errOf st L = lineE L := by unfold errOf; rw [if_pos h]
theorem err_b {st : St} {L : List UInt8} (h : lineE L = 0) (h2 : st.marks.length + st.heads.length = 512) : errOf st L = 7 := by unfold errOf; rw [if_neg (by omega), if_pos h2]
theorem err_c {st : St} {L : List UInt8} (h : lineE L = 0) (h2 : st.marks.length + st.heads.length ≠ 512) (h3 : there st.marks st.heads L = true) : errOf st L = 8 := by unfold errOf; rw [if_neg (by omega), if_neg h2, if_pos h3]
theorem err_d {st : St} {L : List UInt8} (h : lineE L = 0) (h2 : st.marks.length + st.heads.length ≠ 512) (h3 : there st.marks st.heads L = false) : errOf st L = 0 := by unfold errOf; rw [if_neg (by omega), if_neg h2, if_neg (by rw [h3]; decide)]
theorem len_r {w0 wr : World} {base bb lb : Nat} {arr : Array Value} {st : St} {bv : Value} (h : RInv w0 base bb lb arr wr st bv) (hb : Base st.marks st.heads) :
    Calls Tryd.prog 8 #[.pointer (some ⟨bb, 0, none⟩)] wr fun e w' => e = .returned (.int .i64 (st.marks.length + st.heads.length : Nat)) ∧ RInv w0 base bb lb arr w' st bv := by
  obtain ⟨mv, hv, hB⟩ := h.b
  refine (len_any hB (by have := hb.few; omega)).mono ?_
  rintro e w' ⟨rfl, hb⟩
  exact ⟨rfl, h.go hb⟩
theorem line_r {w0 wr : World} {base bb lb : Nat} {arr : Array Value} {st : St} {bv : Value} {L : List UInt8} (h : RInv w0 base bb lb arr wr st bv) (hl : L.length ≤ 65536) :
    Calls Tryd.prog 12 #[.string (bOf L)] wr fun e w' => e = .returned (.int .i64 (lineE L)) ∧ RInv w0 base bb lb arr w' st bv := by
  refine (line_any (bOf L) (by rw [bOf_size]; omega) wr).mono ?_
  rintro e w' ⟨rfl, hb⟩
  exact ⟨rfl, h.go hb⟩
theorem add_r {w0 wr : World} {base bb lb : Nat} {arr : Array Value} {st : St} {bv : Value} {L : List UInt8} (h : RInv w0 base bb lb arr wr st bv) (hb : Base st.marks st.heads) (hl : L.length ≤ 65536) :
    Calls Tryd.prog 13 #[.pointer (some ⟨bb, 0, none⟩), .string (bOf L)] wr fun e w' => e = .returned (.bool (!there st.marks st.heads L)) ∧ RInv w0 base bb lb arr w' (if there st.marks st.heads L = true then st else ⟨addM st.marks L, addH st.heads L, st.bad⟩) bv := by
  obtain ⟨mv, hv, hB⟩ := h.b
  refine (add_any hB h.s hb.ms hb.hs (by have := hb.few; omega) (by omega)).mono ?_
  rintro e w' ⟨rfl, h1, h2⟩
  refine ⟨rfl, ?_⟩
  by_cases ht : there st.marks st.heads L = true
  · rw [if_pos ht, if_pos ht] at h1
    rw [if_pos ht]
    exact h.turn h2 h1
  · rw [if_neg ht, if_neg ht] at h1
    rw [if_neg ht]
    exact h.turn h2 h1
def ReadPost (l : List UInt8) (w : World) (e : Ending) (w' : World) : Prop :=
  ∃ bb base a c, e = .returned (.tuple #[.pointer (some ⟨bb, 0, none⟩), .slice a (readS l).bad.length c]) ∧ (∃ mv hv, BaseAt w' base bb (readS l).marks (readS l).heads mv hv) ∧ RowB w' base (.slice a (readS l).bad.length c) (readS l).bad ∧ Below w.heap.size w w'
theorem read_end {w w' : World} {base bb lb : Nat} {arr : Array Value} {Ls : List (List UInt8)} {l : List UInt8} {st : St} {a : Option Addr} {c : Nat} (h : RRel w base bb lb arr Ls (readS l) Ls.length st (.slice a st.bad.length c) w') :
    ReadPost l w (.returned (.tuple #[.pointer (some ⟨bb, 0, none⟩), .slice a st.bad.length c])) w' := by
  have e : st = readS l := by
    have := h.f
    rwa [List.drop_length, foldS] at this
  subst e
  exact ⟨bb, base, a, c, rfl, h.i.b, h.i.r, h.i.k⟩
theorem news_two (X : World) (g : Nat) (hg : g = X.heap.size) (u v : Value) : ∀ j x, [u, v][j]? = some x → (X.alloc (.cells #[u, v] 34)).cell? ((⟨g, 0, none⟩ : Addr).add j) = some x := by
  subst hg
  exact World.news_of_block (cs := #[u, v]) (t := 34) (fr := (0, 0)) (heap_alloc_this _ _)
set_option maxHeartbeats 4000000 in
set_option maxRecDepth 100000 in
theorem read_any (l : List UInt8) (hl : l.length ≤ 65536) (m : Int) (w : World) (hm : w.cell? ⟨0, 0, none⟩ = some (.int .i64 m)) :
    Calls Tryd.prog 6 #[.string (bOf l)] w (ReadPost l w) := by
  obtain ⟨i0, hi0, hz0, hz1, hz2⟩ := info_parts info34
  have HSp := Lib.hid (split_any l m (w.alloc (.cells #[.slice none 0 0, .slice none 0 0] 37)) hl (cell_alloc_keep (block_of_cell hm) hm))
  have HSH := Lib.hid (fun x (h : x ∈ splitL l) => Nat.le_trans (line_short h) hl)
  have hN := Nat.le_trans (splitL_few l) (Nat.succ_le_succ hl)
  have HR0 := Lib.hid (show RRel w (w.heap.size + 2) w.heap.size (w.heap.size + 1) (strV (splitL l)).toArray (splitL l) (readS l) 0 ⟨[], [], []⟩ (.slice none 0 0) ((w.alloc (.cells #[.slice none 0 0, .slice none 0 0] 37)).alloc (.cells (strV (splitL l)).toArray 9)) from by
    refine ⟨rfl, base_nil, ⟨⟨.slice none 0 0, .slice none 0 0, heap_alloc_keep (heap_alloc_this _ _), row_nil _ _, row_nil _ _, fun k hk => by simp [Value.ownBlock] at hk⟩, rowB_nil _ _, ?_, ((Below.refl _ _).alloc (Nat.le_refl _) _).alloc (by rw [World.size_alloc]; omega) _, by simp, by omega, by omega, by omega, by omega⟩⟩
    have := heap_alloc_this (w.alloc (.cells #[.slice none 0 0, .slice none 0 0] 37)) (.cells (strV (splitL l)).toArray 9)
    rwa [World.size_alloc] at this)
  have HCL := Lib.hid (fun (wr : World) (k : Nat) (hk : k < (splitL l).length) (hb : wr.heap[w.heap.size + 1]? = some (.cells (strV (splitL l)).toArray 9 (0, 0))) => show wr.cell? ⟨w.heap.size + 1, k, none⟩ = some (.string (bOf (splitL l)[k])) from by
    rw [cell_of_block hb]
    unfold strV
    simp [List.getElem?_eq_getElem hk])
  have hszl : ¬ (65536 < (bOf l).size) := by rw [bOf_size]; omega
  have HEND := Lib.hid (fun (base bb lb : Nat) (arr : Array Value) (Ls : List (List UInt8)) (st : St) (a : Option Addr) (c : Nat) (w' : World) (h : RRel w base bb lb arr Ls (readS l) Ls.length st (.slice a st.bad.length c) w') => read_end h)
  generalize hA : (strV (splitL l)).toArray = arr at *
  generalize splitL l = Ls at *
  generalize readS l = R at *
  generalize ReadPost l w = P at *
  generalize bOf l = X at *
  clear hA hl
  go_enter Tryd.func6, Tryd.ntmps6
  go_wp2_with (go_at_call 11; refine HSp.out.mono ?_; rintro e w' ⟨rfl, rfl⟩)
  go_loopw [5, 20] (fun bv i wr => ∃ (k : Nat) (st : St) (a : Option Addr) (c : Nat), k ≤ Ls.length ∧ st.bad.length ≤ k ∧ i = .int .i64 k ∧ bv = .slice a st.bad.length c ∧ Hid (RRel w (w.heap.size + 2) w.heap.size (w.heap.size + 1) arr Ls R k st (.slice a st.bad.length c) wr)) (fun _ i _ => Ls.length - (intOf i).toNat)
  case atStart => exact ⟨0, ⟨[], [], []⟩, none, 0, by omega, by simp, rfl, rfl, HR0⟩
  case round =>
    obtain ⟨k, st, a, c, hk, hbk, rfl, rfl, hr⟩ := hrel
    by_cases hlt : k < Ls.length
    · have hki : (k : Int) < Ls.length := by omega
      have hcl := HCL.out wr k hlt hr.out.i.l
      have HLL := HSH.out Ls[k] (List.getElem_mem hlt)
      have HNX := Lib.hid (fun st' bv' w' => @RRel.next w wr w' (w.heap.size + 2) w.heap.size (w.heap.size + 1) k arr Ls R st st' (.slice a st.bad.length c) bv' hr.out hlt)
      have hlb := lt_of_block hr.out.i.l
      have HB := Lib.hid hr.out.b
      have HI := Lib.hid hr.out.i
      generalize Ls[k] = L at *
      clear hr HCL HR0 HSp
      cases L with
      | nil =>
        have HS := Lib.hid (HNX.out st (.slice a st.bad.length c) wr (step_skip rfl) HI.out)
        have hE0 : (bOf []).toList = [] := bOf_list []
        clear HNX
        generalize bOf [] = y at *
        go_wp2
        go_roundw
        case rel => exact ⟨k + 1, st, a, c, by omega, by omega, by go_num, rfl, HS⟩
        case measure => simp [intOf]; omega
      | cons ch r =>
        have hsz : 0 < (bOf (ch :: r)).size := by rw [bOf_size]; simp
        have hch : (bOf (ch :: r))[0] = ch := rfl
        have hne : (bOf (ch :: r)).toList.isEmpty = false := by rw [bOf_list]; rfl
        by_cases h35 : ch = 35
        · have HS := Lib.hid (HNX.out st (.slice a st.bad.length c) wr (step_skip (by rw [h35]; rfl)) HI.out)
          have hb35 : (((bOf (ch :: r))[0].toNat : Int) == 35) = true := by rw [hch, h35]; rfl
          clear HNX hch h35
          generalize bOf (ch :: r) = y at *
          go_wp2
          go_roundw
          case rel => exact ⟨k + 1, st, a, c, by omega, by omega, by go_num, rfl, HS⟩
          case measure => simp [intOf]; omega
        · have hb35 : (((bOf (ch :: r))[0].toNat : Int) == 35) = false := by
            rw [hch]
            simp only [beq_eq_false_iff_ne, ne_eq]
            intro h
            exact h35 (UInt8.toNat_inj.1 (by show ch.toNat = 35; omega))
          have hsk : skipB (ch :: r) = false := by
            unfold skipB
            simpa using h35
          clear hch
          have HLn := Lib.hid (line_r HI.out HLL)
          have hn63 : st.bad.length + 1 ≤ 65538 := by omega
          by_cases hE : lineE (ch :: r) = 0
          · rw [hE] at HLn
            have HLe := Lib.hid (fun W (h : RInv w (w.heap.size + 2) w.heap.size (w.heap.size + 1) arr W st (.slice a st.bad.length c)) => len_r h HB.out)
            by_cases hT : st.marks.length + st.heads.length = 512
            · rw [hT] at HLe
              have HS := Lib.hid (fun bv' w' => HNX.out _ bv' w' (step_err hsk (err_b hE hT) (by decide)))
              clear HNX hE hsk hT
              generalize bOf (ch :: r) = y at *
              go_wp2_with (first
                | (go_at_call 12; refine HLn.out.mono ?_; rintro e w1 ⟨rfl, h1⟩; have H1 := Lib.hid h1; clear h1)
                | (go_at_call 8; refine (HLe.out _ H1.out).mono ?_; rintro e w2 ⟨rfl, h2⟩; have H2 := Lib.hid h2; clear h2)
                | (at_builtin; (refine wpList_append_lies _ rfl (.tmp 53) (.tmp 58) 24 rfl (w.heap.size + 2) 34 i0 _ 2 16 Tryd.underlying24 hi0 hz0 hz1 hz2 rfl (by decide) (.slice a st.bad.length c) st.bad.length _ rfl (H2.out.go (below_one _ _)).r ⟨w2.heap.size, 0, none⟩ 1 1 [.int .i64 7, .int .i64 ((k : Int) + 1)] rfl rfl (news_two w2 w2.heap.size rfl _ _) (by simp [Value.oneCell']) (by omega) (by simp only [maxLen]; omega) (by omega) (by have := H2.out.s; simp; omega) (w2.heap.size + 1) (by simp) ?_); intro gg cap' w9 hown1 hgrow hat hlt2
                   have HA := Lib.hid ((H2.out.go (below_one _ _)).app (k := k) rfl hown1 hgrow)
                   clear hown1 hgrow hat))
              go_roundw
              case rel =>
                have hbl : (st.bad ++ [((7 : Int), k + 1)]).length = st.bad.length + 1 := by simp
                refine ⟨k + 1, ⟨st.marks, st.heads, st.bad ++ [(7, k + 1)]⟩, some ⟨gg, 0, none⟩, cap', by omega, by simp only [hbl]; omega, by go_num, by simp only [hbl], Lib.hid ?_⟩
                refine HS.out _ _ ?_
                simp only [hbl]
                exact HA.out
              case measure => simp [intOf]; omega
            · have hTb : (((st.marks.length + st.heads.length : Nat) : Int) == 512) = false := by
                simp only [beq_eq_false_iff_ne, ne_eq]; omega
              have HAd := Lib.hid (fun W (h : RInv w (w.heap.size + 2) w.heap.size (w.heap.size + 1) arr W st (.slice a st.bad.length c)) => add_r h HB.out HLL)
              by_cases hth : there st.marks st.heads (ch :: r) = true
              · rw [hth, if_pos rfl] at HAd
                have HS := Lib.hid (fun bv' w' => HNX.out _ bv' w' (step_err hsk (err_c hE hT hth) (by decide)))
                clear HNX hE hsk hth hT
                generalize bOf (ch :: r) = y at *
                generalize st.marks.length + st.heads.length = T at *
                go_wp2_with (first
                  | (go_at_call 12; refine HLn.out.mono ?_; rintro e w1 ⟨rfl, h1⟩; have H1 := Lib.hid h1; clear h1)
                  | (go_at_call 8; refine (HLe.out _ H1.out).mono ?_; rintro e w2 ⟨rfl, h2⟩; have H2 := Lib.hid h2; clear h2)
                  | (go_at_call 13; refine (HAd.out _ H2.out).mono ?_; rintro e w3 ⟨rfl, h3⟩; have H3 := Lib.hid h3; clear h3)
                  | (at_builtin; (refine wpList_append_lies _ rfl (.tmp 53) (.tmp 58) 24 rfl (w.heap.size + 2) 34 i0 _ 2 16 Tryd.underlying24 hi0 hz0 hz1 hz2 rfl (by decide) (.slice a st.bad.length c) st.bad.length _ rfl (H3.out.go (below_one _ _)).r ⟨w3.heap.size, 0, none⟩ 1 1 [.int .i64 8, .int .i64 ((k : Int) + 1)] rfl rfl (news_two w3 w3.heap.size rfl _ _) (by simp [Value.oneCell']) (by omega) (by simp only [maxLen]; omega) (by omega) (by have := H3.out.s; simp; omega) (w3.heap.size + 1) (by simp) ?_); intro gg cap' w9 hown1 hgrow hat hlt2
                     have HA := Lib.hid ((H3.out.go (below_one _ _)).app (k := k) rfl hown1 hgrow)
                     clear hown1 hgrow hat))
                go_roundw
                case rel =>
                  have hbl : (st.bad ++ [((8 : Int), k + 1)]).length = st.bad.length + 1 := by simp
                  refine ⟨k + 1, ⟨st.marks, st.heads, st.bad ++ [(8, k + 1)]⟩, some ⟨gg, 0, none⟩, cap', by omega, by simp only [hbl]; omega, by go_num, by simp only [hbl], Lib.hid ?_⟩
                  refine HS.out _ _ ?_
                  simp only [hbl]
                  exact HA.out
                case measure => simp [intOf]; omega
              · have hth : there st.marks st.heads (ch :: r) = false := by simpa using hth
                rw [hth, if_neg (by decide)] at HAd
                have HS := Lib.hid (fun bv' w' => HNX.out _ bv' w' (step_add hsk (err_d hE hT hth)))
                clear HNX hE hsk hth hT
                generalize bOf (ch :: r) = y at *
                generalize st.marks.length + st.heads.length = T at *
                go_wp2_with (first
                  | (go_at_call 12; refine HLn.out.mono ?_; rintro e w1 ⟨rfl, h1⟩; have H1 := Lib.hid h1; clear h1)
                  | (go_at_call 8; refine (HLe.out _ H1.out).mono ?_; rintro e w2 ⟨rfl, h2⟩; have H2 := Lib.hid h2; clear h2)
                  | (go_at_call 13; refine (HAd.out _ H2.out).mono ?_; rintro e w3 ⟨rfl, h3⟩; have H3 := Lib.hid h3; clear h3))
                go_roundw
                case rel => exact ⟨k + 1, ⟨addM st.marks (ch :: r), addH st.heads (ch :: r), st.bad⟩, a, c, by omega, by show st.bad.length ≤ k + 1; omega, by go_num, rfl, Lib.hid (HS.out _ _ H3.out)⟩
                case measure => simp [intOf]; omega
          · have HS := Lib.hid (fun bv' w' => HNX.out _ bv' w' (step_err hsk (err_a hE) hE))
            have hEb : (lineE (ch :: r) == 0) = false := by simpa using hE
            have hEn : lineE (ch :: r) ≠ 0 := hE
            clear HNX hE hsk
            generalize lineE (ch :: r) = E at *
            generalize bOf (ch :: r) = y at *
            go_wp2_with (first
              | (go_at_call 12; refine HLn.out.mono ?_; rintro e w1 ⟨rfl, h1⟩; have H1 := Lib.hid h1; clear h1)
              | (at_builtin; (refine wpList_append_lies _ rfl (.tmp 53) (.tmp 58) 24 rfl (w.heap.size + 2) 34 i0 _ 2 16 Tryd.underlying24 hi0 hz0 hz1 hz2 rfl (by decide) (.slice a st.bad.length c) st.bad.length _ rfl (H1.out.go (below_one _ _)).r ⟨w1.heap.size, 0, none⟩ 1 1 [.int .i64 E, .int .i64 ((k : Int) + 1)] rfl rfl (news_two w1 w1.heap.size rfl _ _) (by simp [Value.oneCell']) (by omega) (by simp only [maxLen]; omega) (by omega) (by have := H1.out.s; simp; omega) (w1.heap.size + 1) (by simp) ?_); intro gg cap' w9 hown1 hgrow hat hlt2
                 have HA := Lib.hid ((H1.out.go (below_one _ _)).app (k := k) rfl hown1 hgrow)
                 clear hown1 hgrow hat))
            go_roundw
            case rel =>
              have hbl : (st.bad ++ [((E : Int), k + 1)]).length = st.bad.length + 1 := by simp
              refine ⟨k + 1, ⟨st.marks, st.heads, st.bad ++ [(E, k + 1)]⟩, some ⟨gg, 0, none⟩, cap', by omega, by simp only [hbl]; omega, by go_num, by simp only [hbl], Lib.hid ?_⟩
              refine HS.out _ _ ?_
              simp only [hbl]
              exact HA.out
            case measure => simp [intOf]; omega
    · obtain rfl : k = Ls.length := by omega
      have HE := Lib.hid (HEND.out _ _ _ _ _ _ _ _ _ hr.out)
      clear hr HEND
      go_wp2
      all_goals (first | exact HE.out | (go_ret2; exact HE.out))
end Go.Proofs.YtlnaepemkeodoaaDoor
