/- All words of another set put in. -/
import Derived.Test.YtoiinikbbkmjoaaLaws0
import Derived.Lib.SliceRun
namespace Go.Proofs.Ytoiinikbbkmjoaa
open Go.RowKit
/-- A row of words, whichever: its values in a block of its own. -/
def ClonePost (vs : List Value) (w : World) (e : Ending) (w' : World) : Prop := ∃ v, e = .returned v ∧ Row w' w.heap.size v vs ∧ Grow w w'
set_option maxHeartbeats 1000000 in
theorem clone2_any {lv : Value} {vs : List Value} {w : World} (h : Row w 0 lv vs) (hn : vs.length ≤ 10000) (hv1 : ∀ u ∈ vs, u.oneCell' = true) :
    Calls Try.prog 38 #[lv] w (ClonePost vs w) := by
  obtain ⟨i0, hi0, hz0, hz1, hz2⟩ := info_parts info22
  have q29 : ∀ (w : World) (a : Option Addr) (n c n' c' : Nat), (binOp .eql 29 (.slice a n c) (.slice none n' c')).run Try.prog w = .ok (.bool a.isNone) w := fun w a n c n' c' => Lib.run_eql_slice_nil w _ _ a n c n' c' Try.underlying29
  rcases h.2 with ⟨rfl, h0⟩ | ⟨g, cap, cur, rfl, hg, hh, hle, hm, hs, htk⟩
  · have hvs : vs = [] := List.eq_nil_of_length_eq_zero h0
    subst hvs
    clear h
    go_enter Try.func38, Try.ntmps38
    go_wp2
    go_ret
    exact ⟨_, rfl, World.ownsRow_nil _ _ _ _, Below.refl _ _⟩
  · obtain ⟨_, _, _, _, _, _, hcell⟩ := row_cells h
    have hgw := lt_of_block hh
    have HO : Hid ((w.alloc (.cells #[] 22)).ownsRow w.heap.size 22 1 (.slice (some ⟨w.heap.size, 0, none⟩) 0 0) 0 []) :=
      Lib.hid ⟨rfl, .inr ⟨w.heap.size, 0, #[], rfl, Nat.le_refl _, heap_alloc_this _ _, Nat.le_refl _, Nat.zero_le _, rfl, rfl⟩⟩
    have HC : Hid (∀ j u, vs[j]? = some u → (w.alloc (.cells #[] 22)).cell? ((⟨g, 0, none⟩ : Addr).add j) = some u) := Lib.hid (fun j u hj => by
      rw [addr_add]
      exact cell_alloc_keep hgw (hcell j u hj))
    clear h hh hs htk hcell
    go_enter Try.func38, Try.ntmps38
    go_wp2_with (first
      | (at_builtin; (refine wpList_append_own _ rfl (.tmp 5) (.tmp 6) 29 rfl w.heap.size 22 i0 (.slice none 0 0) 1 24 Try.underlying29 hi0 hz0 hz1 hz2 rfl (by omega) (.slice (some ⟨w.heap.size, 0, none⟩) 0 0) 0 [] rfl HO.out ⟨g, 0, none⟩ vs.length cap vs rfl (by omega) HC.out hv1 (by simp only [maxLen]; omega) (by omega) (by simp) ?_); intro v' w1 hown1 hgrow _))
    go_ret
    refine ⟨_, rfl, ?_, ?_⟩
    · have h := hown1
      rw [Nat.zero_add, List.nil_append] at h
      exact h
    · exact Below.trans ((Below.refl _ _).alloc (Nat.le_refl _) _) ⟨hgrow.os, hgrow.tape, hgrow.output, hgrow.size, fun k hk => hgrow.block k (by simp; omega) (fun h => by simp [Value.ownBlock] at h; omega)⟩
theorem rw_at {lv : Value} {vs : List Value} {L : List (List Int)} {w : World} {base : Nat} (hrow : Row w base lv vs) (hw : WordsAt w vs L) {i : Nat} (hi : i < L.length) :
    ∃ g c a d, lv = .slice (some ⟨g, 0, none⟩) L.length c ∧ w.cell? ⟨g, i, none⟩ = some (.slice a L[i].length d) ∧ Lst w a L[i] ∧ (a = none → d = 0) ∧ L[i].length ≤ d := by
  have hl := hw.1
  have hiv : i < vs.length := by omega
  obtain ⟨g, c, hlv⟩ : ∃ g c, lv = .slice (some ⟨g, 0, none⟩) vs.length c := by
    rcases hrow.2 with ⟨_, h0⟩ | ⟨g, cap, cur, h1, _⟩
    · omega
    · exact ⟨_, _, h1⟩
  rw [hlv] at hrow
  obtain ⟨_, _, _, cur, _, _, hcell⟩ := row_cells hrow
  obtain ⟨a, d, hv, hn, hin, _, hle⟩ := (hw.2 i hiv hi).shape
  have := hcell i _ (List.getElem?_eq_getElem hiv)
  rw [hv, Nat.zero_add] at this
  exact ⟨g, c, a, d, by rw [hlv, hl], this, hin, fun h => (hn h).1, hle⟩
/-- What a set's turning leaves of words and of rows. -/
theorem not3 {sb : Nat} {lv : Value} {vs : List Value} {L : List (List Int)} {w : World} (h : SetAt sb lv vs L w) {k : Nat} {cs : Array Value} (hk : w.heap[k]? = some (Obj.cells cs 3 (0, 0))) : ¬ (k = sb ∨ lv.ownBlock = some k) := by
  rintro (e | e)
  · rw [e, h.blk] at hk
    injection hk with hk
    injection hk with _ h3
    exact absurd h3 (by decide)
  · obtain ⟨_, _, cs, h2⟩ := row_ge h.row e
    rw [hk] at h2
    injection h2 with h2
    injection h2 with _ h3
    exact absurd h3 (by decide)
theorem words_kept {sb : Nat} {lv : Value} {vs : List Value} {L : List (List Int)} {w w' : World} (h : SetAt sb lv vs L w) (hk : Kept (fun k => k = sb ∨ lv.ownBlock = some k) w w') {us : List Value} {M : List (List Int)} (hu : WordsAt w us M) : WordsAt w' us M :=
  hu.keep (fun k _ h3 => hk.block k (lt_of_block h3) (not3 h h3))
theorem set_kept {sb tb : Nat} {lv tlv : Value} {vs tvs : List Value} {L M : List (List Int)} {w w' : World} (h : SetAt sb lv vs L w) (ht : SetAt tb tlv tvs M w) (hk : Kept (fun k => k = sb ∨ lv.ownBlock = some k) w w') (hne : tb ≠ sb) (hdis : ∀ k, lv.ownBlock = some k → tlv.ownBlock ≠ some k) : SetAt tb tlv tvs M w' := by
  refine ⟨(hk.block tb (lt_of_block ht.blk) ?_).trans ht.blk, ht.row.keep (fun k hkk => hk.block k (row_ge ht.row hkk).1 ?_), words_kept h hk ht.words⟩
  · rintro (e | e)
    · exact hne e
    · obtain ⟨_, _, cs, h2⟩ := row_ge h.row e
      rw [ht.blk] at h2
      injection h2 with h2
      injection h2 with _ h3
      exact absurd h3 (by decide)
  · rintro (e | e)
    · rw [e] at hkk
      obtain ⟨_, _, cs, h2⟩ := row_ge ht.row hkk
      rw [h.blk] at h2
      injection h2 with h2
      injection h2 with _ h3
      exact absurd h3 (by decide)
    · exact hdis k e hkk
def TakePost (sb : Nat) (slv : Value) (A B : List (List Int)) (w : World) (e : Ending) (w' : World) : Prop :=
  ∃ slv' svs', e = .returned (.int .i64 (((B.foldl rAdd A).length : Nat) - (A.length : Nat) : Int)) ∧ SetAt sb slv' svs' (B.foldl rAdd A) w' ∧ Kept (fun k => k = sb ∨ slv.ownBlock = some k) w w' ∧ ∀ k, slv'.ownBlock = some k → slv.ownBlock = some k ∨ w.heap.size ≤ k
theorem fold_on {A B : List (List Int)} {k : Nat} (hk : k < B.length) : (B.take (k + 1)).foldl rAdd A = rAdd ((B.take k).foldl rAdd A) B[k] := by
  rw [List.take_succ_eq_append_getElem hk, List.foldl_append]
  rfl
theorem rAdd_new {L : List (List Int)} {a : List Int} (h : a ∉ L) : (rAdd L a).length = L.length + 1 := by
  have hp : spot L a ≤ L.length := List.findIdx_le_length
  unfold rAdd
  rw [if_neg h]
  simp
  omega
theorem short_fold {A B : List (List Int)} (hA : Short A) (hB : Short B) (k : Nat) : Short ((B.take k).foldl rAdd A) := fun y hy => by
  rcases (foldl_mem _ _ y).1 hy with h | h
  · exact hA y h
  · exact hB y (List.mem_of_mem_take h)
set_option maxHeartbeats 4000000 in
theorem take_any {sb tb : Nat} {slv tlv : Value} {svs tvs : List Value} {A B : List (List Int)} {w : World} (hs : SetAt sb slv svs A w) (hAs : Sorted A) (ht : SetAt tb tlv tvs B w) (hA : Short A) (hB : Short B) (hn : A.length ≤ 1000) (hn2 : B.length ≤ 1000) :
    Calls Try.prog 31 #[.pointer (some ⟨sb, 0, none⟩), .pointer (some ⟨tb, 0, none⟩)] w (TakePost sb slv A B w) := by
  have HS := Lib.hid hs
  have HW := Lib.hid ht.words
  have HCl := Lib.hid (clone2_any ht.row (by have := ht.words.1; omega) (words_one ht.words))
  have gt : w.cell? ⟨tb, 0, none⟩ = some tlv := cell_of_block ht.blk
  obtain ⟨ta, tc, rfl, -, -⟩ := ht.len
  clear hs ht
  go_enter Try.func31, Try.ntmps31
  go_wp2_with fail
  refine HCl.out.mono ?_
  rintro e w1 ⟨cv, rfl, hcr, hg⟩
  have hvl : tvs.length = B.length := HW.out.1
  obtain ⟨ca, cc, rfl⟩ : ∃ ca cc, cv = .slice ca B.length cc := row_lit hcr hvl
  have H1 := Lib.hid (And.intro hcr (And.intro hg (HW.out.keep (fun _ _ hk => hg.block _ (lt_of_block hk)))))
  have HS1 := Lib.hid (HS.out.grow hg)
  have hfr0 : Hid (∀ k, (Value.slice ca B.length cc).ownBlock = some k → w.heap.size ≤ k ∧ k < w1.heap.size) := Lib.hid (fun k hk => ⟨(row_ge hcr hk).2.1, (row_ge hcr hk).1⟩)
  clear hcr hg hvl HCl
  go_wp2
  go_loopw [5, 14] (fun n i wr => ∃ p : Nat, p ≤ B.length ∧ i = .int .i64 p ∧ n = .int .i64 ((((B.take p).foldl rAdd A).length : Nat) - (A.length : Nat) : Int) ∧ Hid (∃ slv' svs', SetAt sb slv' svs' ((B.take p).foldl rAdd A) wr ∧ Kept (fun k => k = sb ∨ slv.ownBlock = some k) w wr ∧ (∀ k, slv'.ownBlock = some k → slv.ownBlock = some k ∨ w1.heap.size ≤ k) ∧ Row wr w.heap.size (.slice ca B.length cc) tvs ∧ WordsAt wr tvs B ∧ w1.heap.size ≤ wr.heap.size)) (fun _ i _ => B.length - (intOf i).toNat)
  case atStart => exact ⟨0, by omega, rfl, by simp, slv, svs, HS1.out, kept_of_below H1.out.2.1 _, fun k hk => .inl hk, H1.out.1, H1.out.2.2, Nat.le_refl _⟩
  case round =>
    obtain ⟨p, hp, rfl, rfl, hh⟩ := hrel
    obtain ⟨slv1, svs1, hsr, hkr, hfr, hrr, hwr, hsz⟩ := hh.out
    have HH := Lib.hid (And.intro hsr (And.intro hkr (And.intro hfr (And.intro hrr (And.intro hwr hsz)))))
    clear hh hsr hkr hfr hrr hwr hsz
    have hle : A.length ≤ ((B.take p).foldl rAdd A).length := by
      have h : ∀ (Bs L : List (List Int)), L.length ≤ (Bs.foldl rAdd L).length := fun Bs => by
        induction Bs with
        | nil => intro L; exact Nat.le_refl _
        | cons b t ih =>
          intro L
          rw [List.foldl_cons]
          refine Nat.le_trans ?_ (ih _)
          by_cases hb : b ∈ L
          · unfold rAdd; rw [if_pos hb]; exact Nat.le_refl _
          · rw [rAdd_new hb]; omega
      exact h _ _
    have hul := foldl_len (B.take p) A
    simp only [List.length_take] at hul
    by_cases hlt : p < B.length
    · have hki : (p : Int) < B.length := by omega
      obtain ⟨g, c, ai, di, hlv, hc, hin, hd, hld⟩ := rw_at HH.out.2.2.2.1 HH.out.2.2.2.2.1 hlt
      injection hlv with e1 _ e3
      subst e1 e3
      have hSo : Sorted ((B.take p).foldl rAdd A) := foldl_sorted _ _ hAs
      have hSh := short_fold hA hB p
      have hbl := hB _ (List.getElem_mem hlt)
      have HA := Lib.hid (add_any (c := di) HH.out.1 hin hd (by omega) (fun y hy => by have := hSh y hy; omega) (by omega) (words_one HH.out.1.words))
      have HE := Lib.hid (fold_on (A := A) hlt)
      have HSo := Lib.hid hSo
      clear hin hSh hSo
      generalize B[p] = x at *
      generalize (B.take p).foldl rAdd A = U at *
      go_wp2_with fail
      refine HA.out.mono ?_
      rintro e w2 ⟨q, hq, rfl, slv2, svs2, hs2, hk2, hf2⟩
      have hm : decide (U[q]? = some x) = decide (x ∈ U) := by rw [Bool.eq_iff_iff]; simp [place_mem HSo.out hq]
      rw [place_spot HSo.out hq] at hs2
      rw [hm]
      have HX : Hid (∃ slv' svs', SetAt sb slv' svs' (rAdd U x) w2 ∧ Kept (fun k => k = sb ∨ slv.ownBlock = some k) w w2 ∧ (∀ k, slv'.ownBlock = some k → slv.ownBlock = some k ∨ w1.heap.size ≤ k) ∧ Row w2 w.heap.size (.slice (some ⟨g, 0, none⟩) B.length cc) tvs ∧ WordsAt w2 tvs B ∧ w1.heap.size ≤ w2.heap.size) := Lib.hid (by
        have hkc := hfr0.out g rfl
        refine ⟨slv2, svs2, hs2, HH.out.2.1.then (S'' := fun k => k = sb ∨ slv.ownBlock = some k) hk2 (fun _ _ h => h) (fun k hk h => ?_), fun k hk => ?_, HH.out.2.2.2.1.keep (fun k hk => hk2.block k (row_ge HH.out.2.2.2.1 hk).1 ?_), words_kept HH.out.1 hk2 HH.out.2.2.2.2.1, Nat.le_trans HH.out.2.2.2.2.2 hk2.size⟩
        · rcases h with h | h
          · exact .inl h
          · rcases HH.out.2.2.1 k h with h1 | h1
            · exact .inr h1
            · have := H1.out.2.1.size; omega
        · rcases hf2 k hk with h | h
          · exact HH.out.2.2.1 k h
          · exact .inr (Nat.le_trans HH.out.2.2.2.2.2 h)
        · have hkg : g = k := by simpa [Value.ownBlock] using hk
          subst hkg
          rintro (h | h)
          · have := lt_of_block HS.out.blk; omega
          · rcases HH.out.2.2.1 g h with h1 | h1
            · have := (row_ge HS.out.row h1).1; omega
            · omega)
      clear hs2 hk2 hf2 hm hq
      by_cases hxm : x ∈ U
      · simp only [hxm, decide_true, Bool.not_true]
        go_wp2
        go_round
        case rel =>
          refine ⟨p + 1, by omega, by go_num, ?_, ?_⟩
          · rw [HE.out]; unfold rAdd; rw [if_pos hxm]
          · rw [HE.out]; exact HX
        case measure => simp [intOf]; omega
      · simp only [hxm, decide_false, Bool.not_false]
        have hnl := rAdd_new hxm
        go_wp2
        go_round
        case rel =>
          refine ⟨p + 1, by omega, by go_num, ?_, ?_⟩
          · rw [HE.out, hnl]; congr 1; push_cast; omega
          · rw [HE.out]; exact HX
        case measure => simp [intOf]; omega
    · have hpe : p = B.length := by omega
      subst hpe
      have hki : ¬ ((B.length : Int) < B.length) := by omega
      rw [List.take_length] at HH hle ⊢
      go_wp2
      go_ret
      obtain ⟨hsr, hkr, hfr, _, _, hsz⟩ := HH.out
      exact ⟨_, _, rfl, hsr, hkr, fun k hk => (hfr k hk).imp id (fun h => Nat.le_trans H1.out.2.1.size h)⟩
end Go.Proofs.Ytoiinikbbkmjoaa
