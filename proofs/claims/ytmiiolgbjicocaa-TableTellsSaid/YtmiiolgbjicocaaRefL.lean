/- The reference's Ahead and Look; the rounds, plain. -/
import Derived.Test.YtmiiolgbjicocaaRefM
import Derived.Test.YtmiiolgbjicocaaLook
import Derived.Deep.RegionHeld3
namespace Go.Proofs.Ytmiiolgbjicocaa
open Go.RowKit
theorem raccL_snoc {K : Int} {F : List Wds} : ∀ {f : List Int} {acc : Wds} {s : Int}, raccL K F acc (f ++ [s]) = timesL (raccL K F acc f) (xOf F s) K
  | [], _, _ => rfl
  | _ :: _, _, _ => by rw [List.cons_append, raccL, raccL_snoc, raccL]
theorem raccL_on {K : Int} {F : List Wds} {f : List Int} {acc : Wds} {m : Nat} (h : m < f.length) : raccL K F acc (f.take (m + 1)) = timesL (raccL K F acc (f.take m)) (xOf F f[m]) K := by
  rw [List.take_succ_eq_append_getElem h, raccL_snoc]
theorem okW_racc {F : List Wds} (hF : ∀ v, OkW (F.getD v [])) {K : Int} (hK : K ≤ 2) {nv : Nat} : ∀ {f : List Int} (_ : FormOK nv f) {acc : Wds} (_ : OkW acc), OkW (raccL K F acc f)
  | [], _, _, h => h
  | s :: f, hf, acc, h => by rw [raccL]; exact okW_racc hF hK (fun x hx => hf x (by simp [hx])) (okW_times h (okW_x hF (hf s (by simp)).2) hK)
theorem sorted_racc {F : List Wds} {K : Int} : ∀ {f : List Int} {acc : Wds} (_ : Sorted acc), Sorted (raccL K F acc f)
  | [], _, h => h
  | s :: f, acc, h => by rw [raccL]; exact sorted_racc (timesL_sorted _ _ _)
theorem sorted_one (x : List Int) : Sorted [x] := fun i j a b hij hi hj => by
  have h1 := (List.getElem?_eq_some_iff.1 hj).1
  simp at h1
  omega
theorem made_lit {W : World} {lo b : Nat} {u : Value} {x : List Int} (hb : W.heap[b]? = some (.cells #[u] 26 (0, 0))) (hu : Own W lo u x) (hlo : lo ≤ b) : Made lo (.slice (some ⟨b, 0, none⟩) 1 1) [x] W :=
  ⟨[u], ⟨rfl, .inr ⟨b, 1, #[u], rfl, hlo, hb, Nat.le_refl _, by decide, rfl, rfl⟩⟩, rfl, fun i h1 h2 => by
    have : i = 0 := by simp at h1; omega
    subst this
    exact hu⟩
theorem own_lit {W : World} {lo b : Nat} {y : Int} (hb : W.heap[b]? = some (.cells #[.int .i64 y] 3 (0, 0))) (hlo : lo ≤ b) : Own W lo (.slice (some ⟨b, 0, none⟩) 1 1) [y] :=
  ⟨rfl, .inr ⟨b, 1, #[.int .i64 y], rfl, hlo, hb, Nat.le_refl _, by decide, rfl, rfl⟩⟩
theorem own_lit0 {W : World} {lo b : Nat} (hb : W.heap[b]? = some (.cells #[] 3 (0, 0))) (hlo : lo ≤ b) : Own W lo (.slice (some ⟨b, 0, none⟩) 0 0) [] :=
  ⟨rfl, .inr ⟨b, 0, #[], rfl, hlo, hb, Nat.le_refl _, by decide, rfl, rfl⟩⟩
theorem two_refl {W : World} {lo : Nat} (hlo : lo ≤ W.heap.size) : Made lo (.slice (some ⟨W.heap.size + 1, 0, none⟩) 1 1) [[]] ((W.alloc (.cells #[] 3)).alloc (.cells #[.slice (some ⟨W.heap.size, 0, none⟩) 0 0] 26)) ∧ Grow W ((W.alloc (.cells #[] 3)).alloc (.cells #[.slice (some ⟨W.heap.size, 0, none⟩) 0 0] 26)) := by
  obtain ⟨h1, h2⟩ := two_at W (.cells #[] 3) (.cells #[.slice (some ⟨W.heap.size, 0, none⟩) 0 0] 26)
  exact ⟨made_lit h2 (own_lit0 h1 hlo) (by omega), (grow_one _ _).trans (grow_one _ _)⟩
theorem two_ref {W wr : World} {lo : Nat} {y : Int} {acc : Wds} {oa : Option Addr} {n oc : Nat} (h : Made lo (.slice oa n oc) acc wr) (hg : Grow W wr) :
    Lsts ((wr.drew.alloc (.cells #[.int .i64 y] 3)).alloc (.cells #[.slice (some ⟨wr.heap.size, 0, none⟩) 1 1] 26)) oa acc ∧ Lsts ((wr.drew.alloc (.cells #[.int .i64 y] 3)).alloc (.cells #[.slice (some ⟨wr.heap.size, 0, none⟩) 1 1] 26)) (some ⟨wr.heap.size + 1, 0, none⟩) [[y]] ∧ Grow W ((wr.drew.alloc (.cells #[.int .i64 y] 3)).alloc (.cells #[.slice (some ⟨wr.heap.size, 0, none⟩) 1 1] 26)) := by
  obtain ⟨h1, h2⟩ := two_at wr.drew (.cells #[.int .i64 y] 3) (.cells #[.slice (some ⟨wr.heap.size, 0, none⟩) 1 1] 26)
  have hg2 : Grow wr ((wr.drew.alloc (.cells #[.int .i64 y] 3)).alloc (.cells #[.slice (some ⟨wr.heap.size, 0, none⟩) 1 1] 26)) := ((grow_drew wr).trans (grow_one _ _)).trans (grow_one _ _)
  exact ⟨(h.go hg2).l, (made_lit (lo := 0) h2 (own_lit h1 (Nat.zero_le _)) (Nat.zero_le _)).l, hg.trans hg2⟩
theorem okW_5 {L : Wds} (h : OkW L) : ∀ y ∈ L, y.length ≤ 5000 := fun y hy => by have := (h y hy).1; omega
set_option maxRecDepth 100000 in
set_option maxHeartbeats 2000000 in
theorem rahead_any {K : Int} {nv xb cx yb cy : Nat} {F : List Wds} {w : World} (h : ArrM xb nv F w) (hK : 1 ≤ K ∧ K ≤ 2) (hF : ∀ v, OkW (F.getD v [])) (hFs : ∀ v, Sorted (F.getD v [])) {fa : Option Addr} {fc : Nat} {f : List Int} (hf : Lst w fa f) (hfl : f.length ≤ 8) (hfo : FormOK nv f)
    {ta : Option Addr} {tc : Nat} {T : Wds} (ht : Lsts w ta T) (hT : OkW T) (hTs : Sorted T) : Calls Try.prog 30 #[SV K nv xb cx yb cy, .slice fa f.length fc, .slice ta T.length tc] w (RPost w.heap.size (raheadL K F f T) w) := by
  have HR := Lib.hid h
  have HL := Lib.hid hf
  have HT := Lib.hid ht
  have HFO := Lib.hid hfo
  have HTS := Lib.hid (okW_5 hT)
  have hTl := okW_few hTs hT
  have HFF := Lib.hid hF
  have HFS := Lib.hid hFs
  have HACC := Lib.hid (fun m => okW_racc (K := K) hF hK.2 (f := f.take m) (fun x hx => hfo x (List.mem_of_mem_take hx)) okW_nil)
  have HACS := Lib.hid (fun m => sorted_racc (F := F) (K := K) (f := f.take m) (sorted_one []))
  have hxb := h.lt
  clear h hf ht hfo hT hTs hF hFs
  obtain ⟨hK1, hK2⟩ := hK
  unfold SV
  go_enter Try.func30, Try.ntmps30
  go_wp2_with fail
  have HC := Lib.hid (heap_alloc_this w (.cells #[.int .i64 K, .slice (some ⟨xb, 0, none⟩) nv cx, .slice (some ⟨yb, 0, none⟩) nv cy] 31))
  have HG := Lib.hid (grow_one w (.cells #[.int .i64 K, .slice (some ⟨xb, 0, none⟩) nv cx, .slice (some ⟨yb, 0, none⟩) nv cy] 31))
  have hWs : (w.alloc (.cells #[.int .i64 K, .slice (some ⟨xb, 0, none⟩) nv cx, .slice (some ⟨yb, 0, none⟩) nv cy] 31)).heap.size = w.heap.size + 1 := by simp
  have HM0 := Lib.hid (two_refl (W := w.alloc (.cells #[.int .i64 K, .slice (some ⟨xb, 0, none⟩) nv cx, .slice (some ⟨yb, 0, none⟩) nv cy] 31)) (lo := w.heap.size) (by omega))
  generalize w.alloc (.cells #[.int .i64 K, .slice (some ⟨xb, 0, none⟩) nv cx, .slice (some ⟨yb, 0, none⟩) nv cy] 31) = W at *
  rw [hWs] at HM0
  have hWw : w.heap.size ≤ W.heap.size := by omega
  have hCW : w.heap.size < W.heap.size := by omega
  go_loopw [7, 8] (fun o i wr => ∃ m : Nat, m ≤ f.length ∧ i = .int .i64 m ∧ Hid (Made w.heap.size o (raccL K F [[]] (f.take m)) wr ∧ Grow W wr)) (fun _ i _ => f.length - (intOf i).toNat)
  case atStart => exact ⟨0, by omega, by go_num, HM0.out⟩
  case round =>
    clear HM0
    obtain ⟨m, hm, rfl, HX⟩ := hrel
    have d0 : wr.cell? ⟨w.heap.size, 0, none⟩ = some (.int .i64 K) := (below_cell HX.out.2 (lt_of_block HC.out)).trans (cell_of_block (off := 0) HC.out)
    have d1 : wr.cell? ⟨w.heap.size, 1, none⟩ = some (.slice (some ⟨xb, 0, none⟩) nv cx) := (below_cell HX.out.2 (lt_of_block HC.out)).trans (cell_of_block (off := 1) HC.out)
    have hsz := HX.out.2.size
    obtain ⟨oa, oc, rfl⟩ := HX.out.1.lit
    have HOA := Lib.hid (okW_5 (HACC.out m))
    have hol := okW_few (HACS.out m) (HACC.out m)
    by_cases hlt : m < f.length
    · have hmi : (m : Int) < f.length := by omega
      have hm0 : (0 : Int) ≤ m := by omega
      obtain ⟨fb, off, rfl, hfb, hfc⟩ := HL.out m hlt
      have g0 := (below_cell (HG.out.trans HX.out.2) hfb).trans hfc
      obtain ⟨hx1, hx2⟩ := HFO.out f[m] (List.getElem_mem hlt)
      have HEX := Lib.hid (raccL_on (K := K) (F := F) (acc := [[]]) hlt)
      generalize raccL K F [[]] (f.take m) = acc at *
      generalize f[m] = x at *
      generalize hCC : w.heap.size = C at *
      have hCr : C < wr.heap.size := by omega
      by_cases h0 : 0 ≤ x
      · obtain ⟨n, rfl⟩ := Int.eq_ofNat_of_zero_le h0
        have hn : n < nv := by omega
        obtain ⟨va, vc, hcb, hvl, _⟩ := (HR.out.go (HG.out.trans HX.out.2)).at hn
        have HVL := Lib.hid hvl
        have HXE := Lib.hid (show xOf F (n : Int) = F.getD n [] by unfold xOf; rw [if_pos h0]; rfl)
        have HOX := Lib.hid (okW_5 (HFF.out n))
        have hxl := okW_few (HFS.out n) (HFF.out n)
        rw [HXE.out] at HEX
        have hxr : xb < wr.heap.size := by have := HG.out.size; omega
        clear hvl HXE
        generalize F.getD n [] = A at *
        go_wp2_with fail
        have hSd : wr.drew.cell? ⟨C, 0, none⟩ = some (.int .i64 K) ∧ wr.drew.cell? ⟨C, 1, none⟩ = some (.slice (some ⟨xb, 0, none⟩) nv cx) ∧ wr.drew.cell? ⟨xb, n, none⟩ = some (.slice va A.length vc) ∧ wr.drew.cell? ⟨fb, off + m, none⟩ = some (.int .i64 (n : Int)) := ⟨d0, d1, hcb, g0⟩
        have hfr : fb < wr.heap.size := block_of_cell g0
        go_region_held3 (fun w' => w'.cell? ⟨C, 0, none⟩ = some (.int .i64 K) ∧ w'.cell? ⟨C, 1, none⟩ = some (.slice (some ⟨xb, 0, none⟩) nv cx) ∧ w'.cell? ⟨xb, n, none⟩ = some (.slice va A.length vc) ∧ w'.cell? ⟨fb, off + m, none⟩ = some (.int .i64 (n : Int)))
          (first | with_reducible exact hS1 | with_reducible exact hSd)
          (first
          | (go_at_call 59; refine (rtimes_any (HX.out.1.go (grow_drew _)).l (HVL.out.go (grow_drew _)) HOA.out HOX.out (by omega) (by omega) K).mono ?_; rintro e w3 ⟨v3, rfl, hm3, hg3⟩
             have hS1 : w3.cell? ⟨C, 0, none⟩ = some (.int .i64 K) ∧ w3.cell? ⟨C, 1, none⟩ = some (.slice (some ⟨xb, 0, none⟩) nv cx) ∧ w3.cell? ⟨xb, n, none⟩ = some (.slice va A.length vc) ∧ w3.cell? ⟨fb, off + m, none⟩ = some (.int .i64 (n : Int)) := ⟨(below_cell hg3 hCr).trans d0, (below_cell hg3 hCr).trans d1, (below_cell hg3 hxr).trans hcb, (below_cell hg3 hfr).trans g0⟩
             have X3 := Lib.hid (And.intro (hm3.mono (Nat.le_of_lt hCr)) (HX.out.2.trans ((grow_drew _).trans hg3)))
             clear hm3 hg3))
        all_goals
          go_wp2_with fail
          go_roundw
          case rel => exact ⟨m + 1, by omega, by go_num, by rw [HEX.out]; exact X3.out⟩
          case measure => simp [intOf] <;> omega
      · have HXE := Lib.hid (show xOf F x = [[-x - 1]] by unfold xOf; rw [if_neg h0])
        have hnt : bits .xor .i64 (if IntKind.i64.signed = true then -1 else 9223372036854775807) x = -x - 1 := (show bits .xor .i64 (if IntKind.i64.signed = true then -1 else 9223372036854775807) x = nt x from rfl).trans (nt_small hx2 (by omega))
        rw [HXE.out] at HEX
        have hOX : ∀ y ∈ [[-x - 1]], y.length ≤ 5000 := fun y hy => by
          obtain rfl : y = [-x - 1] := by simpa using hy
          simp
        have HOX := Lib.hid hOX
        clear hOX HXE
        generalize -x - 1 = y at *
        have hfr : fb < wr.heap.size := block_of_cell g0
        have hfW : fb < W.heap.size := by have := HG.out.size; omega
        have d00 : W.cell? ⟨C, 0, none⟩ = some (.int .i64 K) := cell_of_block (off := 0) HC.out
        have g00 := (below_cell HG.out (by omega : fb < w.heap.size)).trans hfc
        go_wp2_with fail
        refine wp_region_held_drew (S := fun w' => w'.cell? ⟨C, 0, none⟩ = some (.int .i64 K) ∧ w'.cell? ⟨fb, off + m, none⟩ = some (.int .i64 x)) (by kernel_rfl) (⟨d0, g0⟩) (fun hHeld => ?_)
        refine wpAnyH_take (i := 0) (v := ?_) rfl (by kernel_rfl) (by kernel_rfl) (by kernel_rfl) (fun _ _ _ h => h) (Or.inl ⟨by rfl, ?_⟩) (by with_reducible assumption) ?_
        rotate_left
        · intro w hSw
          try dsimp only at hSw
          go_simp
          try with_reducible rfl
        try simp only [Act.put, List.setIfInBounds_toArray]
        refine wpAnyH_take (i := 1) (v := ?_) rfl (by kernel_rfl) (by kernel_rfl) (by kernel_rfl) (fun _ _ _ h => h) (Or.inl ⟨by rfl, ?_⟩) (by with_reducible assumption) ?_
        rotate_left
        · intro w hSw
          try dsimp only at hSw
          go_simp
          try with_reducible rfl
        try simp only [Act.put]
        refine wpAnyH_take (i := 2) (v := ?_) rfl (by kernel_rfl) (by kernel_rfl) (by kernel_rfl) (fun _ _ _ h => h) (Or.inl ⟨by rfl, ?_⟩) (by with_reducible assumption) ?_
        rotate_left
        · intro w hSw
          try dsimp only at hSw
          go_simp
          try with_reducible rfl
        try simp only [Act.put]
        refine wpAnyH_take (i := 3) (v := ?_) rfl (by kernel_rfl) (by kernel_rfl) (by kernel_rfl) (fun _ _ _ h => h) (Or.inl ⟨by rfl, ?_⟩) (by with_reducible assumption) ?_
        rotate_left
        · intro w hSw
          try dsimp only at hSw
          go_simp
          try with_reducible rfl
        try simp only [Act.put]
        refine wpAnyH_take (i := 4) (v := ?_) rfl (by kernel_rfl) (by kernel_rfl) (by kernel_rfl) (fun _ _ _ h => h) (Or.inl ⟨by rfl, ?_⟩) (by with_reducible assumption) ?_
        rotate_left
        · intro w hSw
          try dsimp only at hSw
          go_simp
          try with_reducible rfl
        try simp only [Act.put]
        refine wpAnyH_take (i := 5) (v := ?_) rfl (by kernel_rfl) (by kernel_rfl) (by kernel_rfl) (fun _ _ _ h => h) (Or.inl ⟨by rfl, ?_⟩) (by with_reducible assumption) ?_
        rotate_left
        · intro w hSw
          try dsimp only at hSw
          go_simp
          try with_reducible rfl
        try simp only [Act.put]
        refine wpAnyH_take (i := 8) (v := ?_) rfl (by kernel_rfl) (by kernel_rfl) (by kernel_rfl) (fun _ _ _ h => h) (Or.inl ⟨by rfl, ?_⟩) (by with_reducible assumption) ?_
        rotate_left
        · intro w hSw
          try dsimp only at hSw
          go_simp
          try with_reducible rfl
        try simp only [Act.put]
        refine wpAnyH_take (i := 9) (v := ?_) rfl (by kernel_rfl) (by kernel_rfl) (by kernel_rfl) (fun _ _ _ h => h) (Or.inl ⟨by rfl, ?_⟩) (by with_reducible assumption) ?_
        rotate_left
        · intro w hSw
          try dsimp only at hSw
          go_simp
          try with_reducible rfl
        try simp only [Act.put]
        refine wpAnyH_ready (rs := [6]) (by kernel_rfl) (by simp) ?_
        refine AllReadyH.cons (o := _) rfl (fun K hK => ?_) ?_
        · go_simp
          refine hK.out _ _ (⟨cell_alloc_keep hCr hHeld.1, cell_alloc_keep hfr hHeld.2⟩) (fun hHeld => ?_)
          clear hK K
          try simp only [Act.put, List.setIfInBounds_toArray, List.set_cons_zero, List.set_cons_succ]
          refine wpAnyH_ready (rs := [7]) (by kernel_rfl) (by simp) ?_
          refine AllReadyH.cons (o := _) rfl (fun K hK => ?_) ?_
          · go_simp
            have HX3 := Lib.hid (two_ref (wr := wr) (lo := C) (y := y) HX.out.1 HX.out.2)
            refine hK.out _ _ (⟨cell_alloc_keep (by simp; omega) hHeld.1, cell_alloc_keep (by simp; omega) hHeld.2⟩) (fun hHeld => ?_)
            clear hK K
            try simp only [Act.put, List.setIfInBounds_toArray, List.set_cons_zero, List.set_cons_succ]
            refine wpAnyH_ready (rs := [10]) (by kernel_rfl) (by simp) ?_
            refine AllReadyH.cons (o := _) rfl (fun K hK => ?_) ?_
            · go_simp
              go_at_call 59
              refine (rtimes_any (HX3.out.1) HX3.out.2.1 HOA.out HOX.out (by omega) (by simp) _).mono ?_
              rintro e w3 ⟨v3, rfl, hm3, hg3⟩
              have X3 := Lib.hid (And.intro (hm3.mono (Nat.le_trans hWw HX3.out.2.2.size)) (HX3.out.2.2.trans hg3))
              have d3 := And.intro ((below_cell (HX3.out.2.2.trans hg3) hCW).trans d00) ((below_cell (HX3.out.2.2.trans hg3) hfW).trans g00)
              clear hm3 hg3
              refine hK.out _ _ (d3) (fun hHeld => ?_)
              clear hK K
              try simp only [Act.put, List.setIfInBounds_toArray, List.set_cons_zero, List.set_cons_succ]
              refine wpAnyH_take (i := 11) (v := ?_) rfl (by kernel_rfl) (by kernel_rfl) (by kernel_rfl) (fun _ _ _ h => h) (Or.inl ⟨by rfl, ?_⟩) (by with_reducible assumption) ?_
              rotate_left
              · intro w hSw
                try dsimp only at hSw
                go_simp
                try with_reducible rfl
              try simp only [Act.put, List.setIfInBounds_toArray]
              refine wpAnyH_done (by kernel_rfl) ?_ _
              go_wp2_with fail
              go_roundw
              case rel => exact ⟨m + 1, by omega, by go_num, by rw [HEX.out]; exact X3.out⟩
              case measure => simp [intOf] <;> omega
            exact AllReadyH.nil
          exact AllReadyH.nil
        exact AllReadyH.nil
    · have hmi : ¬ (m : Int) < f.length := by omega
      have e : f.take m = f := List.take_of_length_le (by omega)
      rw [e] at HX
      have HTT := Lib.hid (HT.out.go (HG.out.trans HX.out.2))
      rw [e] at HOA hol
      rw [e]
      go_wp2_with (first | (go_at_call 59; refine (rtimes_any HX.out.1.l HTT.out HOA.out HTS.out (by omega) (by omega) K).mono ?_; rintro e w3 ⟨v3, rfl, hm3, hg3⟩
                            have X3 := Lib.hid (And.intro (hm3.mono (by omega : w.heap.size ≤ wr.heap.size)) (HG.out.trans (HX.out.2.trans hg3)))
                            clear hm3 hg3))
      go_ret
      exact ⟨_, rfl, X3.out.1, X3.out.2⟩
set_option maxRecDepth 100000 in
set_option maxHeartbeats 4000000 in
theorem rlook_any {w : World} {B : Nat} {K : Int} {g : GramD} {nv xb cx yb cy : Nat} {F Fo : List Wds} (h : ArrM xb nv F w) (h' : ArrM yb nv Fo w) (hK : 1 ≤ K ∧ K ≤ 2) (hR : GoodR nv (rulesOf g)) (hg : GramAt w B g) (hB : B ≤ w.heap.size)
    (hF : ∀ v, OkW (F.getD v [])) (hD : ∀ v, OkW (Fo.getD v [])) (hFs : ∀ v, Sorted (F.getD v [])) (hDs : ∀ v, Sorted (Fo.getD v [])) (hleft : ∀ i (h : i < g.rules.length), 0 ≤ g.rules[i].left) {k : Nat} (hk : k < g.rules.length) : Calls Try.prog 37 #[GV g, SV K nv xb cx yb cy, .int .i64 (k : Nat)] w (RPost w.heap.size (lookL K g F Fo k) w) := by
  have HKK := Lib.hid hK
  have HFF := Lib.hid hF
  have HDD := Lib.hid hD
  have HFS := Lib.hid hFs
  have HDS := Lib.hid hDs
  have HAF := Lib.hid h
  have hki : (k : Int) < g.rules.length := by omega
  obtain ⟨rb, off, hra, hrb, r0, r1, r2, hri2, hrl2⟩ := hg.rules k hk
  have hl0 := hleft k hk
  obtain ⟨n, hn⟩ := Int.eq_ofNat_of_zero_le hl0
  have HRK := Lib.hid (rulesOf_at hk)
  have HLK := Lib.hid (lookL_at (K := K) (F := F) (Fo := Fo) hk)
  rw [hn] at HRK r0 HLK
  have HI := Lib.hid hri2
  have hyb := h'.lt
  have HFD := Lib.hid (fun i (hi : i < nv) => h'.at hi)
  clear h h' hg hF hD hFs hDs hK hri2 hl0
  generalize lookL K g F Fo k = LK at *
  generalize g.rules[k] = r at *
  obtain ⟨left, xa, xs, xc, wt⟩ := r
  dsimp only at *
  obtain ⟨hn1, hfo, hx8⟩ := hR _ (List.mem_of_getElem? HRK.out)
  dsimp only at hn1 hfo hx8
  have hnn : n < nv := by simpa using hn1
  have HFO := Lib.hid hfo
  obtain ⟨va, vc, hbc, hbs, _⟩ := HFD.out n hnn
  have hrw : rb < w.heap.size := by omega
  rw [show ((n : Int).toNat) = n from rfl, ← rahead_eq] at HLK
  unfold GV SV
  generalize hRA : g.ra = ra at *
  subst hra
  have HC := Lib.hid (fun W (hg : Grow w W) => rahead_any (xb := xb) (cx := cx) (yb := yb) (cy := cy) (fc := xc) (fa := xa) (f := xs) (HAF.out.go hg) HKK.out HFF.out HFS.out (ints_lst (HI.out.below (below_up hg hB)) (Nat.le_trans hB hg.size)) hx8 HFO.out (tc := vc) (hbs.go hg) (HDD.out n) (HDS.out n))
  clear hn1 hfo hbs
  generalize Fo.getD n [] = T at *
  unfold SV at HC
  go_enter Try.func37, Try.ntmps37
  go_wp2_with fail
  have hC := (two_at w (.cells #[.slice g.ta g.terms.length g.tc, .slice g.va g.vars.length g.vc, .slice (some ⟨rb, off, none⟩) g.rules.length g.rc] 25) (.cells #[.int .i64 K, .slice (some ⟨xb, 0, none⟩) nv cx, .slice (some ⟨yb, 0, none⟩) nv cy] 31))
  have HGR := Lib.hid (grow_two w (.cells #[.slice g.ta g.terms.length g.tc, .slice g.va g.vars.length g.vc, .slice (some ⟨rb, off, none⟩) g.rules.length g.rc] 25) (.cells #[.int .i64 K, .slice (some ⟨xb, 0, none⟩) nv cx, .slice (some ⟨yb, 0, none⟩) nv cy] 31))
  have c02 := hC.1
  have c13 := hC.2
  have q0 := (below_cell HGR.out hrw).trans r0
  have q1 := (below_cell HGR.out hrw).trans r1
  have q2 := (below_cell HGR.out hyb).trans hbc
  clear hC r0 r1 r2 hbc
  generalize hWW : ((w.alloc (.cells #[.slice g.ta g.terms.length g.tc, .slice g.va g.vars.length g.vc, .slice (some ⟨rb, off, none⟩) g.rules.length g.rc] 25)).alloc (.cells #[.int .i64 K, .slice (some ⟨xb, 0, none⟩) nv cx, .slice (some ⟨yb, 0, none⟩) nv cy] 31)) = W0 at *
  have hni : (n : Int) < nv := by omega
  have hsz : W0.drew.heap.size = w.heap.size + 2 := by rw [← hWW]; simp
  generalize hC : w.heap.size = C at *
  have hSd : W0.drew.cell? ⟨C, 2, none⟩ = some (.slice (some ⟨rb, off, none⟩) g.rules.length g.rc) ∧ W0.drew.cell? ⟨C + 1, 0, none⟩ = some (.int .i64 K) ∧ W0.drew.cell? ⟨C + 1, 1, none⟩ = some (.slice (some ⟨xb, 0, none⟩) nv cx) ∧ W0.drew.cell? ⟨C + 1, 2, none⟩ = some (.slice (some ⟨yb, 0, none⟩) nv cy) ∧ W0.drew.cell? ⟨rb, off + k * 3, none⟩ = some (.int .i64 (n : Int)) ∧ W0.drew.cell? ⟨rb, off + k * 3 + 1, none⟩ = some (.slice xa xs.length xc) ∧ W0.drew.cell? ⟨yb, n, none⟩ = some (.slice va T.length vc) := ⟨cell_of_block (off := 2) c02, cell_of_block (off := 0) c13, cell_of_block (off := 1) c13, cell_of_block (off := 2) c13, q0, q1, q2⟩
  go_region_held3 (fun w' => w'.cell? ⟨C, 2, none⟩ = some (.slice (some ⟨rb, off, none⟩) g.rules.length g.rc) ∧ w'.cell? ⟨C + 1, 0, none⟩ = some (.int .i64 K) ∧ w'.cell? ⟨C + 1, 1, none⟩ = some (.slice (some ⟨xb, 0, none⟩) nv cx) ∧ w'.cell? ⟨C + 1, 2, none⟩ = some (.slice (some ⟨yb, 0, none⟩) nv cy) ∧ w'.cell? ⟨rb, off + k * 3, none⟩ = some (.int .i64 (n : Int)) ∧ w'.cell? ⟨rb, off + k * 3 + 1, none⟩ = some (.slice xa xs.length xc) ∧ w'.cell? ⟨yb, n, none⟩ = some (.slice va T.length vc))
    (first | with_reducible exact hS1 | with_reducible exact hSd)
    (first
    | (go_at_call 30; refine (HC.out _ HGR.out).mono ?_; rintro e w3 ⟨v3, rfl, hm3, hg3⟩
       have hS1 : w3.cell? ⟨C, 2, none⟩ = some (.slice (some ⟨rb, off, none⟩) g.rules.length g.rc) ∧ w3.cell? ⟨C + 1, 0, none⟩ = some (.int .i64 K) ∧ w3.cell? ⟨C + 1, 1, none⟩ = some (.slice (some ⟨xb, 0, none⟩) nv cx) ∧ w3.cell? ⟨C + 1, 2, none⟩ = some (.slice (some ⟨yb, 0, none⟩) nv cy) ∧ w3.cell? ⟨rb, off + k * 3, none⟩ = some (.int .i64 (n : Int)) ∧ w3.cell? ⟨rb, off + k * 3 + 1, none⟩ = some (.slice xa xs.length xc) ∧ w3.cell? ⟨yb, n, none⟩ = some (.slice va T.length vc) := ⟨(below_cell hg3 (by simp only [hsz]; omega)).trans hSd.1, (below_cell hg3 (by simp only [hsz]; omega)).trans hSd.2.1, (below_cell hg3 (by simp only [hsz]; omega)).trans hSd.2.2.1, (below_cell hg3 (by simp only [hsz]; omega)).trans hSd.2.2.2.1, (below_cell hg3 (by simp only [hsz]; omega)).trans q0, (below_cell hg3 (by simp only [hsz]; omega)).trans q1, (below_cell hg3 (by simp only [hsz]; omega)).trans q2⟩
       have X3 := Lib.hid (And.intro hm3 (HGR.out.trans hg3))
       clear hm3 hg3))
  all_goals
    go_wp2_with fail
    go_ret
    exact ⟨v3, rfl, by rw [HLK.out]; exact X3.out.1.mono (by omega), X3.out.2⟩
end Go.Proofs.Ytmiiolgbjicocaa
namespace Go.Proofs.Ytmiiolgbjicocaa
open Go.RowKit
def none0 : Value := .slice none 0 0
/-- The two arrays as they grow. -/
structure BldS (sb : Nat) (K : Int) (k1 k2 : Nat) (x : Option Addr) (cx : Nat) (y : Option Addr) (cy : Nat) (xs ys : List Value) (w : World) : Prop where
  blk : w.heap[sb]? = some (.cells #[.int .i64 K, .slice x k1 cx, .slice y k2 cy] 31 (0, 0))
  rx : w.ownsRow sb 39 1 (.slice x k1 cx) k1 xs
  ry : w.ownsRow sb 39 1 (.slice y k2 cy) k2 ys
  ex : ∀ v ∈ xs ++ ys, Made 0 v [] w
  ap : ∀ b, (Value.slice x k1 cx).ownBlock = some b → (Value.slice y k2 cy).ownBlock ≠ some b
theorem BldS.go {sb : Nat} {K : Int} {k1 k2 : Nat} {x : Option Addr} {cx : Nat} {y : Option Addr} {cy : Nat} {xs ys : List Value} {w w' : World} (h : BldS sb K k1 k2 x cx y cy xs ys w) (k : Grow w w') : BldS sb K k1 k2 x cx y cy xs ys w' :=
  ⟨(k.block _ (lt_of_block h.blk)).trans h.blk, own_go h.rx k, own_go h.ry k, fun v hv => (h.ex v hv).go k, h.ap⟩
theorem made_empty {W : World} {b : Nat} (hb : W.heap[b]? = some (.cells #[] 26 (0, 0))) : Made 0 (.slice (some ⟨b, 0, none⟩) 0 0) [] W :=
  ⟨[], ⟨rfl, .inr ⟨b, 0, #[], rfl, Nat.zero_le _, hb, Nat.le_refl _, Nat.zero_le _, rfl, rfl⟩⟩, rfl, fun i h => by simp at h⟩
/-- What an append to a row of arrays leaves of a block. -/
theorem app_keep {W w3 : World} {sb : Nat} {v : Value} {n : Nat} {xs : List Value} (hr : W.ownsRow sb 39 1 v n xs) (hgr : W.grownBy w3 v.ownBlock) {i : Nat} {cs : Array Value} {t : TypeId} (hi : W.heap[i]? = some (.cells cs t (0, 0))) (ht : t ≠ 39) : w3.heap[i]? = W.heap[i]? :=
  hgr.block i (lt_of_block hi) (fun e => by
    obtain ⟨_, _, cs', h3⟩ := rowg_lt hr e.symm
    rw [hi] at h3
    injection h3 with h3
    injection h3 with _ h4
    exact ht h4)
theorem set_cell_typ {w : World} {sb off : Nat} {u : Value} {cs : Array Value} {t : TypeId} (hb : w.heap[sb]? = some (.cells cs t (0, 0))) {i : Nat} {cs' : Array Value} {t' : TypeId} (hi : w.heap[i]? = some (.cells cs' t' (0, 0))) (ht : t' ≠ t) : (w.setCell ⟨sb, off, none⟩ u).heap[i]? = w.heap[i]? :=
  Below.heap_setCell _ _ _ _ (fun e => by
    have e : i = sb := e
    rw [e, hb] at hi
    injection hi with hi
    injection hi with _ h4
    exact ht h4.symm)
section
variable {sb : Nat} {K : Int} {k1 k2 : Nat} {x : Option Addr} {cx : Nat} {y : Option Addr} {cy : Nat} {xs ys : List Value} {W w3 : World}
theorem BldS.mid (h : BldS sb K k1 k2 x cx y cy xs ys W) : ∃ e, e = Value.slice (some ⟨W.heap.size, 0, none⟩) 0 0 ∧ BldS sb K k1 k2 x cx y cy xs ys ((W.alloc (.cells #[] 26)).alloc (.cells #[e] 39)) ∧ Made 0 e [] ((W.alloc (.cells #[] 26)).alloc (.cells #[e] 39)) ∧ Grow W ((W.alloc (.cells #[] 26)).alloc (.cells #[e] 39)) :=
  ⟨_, rfl, h.go ((grow_one _ _).trans (grow_one _ _)), made_empty (two_at W (.cells #[] 26) (.cells #[.slice (some ⟨W.heap.size, 0, none⟩) 0 0] 39)).1, (grow_one _ _).trans (grow_one _ _)⟩
theorem BldS.app1 (h : BldS sb K k1 k2 x cx y cy xs ys W) {e : Value} (he : Made 0 e [] W) (hgr : W.grownBy w3 (Value.slice x k1 cx).ownBlock) {gx cap : Nat} (hrow : w3.ownsRow sb 39 1 (.slice (some ⟨gx, 0, none⟩) (k1 + 1) cap) (k1 + 1) (xs ++ [e])) (hat : (Value.slice x k1 cx).ownBlock = some gx ∨ gx = W.heap.size) :
    BldS sb K (k1 + 1) k2 (some ⟨gx, 0, none⟩) cap y cy (xs ++ [e]) ys (w3.setCell ⟨sb, 1, none⟩ (.slice (some ⟨gx, 0, none⟩) (k1 + 1) cap)) ∧ Below sb W (w3.setCell ⟨sb, 1, none⟩ (.slice (some ⟨gx, 0, none⟩) (k1 + 1) cap)) ∧ w3.heap[sb]? = some (.cells #[.int .i64 K, .slice x k1 cx, .slice y k2 cy] 31 (0, 0)) := by
  have hb3 : w3.heap[sb]? = some (.cells #[.int .i64 K, .slice x k1 cx, .slice y k2 cy] 31 (0, 0)) := (app_keep h.rx hgr h.blk (by decide)).trans h.blk
  have hne : ∀ {v : Value} {n : Nat} {zs : List Value}, w3.ownsRow sb 39 1 v n zs → ∀ b, v.ownBlock = some b → (w3.setCell ⟨sb, 1, none⟩ (.slice (some ⟨gx, 0, none⟩) (k1 + 1) cap)).heap[b]? = w3.heap[b]? := fun hr b hb => by
    obtain ⟨_, _, cs, h3⟩ := rowg_lt hr hb
    exact set_cell_typ hb3 h3 (by decide)
  have hy3 : w3.ownsRow sb 39 1 (.slice y k2 cy) k2 ys := rowg_keep h.ry (fun b hb => hgr.block b (rowg_lt h.ry hb).2.1 (fun e => h.ap b e.symm hb))
  have hmk : ∀ v, Made 0 v [] W → Made 0 v [] (w3.setCell ⟨sb, 1, none⟩ (.slice (some ⟨gx, 0, none⟩) (k1 + 1) cap)) := fun v hv => hv.typ (fun i cs t hi ht => by
    have h1 := app_keep h.rx hgr hi (by rcases ht with rfl | rfl <;> decide)
    exact (set_cell_typ hb3 (h1.trans hi) (by rcases ht with rfl | rfl <;> decide)).trans h1)
  refine ⟨⟨by have := heap_setCell_known (off := 1) (u := .slice (some ⟨gx, 0, none⟩) (k1 + 1) cap) hb3; simpa using this, rowg_keep hrow (hne hrow), rowg_keep hy3 (hne hy3), fun v hv => ?_, fun b hb hy => ?_⟩, ⟨hgr.os, hgr.tape, hgr.output, by have := hgr.size; simpa [World.setCell] using this, fun k hk => ?_⟩, hb3⟩
  · rcases List.mem_append.1 hv with h1 | h1
    · rcases List.mem_append.1 h1 with h1 | h1
      · exact hmk v (h.ex v (List.mem_append_left _ h1))
      · obtain rfl := List.mem_singleton.1 h1
        exact hmk _ he
    · exact hmk v (h.ex v (List.mem_append_right _ h1))
  · have e1 : gx = b := by simpa [Value.ownBlock] using hb
    subst e1
    rcases hat with h2 | h2
    · exact h.ap gx h2 hy
    · have := (rowg_lt h.ry hy).2.1; omega
  · have hkW : k < W.heap.size := by have := lt_of_block h.blk; omega
    rw [Below.heap_setCell _ _ _ _ (by show k ≠ sb; omega), hgr.block k hkW (fun e1 => by have := (rowg_lt h.rx e1.symm).1; omega)]
theorem BldS.app2 (h : BldS sb K k1 k2 x cx y cy xs ys W) {e : Value} (he : Made 0 e [] W) (hgr : W.grownBy w3 (Value.slice y k2 cy).ownBlock) {gx cap : Nat} (hrow : w3.ownsRow sb 39 1 (.slice (some ⟨gx, 0, none⟩) (k2 + 1) cap) (k2 + 1) (ys ++ [e])) (hat : (Value.slice y k2 cy).ownBlock = some gx ∨ gx = W.heap.size) :
    BldS sb K k1 (k2 + 1) x cx (some ⟨gx, 0, none⟩) cap xs (ys ++ [e]) (w3.setCell ⟨sb, 2, none⟩ (.slice (some ⟨gx, 0, none⟩) (k2 + 1) cap)) ∧ Below sb W (w3.setCell ⟨sb, 2, none⟩ (.slice (some ⟨gx, 0, none⟩) (k2 + 1) cap)) ∧ w3.heap[sb]? = some (.cells #[.int .i64 K, .slice x k1 cx, .slice y k2 cy] 31 (0, 0)) := by
  have hb3 : w3.heap[sb]? = some (.cells #[.int .i64 K, .slice x k1 cx, .slice y k2 cy] 31 (0, 0)) := (app_keep h.ry hgr h.blk (by decide)).trans h.blk
  have hne : ∀ {v : Value} {n : Nat} {zs : List Value}, w3.ownsRow sb 39 1 v n zs → ∀ b, v.ownBlock = some b → (w3.setCell ⟨sb, 2, none⟩ (.slice (some ⟨gx, 0, none⟩) (k2 + 1) cap)).heap[b]? = w3.heap[b]? := fun hr b hb => by
    obtain ⟨_, _, cs, h3⟩ := rowg_lt hr hb
    exact set_cell_typ hb3 h3 (by decide)
  have hx3 : w3.ownsRow sb 39 1 (.slice x k1 cx) k1 xs := rowg_keep h.rx (fun b hb => hgr.block b (rowg_lt h.rx hb).2.1 (fun e => h.ap b hb e.symm))
  have hmk : ∀ v, Made 0 v [] W → Made 0 v [] (w3.setCell ⟨sb, 2, none⟩ (.slice (some ⟨gx, 0, none⟩) (k2 + 1) cap)) := fun v hv => hv.typ (fun i cs t hi ht => by
    have h1 := app_keep h.ry hgr hi (by rcases ht with rfl | rfl <;> decide)
    exact (set_cell_typ hb3 (h1.trans hi) (by rcases ht with rfl | rfl <;> decide)).trans h1)
  refine ⟨⟨by have := heap_setCell_known (off := 2) (u := .slice (some ⟨gx, 0, none⟩) (k2 + 1) cap) hb3; simpa using this, rowg_keep hx3 (hne hx3), rowg_keep hrow (hne hrow), fun v hv => ?_, fun b hb hy => ?_⟩, ⟨hgr.os, hgr.tape, hgr.output, by have := hgr.size; simpa [World.setCell] using this, fun k hk => ?_⟩, hb3⟩
  · rw [← List.append_assoc] at hv
    rcases List.mem_append.1 hv with h1 | h1
    · exact hmk v (h.ex v h1)
    · obtain rfl := List.mem_singleton.1 h1
      exact hmk _ he
  · have e1 : gx = b := by simpa [Value.ownBlock] using hy
    subst e1
    rcases hat with h2 | h2
    · exact h.ap gx hb h2
    · have := (rowg_lt h.rx hb).2.1; omega
  · have hkW : k < W.heap.size := by have := lt_of_block h.blk; omega
    rw [Below.heap_setCell _ _ _ _ (by show k ≠ sb; omega), hgr.block k hkW (fun e1 => by have := (rowg_lt h.ry e1.symm).1; omega)]
end
/-- The sets while they are turned. -/
structure RefS (lo sb : Nat) (K : Int) (xb cx yb cy nv : Nat) (F Fo : List Wds) (w : World) : Prop where
  blk : w.heap[sb]? = some (.cells #[.int .i64 K, .slice (some ⟨xb, 0, none⟩) nv cx, .slice (some ⟨yb, 0, none⟩) nv cy] 31 (0, 0))
  a1 : ArrM xb nv F w
  a2 : ArrM yb nv Fo w
  ne : xb ≠ yb
  los : lo ≤ xb ∧ lo ≤ yb
theorem RefS.go {lo sb : Nat} {K : Int} {xb cx yb cy nv : Nat} {F Fo : List Wds} {w w' : World} (h : RefS lo sb K xb cx yb cy nv F Fo w) (k : Grow w w') : RefS lo sb K xb cx yb cy nv F Fo w' :=
  ⟨(k.block _ (lt_of_block h.blk)).trans h.blk, h.a1.go k, h.a2.go k, h.ne, h.los⟩
theorem arr_row {sb n c : Nat} {x : Option Addr} {xs : List Value} {W : World} (h : W.ownsRow sb 39 1 (.slice x n c) n xs) (hn : 0 < n) (he : ∀ v ∈ xs, Made 0 v [] W) : ∃ xb, x = some ⟨xb, 0, none⟩ ∧ sb ≤ xb ∧ (Value.slice x n c).ownBlock = some xb ∧ ArrM xb n (List.replicate n []) W := by
  rcases h.2 with ⟨_, h0⟩ | ⟨pb, cap, cs, h1, hlo, hh, hle, _, hs, htk⟩
  · omega
  · simp only [Value.slice.injEq] at h1
    obtain ⟨rfl, _, rfl⟩ := h1
    refine ⟨pb, rfl, hlo, rfl, by simp, cs, hh, fun i hi => ?_⟩
    have hl := h.1
    have hxi : xs[i]? = some (xs[i]'(by omega)) := List.getElem?_eq_getElem (by omega)
    refine ⟨xs[i]'(by omega), ?_, ?_⟩
    · have h2 : (cs.toList.take (n * 1))[i]? = xs[i]? := by rw [htk]
      rw [List.getElem?_take, if_pos (by omega), hxi] at h2
      simpa using h2
    · rw [getD_rep]
      exact he _ (List.getElem_mem _)
theorem BldS.done {sb : Nat} {K : Int} {nv : Nat} {x : Option Addr} {cx : Nat} {y : Option Addr} {cy : Nat} {xs ys : List Value} {w : World} (h : BldS sb K nv nv x cx y cy xs ys w) (hv : 0 < nv) : ∃ xb yb, x = some ⟨xb, 0, none⟩ ∧ y = some ⟨yb, 0, none⟩ ∧ RefS sb sb K xb cx yb cy nv (List.replicate nv []) (List.replicate nv []) w := by
  obtain ⟨xb, rfl, h1, h2, h3⟩ := arr_row h.rx hv (fun v hv => h.ex v (List.mem_append_left _ hv))
  obtain ⟨yb, rfl, k1, k2, k3⟩ := arr_row h.ry hv (fun v hv => h.ex v (List.mem_append_right _ hv))
  exact ⟨xb, yb, rfl, rfl, h.blk, h3, k3, fun e => h.ap xb h2 (by rw [k2, e]), h1, k1⟩
theorem arr_put {xb nv : Nat} {F : List Wds} {w : World} (h : ArrM xb nv F w) {v : Nat} (hv : v < nv) {val : Value} {L : Wds} (hm : Made 0 val L w) : ArrM xb nv (F.set v L) (w.setCell ⟨xb, v, none⟩ val) := by
  obtain ⟨h1, cs, h2, h3⟩ := h
  have hcs : v < cs.size := by
    obtain ⟨u, h4, _⟩ := h3 v hv
    rcases Nat.lt_or_ge v cs.size with h5 | h5
    · exact h5
    · rw [Array.getElem?_eq_none h5] at h4; cases h4
  refine ⟨by rw [List.length_set, h1], cs.setIfInBounds v val, heap_setCell_known h2, fun i hi => ?_⟩
  have hmk : ∀ {u M}, Made 0 u M w → Made 0 u M (w.setCell ⟨xb, v, none⟩ val) := fun hu => hu.typ (fun j cs' t hj ht => set_cell_typ h2 hj (by rcases ht with rfl | rfl <;> decide))
  rw [getD_set (by omega)]
  by_cases hiv : i = v
  · subst hiv
    rw [if_pos rfl]
    exact ⟨val, by simp [hcs], hmk hm⟩
  · rw [if_neg hiv]
    obtain ⟨u, h4, h5⟩ := h3 i hi
    exact ⟨u, by rw [Array.getElem?_setIfInBounds_ne (fun e => hiv e.symm)]; exact h4, hmk h5⟩
theorem arr_keep {xb yb nv : Nat} {F : List Wds} {w : World} (h : ArrM yb nv F w) {cs : Array Value} (hx : w.heap[xb]? = some (.cells cs 39 (0, 0))) (hne : xb ≠ yb) {v : Nat} {val : Value} : ArrM yb nv F (w.setCell ⟨xb, v, none⟩ val) := by
  obtain ⟨h1, cs', h2, h3⟩ := h
  refine ⟨h1, cs', (Below.heap_setCell _ _ _ _ (fun e => hne e.symm)).trans h2, fun i hi => ?_⟩
  obtain ⟨u, h4, h5⟩ := h3 i hi
  exact ⟨u, h4, h5.typ (fun j cs' t hj ht => set_cell_typ hx hj (by rcases ht with rfl | rfl <;> decide))⟩
theorem RefS.put1 {lo sb : Nat} {K : Int} {xb cx yb cy nv : Nat} {F Fo : List Wds} {w : World} (h : RefS lo sb K xb cx yb cy nv F Fo w) {v : Nat} (hv : v < nv) {val : Value} {L : Wds} (hm : Made 0 val L w) : RefS lo sb K xb cx yb cy nv (F.set v L) Fo (w.setCell ⟨xb, v, none⟩ val) := by
  obtain ⟨cs, h2, _⟩ := h.a1.ex
  exact ⟨(set_cell_typ h2 h.blk (by decide)).trans h.blk, arr_put h.a1 hv hm, arr_keep h.a2 h2 h.ne, h.ne, h.los⟩
theorem RefS.put2 {lo sb : Nat} {K : Int} {xb cx yb cy nv : Nat} {F Fo : List Wds} {w : World} (h : RefS lo sb K xb cx yb cy nv F Fo w) {v : Nat} (hv : v < nv) {val : Value} {L : Wds} (hm : Made 0 val L w) : RefS lo sb K xb cx yb cy nv F (Fo.set v L) (w.setCell ⟨yb, v, none⟩ val) := by
  obtain ⟨cs, h2, _⟩ := h.a2.ex
  exact ⟨(set_cell_typ h2 h.blk (by decide)).trans h.blk, arr_keep h.a1 h2 (fun e => h.ne e.symm), arr_put h.a2 hv hm, h.ne, h.los⟩
/-- What the sets are, in the rounds. -/
structure RSt (K : Int) (R : Rls) (nv : Nat) (F Fo : List Wds) : Prop where
  f : SysF K R nv F
  d : SysD K R nv Fo
  z : memF Fo 0 []
theorem shortK {K : Int} {R : Rls} {nv : Nat} {Fo : List Wds} (hK : 0 ≤ K) (h : SysD K R nv Fo) : ShortK K Fo := fun v w hw => by
  have hc : ∀ (u : List Int), ((u.length : Int) ≤ K) → cutL u K = u := fun u hu => by
    unfold cutL
    exact List.take_of_length_le (by omega)
  have hl : ∀ (u : List Int), ((cutL u K).length : Int) ≤ K := fun u => by
    unfold cutL
    rw [List.length_take]
    omega
  refine hc w (h.least (fun _ _ => True) (fun _ u => ((u.length : Int) ≤ K)) (fun r hr u hu => trivial) ⟨by simpa using hK, fun r hr i x hx h0 u hu => ?_⟩ v w hw)
  cases hf : r.2.drop (i + 1) with
  | nil => rw [hf, tailP] at hu; exact hu
  | cons s f =>
    rw [hf, tailP, aheadP_prod] at hu
    obtain ⟨p, t, _, _, rfl⟩ := hu
    exact hl _
/-- Sets that grew from F0, Fo0; and where they did not, P. -/
def Prog (F0 Fo0 F Fo : List Wds) (P : Prop) : Prop := wordsN F0 + wordsN Fo0 ≤ wordsN F + wordsN Fo ∧ (wordsN F + wordsN Fo = wordsN F0 + wordsN Fo0 → F = F0 ∧ Fo = Fo0 ∧ P)
theorem set_step {F : List Wds} {v : Nat} (hv : v < F.length) (B : Wds) : wordsN F ≤ wordsN (F.set v (takeL (F.getD v []) B)) ∧ (wordsN (F.set v (takeL (F.getD v []) B)) = wordsN F → F.set v (takeL (F.getD v []) B) = F ∧ ∀ w ∈ B, w ∈ F.getD v []) := by
  have h1 := wordsN_set (F := F) (v := v) (L := takeL (F.getD v []) B) hv
  have h2 := takeL_len (F.getD v []) B
  refine ⟨by omega, fun h => ?_⟩
  have h3 := takeL_same (A := F.getD v []) (B := B) (by omega)
  exact ⟨by rw [takeL_id h3, set_same hv], h3⟩
theorem Prog.step1 {F0 Fo0 F Fo : List Wds} {P : Prop} (h : Prog F0 Fo0 F Fo P) {v : Nat} (hv : v < F.length) {B : Wds} : Prog F0 Fo0 (F.set v (takeL (F.getD v []) B)) Fo (P ∧ F = F0 ∧ Fo = Fo0 ∧ ∀ w ∈ B, memF F0 v w) := by
  obtain ⟨h1, h2⟩ := set_step hv B
  refine ⟨by have := h.1; omega, fun he => ?_⟩
  have := h.1
  obtain ⟨rfl, rfl, hP⟩ := h.2 (by omega)
  obtain ⟨h3, h4⟩ := h2 (by omega)
  exact ⟨h3, rfl, hP, rfl, rfl, h4⟩
theorem Prog.step2 {F0 Fo0 F Fo : List Wds} {P : Prop} (h : Prog F0 Fo0 F Fo P) {v : Nat} (hv : v < Fo.length) {B : Wds} : Prog F0 Fo0 F (Fo.set v (takeL (Fo.getD v []) B)) (P ∧ F = F0 ∧ Fo = Fo0 ∧ ∀ w ∈ B, memF Fo0 v w) := by
  obtain ⟨h1, h2⟩ := set_step hv B
  refine ⟨by have := h.1; omega, fun he => ?_⟩
  have := h.1
  obtain ⟨rfl, rfl, hP⟩ := h.2 (by omega)
  obtain ⟨h3, h4⟩ := h2 (by omega)
  exact ⟨rfl, h3, hP, rfl, rfl, h4⟩
theorem Prog.imp {F0 Fo0 F Fo : List Wds} {P P' : Prop} (h : Prog F0 Fo0 F Fo P) (hp : F = F0 → Fo = Fo0 → P → P') : Prog F0 Fo0 F Fo P' :=
  ⟨h.1, fun he => by obtain ⟨h1, h2, h3⟩ := h.2 he; exact ⟨h1, h2, hp h1 h2 h3⟩⟩
theorem Prog.start (F0 Fo0 : List Wds) {P : Prop} (h : P) : Prog F0 Fo0 F0 Fo0 P := ⟨Nat.le_refl _, fun _ => ⟨rfl, rfl, h⟩⟩
theorem RSt.step1 {K : Int} {R : Rls} {nv : Nat} {F Fo : List Wds} (h : RSt K R nv F Fo) {r : Nat × List Int} (hr : r ∈ R) (hv : r.1 < nv) : RSt K R nv (F.set r.1 (takeL (F.getD r.1 []) (raheadL K F r.2 [[]]))) Fo := by
  rw [rahead_eq]
  exact ⟨h.f.step hr hv, h.d, h.z⟩
theorem RSt.step2 {K : Int} {R : Rls} {nv : Nat} {F Fo : List Wds} (hK : 0 ≤ K) (h : RSt K R nv F Fo) {r : Nat × List Int} (hr : r ∈ R) {i : Nat} {x : Nat} (hx : r.2[i]? = some (x : Int)) (hv : x < nv) : RSt K R nv F (Fo.set x (takeL (Fo.getD x []) (raheadL K F (r.2.drop (i + 1)) (Fo.getD r.1 [])))) := by
  refine ⟨h.f, h.d.step h.f hr hx (Int.natCast_nonneg x) hv (fun w hw => ?_), ?_⟩
  · exact (tail_ahead (fun t ht => shortK hK h.d r.1 t ht)).2 (mem_rahead.1 hw)
  · exact (memF_set (by rw [h.d.len]; exact hv)).2 (.inl h.z)
theorem RSt.start {K : Int} {R : Rls} {nv : Nat} (hv : 0 < nv) : RSt K R nv (List.replicate nv []) ((List.replicate nv []).set 0 [[]]) := by
  have e : takeL ((List.replicate nv ([] : Wds)).getD 0 []) [[]] = [[]] := by rw [getD_rep]; rfl
  have := SysD.first (sysD_nil K R nv) hv
  rw [e] at this
  exact ⟨sysF_nil _ _ _, this, by unfold memF; rw [getD_set (by simpa using hv), if_pos rfl]; simp⟩
theorem RSt.words {K : Int} {R : Rls} {nv : Nat} {F Fo : List Wds} (h : RSt K R nv F Fo) (hK : K ≤ 2) (hR : GoodR nv R) (hv : nv ≤ 8) : wordsN F + wordsN Fo ≤ 700 := by
  have key : ∀ {G : List Wds}, G.length = nv → (∀ v, OkW (G.getD v [])) → (∀ v, Sorted (G.getD v [])) → wordsN G ≤ 43 * nv := fun {G} h1 h2 h3 => by
    have := wordsN_le (F := G) (fun v => okW_few (h3 v) (h2 v)) nv (by omega)
    rwa [List.take_of_length_le (by omega)] at this
  have h1 := key h.f.len (sysF_ok hK hR h.f) h.f.sorted
  have h2 := key h.d.len (sysD_ok hK hR h.d) h.d.sorted
  omega
end Go.Proofs.Ytmiiolgbjicocaa
