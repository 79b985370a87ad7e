/- A definition is read. -/
import Derived.Test.YticdihfjnmjkmaaRd3
import Derived.Deep.RegionHeld3
import Derived.Deep.RegionLaw
namespace Go.Proofs.Yticdihfjnmjkmaa
open Go.RowKit
def DefPost (rb : Nat) (o : Out) (w : World) (e : Ending) (w' : World) : Prop :=
  match o with
  | .err er ps => FailPost rb er ps w e w'
  | .ok ns r => ∃ (at' : Nat) (tx : ByteArray) (a : Option Addr) (c : Nat) (ms : List MN), e = .returned (.agg #[.int .i64 at', .string tx, .slice a ms.length c]) ∧ [.node [.int .i64 at', .string tx] [] (ms.map MN.pn)] = ns ∧ RowOf w' w.heap.size 66 3 68 5 (.slice a ms.length c) ms ∧ RD w' rb r 0 ∧ Kept (· = rb) w w'
attribute [local go_sem] run_store_float
theorem Ps.alts_ok_ends {d : Nat} {l : List Tok} {ns : List PN} {r : List Tok} (h : Ps .alts d l (.ok ns r)) (he : Ends l) : Ends r ∧ r.length ≤ l.length := by
  obtain ⟨a, b, _⟩ := h.res he _ _ rfl
  exact ⟨a, b⟩
theorem kcell {S : Nat → Prop} {w w' : World} (h : Kept S w w') {b o : Nat} {v : Value} (hb : b < w.heap.size) (hs : ¬ S b) (hc : w.cell? ⟨b, o, none⟩ = some v) : w'.cell? ⟨b, o, none⟩ = some v := (World.cell?_of_block (h.block b hb hs)).trans hc
set_option maxRecDepth 100000 in
theorem def_bad {w : World} {rb : Nat} {t : Tok} {r : List Tok} (h : RD w rb (t :: r) 0) (hk : t.kind ≠ 1) :
    Calls Try.prog 38 #[.pointer (some ⟨rb, 0, none⟩)] w (DefPost rb (.err 5 t.pos) w) := by
  have HN := fun o => Lib.hid (now_rd (h.alloc o))
  have HR := fun o => Lib.hid (h.alloc o)
  have hlt := h.lt
  clear h
  unfold tokC at HN
  obtain ⟨kd, ps, tx, wt⟩ := t
  simp only at hk
  have hk1 : (kd != 1) = true := by simpa using hk
  clear hk
  generalize bOf tx = T at *
  go_enter Try.func38, Try.ntmps38
  go_wp2_with fail
  refine (HN _).out.mono ?_
  rintro e w1 ⟨rfl, hb⟩
  have HR1 := Lib.hid ((HR _).out.below hb)
  have HK1 := Lib.hid (((Kept.refl (· = rb) w).alloc (.cells #[.int .i64 0, .string ⟨#[]⟩, .slice none 0 0] 50)).trans (kept_of_below hb))
  clear hb
  go_wp2_with fail
  refine (fail_rd (HR1.out.alloc _) 5).mono ?_
  rintro e w2 ⟨rfl, hk2⟩
  have HK2 := Lib.hid ((HK1.out.alloc _).trans hk2)
  clear hk2
  go_wp2_with fail
  exact ⟨rfl, rfl, HK2.out⟩
/-- Behind the name. -/
inductive DefOut (t u : Tok) (r : List Tok) : Out → Prop
  | noeq : sgnB u [61] = false → DefOut t u r (.err 5 u.pos)
  | err {e p} : sgnB u [61] = true → Ps .alts 0 r (.err e p) → DefOut t u r (.err e p)
  | nosemi {ks x r2} : sgnB u [61] = true → Ps .alts 0 r (.ok ks (x :: r2)) → sgnB x [59] = false → DefOut t u r (.err 5 x.pos)
  | ok {ks x r2} : sgnB u [61] = true → Ps .alts 0 r (.ok ks (x :: r2)) → sgnB x [59] = true → DefOut t u r (.ok [defN t ks] r2)
theorem DefOut.rest {t u : Tok} {r : List Tok} {o : Out} (h : DefOut t u r o) (hu : sgnB u [61] = true) : (∃ e p, Ps .alts 0 r (.err e p) ∧ o = .err e p) ∨ ∃ ks x r2, Ps .alts 0 r (.ok ks (x :: r2)) ∧ ((sgnB x [59] = false ∧ o = .err 5 x.pos) ∨ (sgnB x [59] = true ∧ o = .ok [defN t ks] r2)) := by
  cases h with
  | noeq h => rw [h] at hu; cases hu
  | err _ h => exact .inl ⟨_, _, h, rfl⟩
  | nosemi _ h hx => exact .inr ⟨_, _, _, h, .inl ⟨hx, rfl⟩⟩
  | ok _ h hx => exact .inr ⟨_, _, _, h, .inr ⟨hx, rfl⟩⟩
theorem DefOut.not {t u : Tok} {r : List Tok} {o : Out} (h : DefOut t u r o) (hu : sgnB u [61] = false) : o = .err 5 u.pos := by
  cases h with
  | noeq h => rfl
  | err h => rw [h] at hu; cases hu
  | nosemi h => rw [h] at hu; cases hu
  | ok h => rw [h] at hu; cases hu
set_option maxRecDepth 100000 in
set_option maxHeartbeats 4000000 in
theorem def_good {w : World} {rb : Nat} {t u : Tok} {r : List Tok} (h : RD w rb (t :: u :: r) 0) (hk : t.kind = 1) (he0 : sgnB u [61] = true → Ends r) {o : Out} (ho : DefOut t u r o) :
    Calls Try.prog 38 #[.pointer (some ⟨rb, 0, none⟩)] w (DefPost rb o w) := by
  have HN := fun o => Lib.hid (now_rd (h.alloc o))
  have HR := fun o => Lib.hid (h.alloc o)
  have hlt := h.lt
  clear h
  unfold tokC at HN
  obtain ⟨kd, ps, tx, wt⟩ := t
  simp only at hk
  subst hk
  generalize hTT : bOf tx = T at *
  have HTT := Lib.hid hTT
  clear hTT
  go_enter Try.func38, Try.ntmps38
  go_wp2_with fail
  refine (HN _).out.mono ?_
  rintro e w1 ⟨rfl, hb⟩
  have hR1 := (HR _).out.below hb
  have HK1 := Lib.hid (((Kept.refl (· = rb) w).alloc (.cells #[.int .i64 0, .string ⟨#[]⟩, .slice none 0 0] 50)).trans (kept_of_below hb))
  have hw1 := hb.size
  simp only [World.size_alloc] at hw1
  have hwl : w.heap.size < w1.heap.size := (by omega)
  have hwn : w.heap.size ≠ w1.heap.size := (by omega)
  have g0 := hb.block w.heap.size (by simp only [World.size_alloc]; omega)
  rw [heap_alloc_this] at g0
  have G0 := Lib.hid g0
  obtain ⟨p, hp1, c1, hP⟩ := hR1.turn
  have f1 := hR1.free 1
  have hlt1 : rb < w1.heap.size := hR1.lt
  have k1 : Kept (· = rb) w1 (w1.setCell ⟨rb, 1, none⟩ (.int .i64 (p + 1))) := Kept.setCell (S := (· = rb)) (Kept.refl _ _) (.inl rfl) _
  have HG0 := Lib.hid (heap_alloc_keep (o := .cells #[.int .i64 1, .int .i64 ps, .string T, .float .f64 wt] 36) (k1.get g0 (by omega)))
  have hT := heap_alloc_this (w1.setCell ⟨rb, 1, none⟩ (.int .i64 (p + 1))) (.cells #[.int .i64 1, .int .i64 ps, .string T, .float .f64 wt] 36)
  rw [World.size_setCell] at hT
  have HT := Lib.hid hT
  have HK2 := Lib.hid ((HK1.out.trans k1).alloc (.cells #[.int .i64 1, .int .i64 ps, .string T, .float .f64 wt] 36))
  have hR2 := (hP _ _ (Kept.refl (fun _ => False) _) (fun _ h => h.elim)).alloc (.cells #[.int .i64 1, .int .i64 ps, .string T, .float .f64 wt] 36)
  have HW := Lib.hid (want_rd hR2 [61])
  unfold WantP at HW
  clear hb g0 hP hR1 HR HN k1 hT hR2
  go_wp2_with fail
  cases hu : sgnB u [61]
  · rw [hu] at HW
    simp only [Bool.false_eq_true, if_false] at HW
    have HO := Lib.hid (ho.not hu)
    clear hu ho he0
    refine HW.out.mono ?_
    rintro e w2 ⟨rfl, hk2⟩
    have HK3 := Lib.hid (HK2.out.trans hk2)
    clear hk2
    go_wp2_with fail
    rw [HO.out]
    exact ⟨rfl, rfl, HK3.out⟩
  · rw [hu] at HW
    simp only [if_true] at HW
    have hrest := ho.rest hu
    have he := he0 hu
    clear hu ho he0
    refine HW.out.mono ?_
    rintro e w2 ⟨rfl, hr2, hk2⟩
    have HK3 := Lib.hid (HK2.out.trans hk2)
    have hs2 := hk2.size
    rw [World.size_alloc, World.size_setCell] at hs2
    have gt := hk2.get HT.out (by omega)
    have GT := Lib.hid gt
    have G2 := Lib.hid (hk2.get HG0.out (by omega))
    have q1 := cell_of_block (off := 1) gt
    have q2 := cell_of_block (off := 2) gt
    simp only [List.getElem?_toArray, List.getElem?_cons_succ, List.getElem?_cons_zero] at q1 q2
    clear hk2 gt
    rcases hrest with ⟨er, ep, ha, hoe⟩ | ⟨ks, x, r2, ha, hx⟩
    · have HA := fun W hR => Lib.hid (alts_any (w := W) (rb := rb) (by decide : 0 ≤ 16) ha he hR)
      have HO := Lib.hid hoe
      have HR2 := Lib.hid hr2
      clear ha hoe hr2
      have hl12 : w1.heap.size < w2.heap.size := by omega
      have hn12 : w1.heap.size ≠ w2.heap.size := by omega
      go_wp2_with fail
      refine wp_region_any (by kernel_rfl) ?_
      change wpAny _ _ _ _ _ _ _ (World.drew _)
      refine wpAny_take (i := 0) (v := ?_) rfl (by kernel_rfl) (by kernel_rfl) (by kernel_rfl) (fun _ _ _ h => h) (Or.inl ⟨by rfl, ?_⟩) ?_
      rotate_left
      · intro w
        go_simp
        try with_reducible rfl
      refine wpAny_take (i := 2) (v := ?_) rfl (by kernel_rfl) (by kernel_rfl) (by kernel_rfl) (fun _ _ _ h => h) (Or.inl ⟨by rfl, ?_⟩) ?_
      rotate_left
      · intro w
        go_simp
        try with_reducible rfl
      refine wpAny_take (i := 4) (v := ?_) rfl (by kernel_rfl) (by kernel_rfl) (by kernel_rfl) (fun _ _ _ h => h) (Or.inl ⟨by rfl, ?_⟩) ?_
      rotate_left
      · intro w
        go_simp
        try with_reducible rfl
      refine wpAny_ready (rs := [1, 3, 5, 7]) (by kernel_rfl) (by simp) ?_
      refine AllReady.cons rfl (fun K hK => ?_) ?_
      · go_simp
        refine hK _ _ ?_
        clear hK K
        refine wpAny_ready (rs := [3, 5, 7]) (by kernel_rfl) (by simp) ?_
        refine AllReady.cons rfl (fun K hK => ?_) ?_
        · go_simp
          refine hK _ _ ?_
          clear hK K
          refine wpAny_ready (rs := [5, 7]) (by kernel_rfl) (by simp) ?_
          refine AllReady.cons rfl (fun K hK => ?_) ?_
          · go_simp
            go_at_call 57
            refine (HA _ (by first | exact HR2.out.drew | exact (HR2.out.alloc _).drew)).out.mono ?_
            rintro e w3 ⟨rfl, hk3⟩
            go_wp2_with fail
            rw [HO.out]
            exact ⟨rfl, rfl, Kept.trans (by first | exact HK3.out.drew | exact (HK3.out.alloc _).drew) hk3⟩
          refine AllReady.cons rfl (fun K hK => ?_) ?_
          · go_simp
            refine hK _ _ ?_
            clear hK K
            refine wpAny_ready (rs := [5]) (by kernel_rfl) (by simp) ?_
            refine AllReady.cons rfl (fun K hK => ?_) ?_
            · go_simp
              go_at_call 57
              refine (HA _ (by first | exact HR2.out.drew | exact (HR2.out.alloc _).drew)).out.mono ?_
              rintro e w3 ⟨rfl, hk3⟩
              go_wp2_with fail
              rw [HO.out]
              exact ⟨rfl, rfl, Kept.trans (by first | exact HK3.out.drew | exact (HK3.out.alloc _).drew) hk3⟩
            exact AllReady.nil
          exact AllReady.nil
        refine AllReady.cons rfl (fun K hK => ?_) ?_
        · go_simp
          go_at_call 57
          refine (HA _ (by first | exact HR2.out.drew | exact (HR2.out.alloc _).drew)).out.mono ?_
          rintro e w3 ⟨rfl, hk3⟩
          go_wp2_with fail
          rw [HO.out]
          exact ⟨rfl, rfl, Kept.trans (by first | exact HK3.out.drew | exact (HK3.out.alloc _).drew) hk3⟩
        refine AllReady.cons rfl (fun K hK => ?_) ?_
        · go_simp
          refine hK _ _ ?_
          clear hK K
          refine wpAny_ready (rs := [3, 5]) (by kernel_rfl) (by simp) ?_
          refine AllReady.cons rfl (fun K hK => ?_) ?_
          · go_simp
            refine hK _ _ ?_
            clear hK K
            refine wpAny_ready (rs := [5]) (by kernel_rfl) (by simp) ?_
            refine AllReady.cons rfl (fun K hK => ?_) ?_
            · go_simp
              go_at_call 57
              refine (HA _ (by first | exact HR2.out.drew | exact (HR2.out.alloc _).drew)).out.mono ?_
              rintro e w3 ⟨rfl, hk3⟩
              go_wp2_with fail
              rw [HO.out]
              exact ⟨rfl, rfl, Kept.trans (by first | exact HK3.out.drew | exact (HK3.out.alloc _).drew) hk3⟩
            exact AllReady.nil
          refine AllReady.cons rfl (fun K hK => ?_) ?_
          · go_simp
            go_at_call 57
            refine (HA _ (by first | exact HR2.out.drew | exact (HR2.out.alloc _).drew)).out.mono ?_
            rintro e w3 ⟨rfl, hk3⟩
            go_wp2_with fail
            rw [HO.out]
            exact ⟨rfl, rfl, Kept.trans (by first | exact HK3.out.drew | exact (HK3.out.alloc _).drew) hk3⟩
          exact AllReady.nil
        exact AllReady.nil
      refine AllReady.cons rfl (fun K hK => ?_) ?_
      · go_simp
        refine hK _ _ ?_
        clear hK K
        refine wpAny_ready (rs := [1, 5, 7]) (by kernel_rfl) (by simp) ?_
        refine AllReady.cons rfl (fun K hK => ?_) ?_
        · go_simp
          refine hK _ _ ?_
          clear hK K
          refine wpAny_ready (rs := [5, 7]) (by kernel_rfl) (by simp) ?_
          refine AllReady.cons rfl (fun K hK => ?_) ?_
          · go_simp
            go_at_call 57
            refine (HA _ (by first | exact HR2.out.drew | exact (HR2.out.alloc _).drew)).out.mono ?_
            rintro e w3 ⟨rfl, hk3⟩
            go_wp2_with fail
            rw [HO.out]
            exact ⟨rfl, rfl, Kept.trans (by first | exact HK3.out.drew | exact (HK3.out.alloc _).drew) hk3⟩
          refine AllReady.cons rfl (fun K hK => ?_) ?_
          · go_simp
            refine hK _ _ ?_
            clear hK K
            refine wpAny_ready (rs := [5]) (by kernel_rfl) (by simp) ?_
            refine AllReady.cons rfl (fun K hK => ?_) ?_
            · go_simp
              go_at_call 57
              refine (HA _ (by first | exact HR2.out.drew | exact (HR2.out.alloc _).drew)).out.mono ?_
              rintro e w3 ⟨rfl, hk3⟩
              go_wp2_with fail
              rw [HO.out]
              exact ⟨rfl, rfl, Kept.trans (by first | exact HK3.out.drew | exact (HK3.out.alloc _).drew) hk3⟩
            exact AllReady.nil
          exact AllReady.nil
        refine AllReady.cons rfl (fun K hK => ?_) ?_
        · go_simp
          go_at_call 57
          refine (HA _ (by first | exact HR2.out.drew | exact (HR2.out.alloc _).drew)).out.mono ?_
          rintro e w3 ⟨rfl, hk3⟩
          go_wp2_with fail
          rw [HO.out]
          exact ⟨rfl, rfl, Kept.trans (by first | exact HK3.out.drew | exact (HK3.out.alloc _).drew) hk3⟩
        refine AllReady.cons rfl (fun K hK => ?_) ?_
        · go_simp
          refine hK _ _ ?_
          clear hK K
          refine wpAny_ready (rs := [1, 5]) (by kernel_rfl) (by simp) ?_
          refine AllReady.cons rfl (fun K hK => ?_) ?_
          · go_simp
            refine hK _ _ ?_
            clear hK K
            refine wpAny_ready (rs := [5]) (by kernel_rfl) (by simp) ?_
            refine AllReady.cons rfl (fun K hK => ?_) ?_
            · go_simp
              go_at_call 57
              refine (HA _ (by first | exact HR2.out.drew | exact (HR2.out.alloc _).drew)).out.mono ?_
              rintro e w3 ⟨rfl, hk3⟩
              go_wp2_with fail
              rw [HO.out]
              exact ⟨rfl, rfl, Kept.trans (by first | exact HK3.out.drew | exact (HK3.out.alloc _).drew) hk3⟩
            exact AllReady.nil
          refine AllReady.cons rfl (fun K hK => ?_) ?_
          · go_simp
            go_at_call 57
            refine (HA _ (by first | exact HR2.out.drew | exact (HR2.out.alloc _).drew)).out.mono ?_
            rintro e w3 ⟨rfl, hk3⟩
            go_wp2_with fail
            rw [HO.out]
            exact ⟨rfl, rfl, Kept.trans (by first | exact HK3.out.drew | exact (HK3.out.alloc _).drew) hk3⟩
          exact AllReady.nil
        exact AllReady.nil
      refine AllReady.cons rfl (fun K hK => ?_) ?_
      · go_simp
        go_at_call 57
        refine (HA _ (by first | exact HR2.out.drew | exact (HR2.out.alloc _).drew)).out.mono ?_
        rintro e w3 ⟨rfl, hk3⟩
        go_wp2_with fail
        rw [HO.out]
        exact ⟨rfl, rfl, Kept.trans (by first | exact HK3.out.drew | exact (HK3.out.alloc _).drew) hk3⟩
      refine AllReady.cons rfl (fun K hK => ?_) ?_
      · go_simp
        refine hK _ _ ?_
        clear hK K
        refine wpAny_ready (rs := [1, 3, 5]) (by kernel_rfl) (by simp) ?_
        refine AllReady.cons rfl (fun K hK => ?_) ?_
        · go_simp
          refine hK _ _ ?_
          clear hK K
          refine wpAny_ready (rs := [3, 5]) (by kernel_rfl) (by simp) ?_
          refine AllReady.cons rfl (fun K hK => ?_) ?_
          · go_simp
            refine hK _ _ ?_
            clear hK K
            refine wpAny_ready (rs := [5]) (by kernel_rfl) (by simp) ?_
            refine AllReady.cons rfl (fun K hK => ?_) ?_
            · go_simp
              go_at_call 57
              refine (HA _ (by first | exact HR2.out.drew | exact (HR2.out.alloc _).drew)).out.mono ?_
              rintro e w3 ⟨rfl, hk3⟩
              go_wp2_with fail
              rw [HO.out]
              exact ⟨rfl, rfl, Kept.trans (by first | exact HK3.out.drew | exact (HK3.out.alloc _).drew) hk3⟩
            exact AllReady.nil
          refine AllReady.cons rfl (fun K hK => ?_) ?_
          · go_simp
            go_at_call 57
            refine (HA _ (by first | exact HR2.out.drew | exact (HR2.out.alloc _).drew)).out.mono ?_
            rintro e w3 ⟨rfl, hk3⟩
            go_wp2_with fail
            rw [HO.out]
            exact ⟨rfl, rfl, Kept.trans (by first | exact HK3.out.drew | exact (HK3.out.alloc _).drew) hk3⟩
          exact AllReady.nil
        refine AllReady.cons rfl (fun K hK => ?_) ?_
        · go_simp
          refine hK _ _ ?_
          clear hK K
          refine wpAny_ready (rs := [1, 5]) (by kernel_rfl) (by simp) ?_
          refine AllReady.cons rfl (fun K hK => ?_) ?_
          · go_simp
            refine hK _ _ ?_
            clear hK K
            refine wpAny_ready (rs := [5]) (by kernel_rfl) (by simp) ?_
            refine AllReady.cons rfl (fun K hK => ?_) ?_
            · go_simp
              go_at_call 57
              refine (HA _ (by first | exact HR2.out.drew | exact (HR2.out.alloc _).drew)).out.mono ?_
              rintro e w3 ⟨rfl, hk3⟩
              go_wp2_with fail
              rw [HO.out]
              exact ⟨rfl, rfl, Kept.trans (by first | exact HK3.out.drew | exact (HK3.out.alloc _).drew) hk3⟩
            exact AllReady.nil
          refine AllReady.cons rfl (fun K hK => ?_) ?_
          · go_simp
            go_at_call 57
            refine (HA _ (by first | exact HR2.out.drew | exact (HR2.out.alloc _).drew)).out.mono ?_
            rintro e w3 ⟨rfl, hk3⟩
            go_wp2_with fail
            rw [HO.out]
            exact ⟨rfl, rfl, Kept.trans (by first | exact HK3.out.drew | exact (HK3.out.alloc _).drew) hk3⟩
          exact AllReady.nil
        refine AllReady.cons rfl (fun K hK => ?_) ?_
        · go_simp
          go_at_call 57
          refine (HA _ (by first | exact HR2.out.drew | exact (HR2.out.alloc _).drew)).out.mono ?_
          rintro e w3 ⟨rfl, hk3⟩
          go_wp2_with fail
          rw [HO.out]
          exact ⟨rfl, rfl, Kept.trans (by first | exact HK3.out.drew | exact (HK3.out.alloc _).drew) hk3⟩
        exact AllReady.nil
      exact AllReady.nil
    · have HA := fun W hR => Lib.hid (alts_any (w := W) (rb := rb) (by decide : 0 ≤ 16) ha he hR)
      have HR2 := Lib.hid hr2
      have HX := Lib.hid hx
      have hl12 : w1.heap.size < w2.heap.size := by omega
      have hn12 : w1.heap.size ≠ w2.heap.size := by omega
      have GTD : Hid (w2.drew.heap[w1.heap.size]? = some (.cells #[.int .i64 1, .int .i64 ps, .string T, .float .f64 wt] 36 (0, 0))) := GT.out
      have GTE : Hid ((w2.alloc (.cells #[.int .i64 0, .string ⟨#[]⟩, .slice none 0 0] 50)).drew.heap[w1.heap.size]? = some (.cells #[.int .i64 1, .int .i64 ps, .string T, .float .f64 wt] 36 (0, 0))) := heap_alloc_keep GT.out
      have qd : w2.drew.cell? ⟨w1.heap.size, 1, none⟩ = some (.int .i64 ps) ∧ w2.drew.cell? ⟨w1.heap.size, 2, none⟩ = some (.string T) := ⟨q1, q2⟩
      have qe : (w2.alloc (.cells #[.int .i64 0, .string ⟨#[]⟩, .slice none 0 0] 50)).drew.cell? ⟨w1.heap.size, 1, none⟩ = some (.int .i64 ps) ∧ (w2.alloc (.cells #[.int .i64 0, .string ⟨#[]⟩, .slice none 0 0] 50)).drew.cell? ⟨w1.heap.size, 2, none⟩ = some (.string T) := ⟨cell_alloc_keep hl12 q1, cell_alloc_keep hl12 q2⟩
      clear ha hx hr2
      go_wp2_with fail
      go_region_held3 (fun w' => w'.cell? ⟨w1.heap.size, 1, none⟩ = some (.int .i64 ps) ∧ w'.cell? ⟨w1.heap.size, 2, none⟩ = some (.string T)) (first | with_reducible exact hS1 | with_reducible exact ⟨kcell (stores3 _ _ _ _ _) hl13 hn12 hS1.1, kcell (stores3 _ _ _ _ _) hl13 hn12 hS1.2⟩ | with_reducible exact ⟨cell_alloc_keep hl13 hS1.1, cell_alloc_keep hl13 hS1.2⟩ | exact qd | exact qe)
        ((go_at_call 57; refine (HA _ (by first | with_reducible exact HR2.out.drew | with_reducible exact (HR2.out.alloc _).drew)).out.mono ?_; rintro e w3 ⟨a, c, ms, rfl, hns, hrow, hr3, hk3⟩
          have hs3 : w2.heap.size ≤ w3.heap.size := Nat.le_trans (by simp) hk3.size
          have hl13 : w1.heap.size < w3.heap.size := by omega
          have gt3 : w3.heap[w1.heap.size]? = some (.cells #[.int .i64 1, .int .i64 ps, .string T, .float .f64 wt] 36 (0, 0)) := (by first | with_reducible exact hk3.get GTD.out (by omega) | with_reducible exact hk3.get GTE.out (by omega))
          have hS1 : w3.cell? ⟨w1.heap.size, 1, none⟩ = some (.int .i64 ps) ∧ w3.cell? ⟨w1.heap.size, 2, none⟩ = some (.string T) := ⟨cell_of_block (off := 1) gt3, cell_of_block (off := 2) gt3⟩
          try (have gz : w3.heap[w2.heap.size]? = some (.cells #[.int .i64 0, .string ⟨#[]⟩, .slice none 0 0] 50 (0, 0)) := hk3.get (heap_alloc_this _ _) (by omega); have GZ := Lib.hid gz; obtain ⟨z0, z1, z2⟩ := blk3 gz; obtain ⟨y0, y1, y2, _, _⟩ := blk5f gz; clear gz)
          have HK4 := Lib.hid hk3; have HR4 := Lib.hid hr3; have HROW := Lib.hid hrow; have HNS := Lib.hid hns; clear hk3 hr3 hrow hns gt3))
      · have kA : Kept (· = rb) w w3 := HK3.out.drew.trans HK4.out
        have kW : Kept (fun k => False) w3 (w3.alloc (.cells #[.int .i64 ps, .string T, .slice a ms.length c] 50)) := (Kept.refl _ _).alloc _
        have hn23 : w.heap.size ≠ w3.heap.size := by omega
        have hl3r : rb < w3.heap.size := by omega
        have hbW : (w3.alloc (.cells #[.int .i64 ps, .string T, .slice a ms.length c] 50)).heap[w3.heap.size]? = some (.cells #[.int .i64 ps, .string T, .slice a ms.length c] 50 (0, 0)) := by
          exact heap_alloc_this _ _
        have h2W := kW.get (HK4.out.get (w := w2.drew) G2.out (by omega)) (fun h => h.elim)
        have hrW : RD (w3.alloc (.cells #[.int .i64 ps, .string T, .slice a ms.length c] 50)) rb (x :: r2) 0 := HR4.out.kept kW (fun k hk => hk.elim)
        have hRow : RowOf (w3.alloc (.cells #[.int .i64 ps, .string T, .slice a ms.length c] 50)) w2.heap.size 66 3 68 5 (.slice a ms.length c) ms := HROW.out.go kW (fun k hk => hk.elim)
        have hsW : w3.heap.size ≤ (w3.alloc (.cells #[.int .i64 ps, .string T, .slice a ms.length c] 50)).heap.size := kW.size
        have hKW : Kept (· = rb) w (w3.alloc (.cells #[.int .i64 ps, .string T, .slice a ms.length c] 50)) := kA.then kW (fun _ _ h => h) (fun i hi h => by exact h.elim)
        have HW2 := Lib.hid (want_rd hrW [59])
        unfold WantP at HW2
        have HBW := Lib.hid hbW
        have H2W := Lib.hid h2W
        have HROWW := Lib.hid hRow
        have HKW := Lib.hid hKW
        clear kA kW hbW h2W hrW hRow hKW hS1 qd qe
        rcases HX.out with ⟨hx, hoe⟩ | ⟨hx, hoe⟩
        · rw [hx] at HW2
          simp only [Bool.false_eq_true, if_false] at HW2
          have HO := Lib.hid hoe
          clear hx hoe
          go_wp2_with fail
          refine HW2.out.mono ?_
          rintro e w5 ⟨rfl, hk5⟩
          have HK5 := Lib.hid (HKW.out.trans hk5)
          clear hk5
          go_wp2_with fail
          rw [HO.out]
          exact ⟨rfl, rfl, HK5.out⟩
        · rw [hx] at HW2
          simp only [if_true] at HW2
          have HO := Lib.hid hoe
          clear hx hoe
          go_wp2_with fail
          refine HW2.out.mono ?_
          rintro e w5 ⟨rfl, hr5, hk5⟩
          have hs5 := hk5.size
          have hl5 : w.heap.size < w5.heap.size := by omega
          have b5 := hk5.get HBW.out (by omega)
          obtain ⟨d0, d1, d2⟩ := blk3 b5
          have b6 := hk5.get H2W.out (by omega)
          obtain ⟨x0, x1, x2⟩ := blk3 b6
          obtain ⟨v0, v1, v2, _, _⟩ := blk5f b6
          have HR5 := Lib.hid hr5
          have HK5 := Lib.hid hk5
          clear b5 b6 hr5 hk5 hs5
          go_wp2_with fail
          refine bodyPost_ret (v := .agg #[.int .i64 ps, .string T, .slice a ms.length c]) (by simp [results, Try.results38, go_sem, *]) rfl ?_
          rw [HO.out]
          unfold defN
          simp only [HTT.out]
          refine ⟨ps, T, a, c, ms, rfl, by rw [HNS.out], ?_, HR5.out.kept (stores3 _ w.heap.size _ _ _) (fun k hk => by omega), (HKW.out.trans HK5.out).then (stores3 _ w.heap.size _ _ _) (fun _ _ h => h) (fun i hi h => by omega)⟩
          exact ((HROWW.out.go HK5.out (fun k hk => by omega)).go (stores3 _ w.heap.size _ _ _) (fun k hk => by omega)).low (by omega)
      · have kA : Kept (· = rb) w w3 := (HK3.out.alloc _).drew.trans HK4.out
        have kW : Kept (fun k => k = w2.heap.size) w3 (((w3.setCell ⟨w2.heap.size, 0, none⟩ (.int .i64 ps)).setCell ⟨w2.heap.size, 1, none⟩ (.string T)).setCell ⟨w2.heap.size, 2, none⟩ (.slice a ms.length c)) := stores3 _ _ _ _ _
        have hn23 : w.heap.size ≠ w2.heap.size := by omega
        have hl3r : rb < w3.heap.size := by omega
        have hbW : (((w3.setCell ⟨w2.heap.size, 0, none⟩ (.int .i64 ps)).setCell ⟨w2.heap.size, 1, none⟩ (.string T)).setCell ⟨w2.heap.size, 2, none⟩ (.slice a ms.length c)).heap[w2.heap.size]? = some (.cells #[.int .i64 ps, .string T, .slice a ms.length c] 50 (0, 0)) := by
          have e1 := heap_setCell_known (off := 0) (u := .int .i64 ps) GZ.out; have e2 := heap_setCell_known (off := 1) (u := .string T) e1; have e3 := heap_setCell_known (off := 2) (u := .slice a ms.length c) e2; simpa using e3
        have h2W := kW.get (HK4.out.get (w := (w2.alloc _).drew) (heap_alloc_keep G2.out) (by omega)) (by omega)
        have hrW : RD (((w3.setCell ⟨w2.heap.size, 0, none⟩ (.int .i64 ps)).setCell ⟨w2.heap.size, 1, none⟩ (.string T)).setCell ⟨w2.heap.size, 2, none⟩ (.slice a ms.length c)) rb (x :: r2) 0 := HR4.out.kept kW (fun k hk => by omega)
        have hRow : RowOf (((w3.setCell ⟨w2.heap.size, 0, none⟩ (.int .i64 ps)).setCell ⟨w2.heap.size, 1, none⟩ (.string T)).setCell ⟨w2.heap.size, 2, none⟩ (.slice a ms.length c)) w2.heap.size 66 3 68 5 (.slice a ms.length c) ms := (HROW.out.go kW (fun k hk => by subst hk; show w2.heap.size < (w2.alloc _).heap.size; simp)).low (by show w2.heap.size ≤ (w2.alloc _).heap.size; simp only [World.size_alloc]; omega)
        have hsW : w3.heap.size ≤ (((w3.setCell ⟨w2.heap.size, 0, none⟩ (.int .i64 ps)).setCell ⟨w2.heap.size, 1, none⟩ (.string T)).setCell ⟨w2.heap.size, 2, none⟩ (.slice a ms.length c)).heap.size := kW.size
        have hKW : Kept (· = rb) w (((w3.setCell ⟨w2.heap.size, 0, none⟩ (.int .i64 ps)).setCell ⟨w2.heap.size, 1, none⟩ (.string T)).setCell ⟨w2.heap.size, 2, none⟩ (.slice a ms.length c)) := kA.then kW (fun _ _ h => h) (fun i hi h => by omega)
        have HW2 := Lib.hid (want_rd hrW [59])
        unfold WantP at HW2
        have HBW := Lib.hid hbW
        have H2W := Lib.hid h2W
        have HROWW := Lib.hid hRow
        have HKW := Lib.hid hKW
        clear kA kW hbW h2W hrW hRow hKW hS1 qd qe
        rcases HX.out with ⟨hx, hoe⟩ | ⟨hx, hoe⟩
        · rw [hx] at HW2
          simp only [Bool.false_eq_true, if_false] at HW2
          have HO := Lib.hid hoe
          clear hx hoe
          go_wp2_with fail
          refine HW2.out.mono ?_
          rintro e w5 ⟨rfl, hk5⟩
          have HK5 := Lib.hid (HKW.out.trans hk5)
          clear hk5
          go_wp2_with fail
          rw [HO.out]
          exact ⟨rfl, rfl, HK5.out⟩
        · rw [hx] at HW2
          simp only [if_true] at HW2
          have HO := Lib.hid hoe
          clear hx hoe
          go_wp2_with fail
          refine HW2.out.mono ?_
          rintro e w5 ⟨rfl, hr5, hk5⟩
          have hs5 := hk5.size
          have hl5 : w.heap.size < w5.heap.size := by omega
          have b5 := hk5.get HBW.out (by omega)
          obtain ⟨d0, d1, d2⟩ := blk3 b5
          have b6 := hk5.get H2W.out (by omega)
          obtain ⟨x0, x1, x2⟩ := blk3 b6
          obtain ⟨v0, v1, v2, _, _⟩ := blk5f b6
          have HR5 := Lib.hid hr5
          have HK5 := Lib.hid hk5
          clear b5 b6 hr5 hk5 hs5
          go_wp2_with fail
          refine bodyPost_ret (v := .agg #[.int .i64 ps, .string T, .slice a ms.length c]) (by simp [results, Try.results38, go_sem, *]) rfl ?_
          rw [HO.out]
          unfold defN
          simp only [HTT.out]
          refine ⟨ps, T, a, c, ms, rfl, by rw [HNS.out], ?_, HR5.out.kept (stores3 _ w.heap.size _ _ _) (fun k hk => by omega), (HKW.out.trans HK5.out).then (stores3 _ w.heap.size _ _ _) (fun _ _ h => h) (fun i hi h => by omega)⟩
          exact ((HROWW.out.go HK5.out (fun k hk => by omega)).go (stores3 _ w.heap.size _ _ _) (fun k hk => by omega)).low (by omega)
theorem def_any {w : World} {rb : Nat} {l : List Tok} {o : Out} (hp : Pd l o) (he : Ends l) (h : RD w rb l 0) : Calls Try.prog 38 #[.pointer (some ⟨rb, 0, none⟩)] w (DefPost rb o w) := by
  have ht : ∀ {t u : Tok} {r : List Tok}, Ends (t :: u :: r) → t.kind = 1 → sgnB u [61] = true → Ends r := fun he hk hu => (he.tail (by omega)).tail (by rw [sgn_kind hu]; decide)
  cases hp with
  | bad hk => exact def_bad h hk
  | noeq hk hu => exact def_good h hk (ht he hk) (.noeq hu)
  | alts_err hk hu ha => exact def_good h hk (ht he hk) (.err hu ha)
  | nosemi hk hu ha hx => exact def_good h hk (ht he hk) (.nosemi hu ha hx)
  | ok hk hu ha hx => exact def_good h hk (ht he hk) (.ok hu ha hx)
end Go.Proofs.Yticdihfjnmjkmaa
