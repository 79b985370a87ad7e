/- The reference's functions as the laws call them; what the table tells, against what the reference says. -/
import Derived.Test.YtmiiolgbjicocaaRefC
import Derived.Test.YtmiiolgbjicocaaRefO
import Derived.Test.YtmiiolgbjicocaaTFrame
namespace Go.Proofs.Ytmiiolgbjicocaa
open Go.RowKit
section
variable {w wr : World} {g : GramD} {K n : Int} {F Fo F' Fo' : List Wds} {T : List (List TRow)} {tb sb xb cx yb cy : Nat}
theorem rof_bx (h : Box w g wr) (hg : GoodW g) (hK : 1 ≤ K ∧ K ≤ 2) (hn : 0 ≤ n ∧ n ≤ 1000000) : Calls Try.prog 9 #[.agg #[.slice g.ta g.terms.length g.tc, .slice g.va g.vars.length g.vc, .slice g.ra g.rules.length g.rc], .int .i64 K, .int .i64 n] wr (RefPost K n g wr) :=
  rof_any h.gram' (Nat.le_refl _) hK hn hg.nv hg.good hg.nr hg.left
/-- Sets of the reference that stand. -/
def RSets (K n : Int) (g : GramD) (xb yb : Nat) (F Fo : List Wds) (wr : World) : Prop :=
  ArrM xb g.vars.length F wr ∧ ArrM yb g.vars.length Fo wr ∧ RSt K (rulesOf g) g.vars.length F Fo ∧ ClosedF K (rulesOf g) (memF F) ∧ ClosedD K (rulesOf g) (memF F) (memF Fo) ∧ ((wordsN F + wordsN Fo : Nat) : Int) ≤ n
theorem RSets.go {wr w' : World} (h : RSets K n g xb yb F Fo wr) (k : Grow wr w') : RSets K n g xb yb F Fo w' := ⟨h.1.go k, h.2.1.go k, h.2.2⟩
theorem RSets.not (h : RSets K n g xb yb F Fo wr) : ¬ Over K (rulesOf g) g.vars.length n := over_not h.2.2.1.f.len h.2.2.1.d.len h.2.2.2.1 h.2.2.2.2.1 h.2.2.2.2.2
theorem goodSets_not (h : GoodSets K n g sb F Fo wr) : ¬ Over K (rulesOf g) g.vars.length n := by
  obtain ⟨-, h1, h2, h3, h4, h5⟩ := h
  exact over_not h1.len h2.len h3 h4 h5
theorem sets_same (h : RSets K n g xb yb F Fo wr) {wr2 : World} (h2 : GoodSets K n g sb F' Fo' wr2) : F' = F ∧ Fo' = Fo := by
  obtain ⟨-, k1, k2, k3, k4, -⟩ := h2
  exact sys_unique k1 k2 k3 k4 h.2.2.1.f h.2.2.1.d h.2.2.2.1 h.2.2.2.2.1
theorem refX_of (h : Box w g wr) (hg : GoodW g) (hK : 1 ≤ K ∧ K ≤ 2) (hs : RSets K n g xb yb F Fo wr) : RefX wr wr.heap.size K g g.vars.length xb cx yb cy F Fo :=
  ⟨hs.1, hs.2.1, hK, hg.good, h.gram', Nat.le_refl _, sysF_ok hK.2 hg.good hs.2.2.1.f, sysD_ok hK.2 hg.good hs.2.2.1.d, hs.2.2.1.f.sorted, hs.2.2.1.d.sorted, fun i hi => (hg.left i hi).1, hg.nr⟩
theorem rclash_bx (h : Box w g wr) (hg : GoodW g) (hK : 1 ≤ K ∧ K ≤ 2) (hs : RSets K n g xb yb F Fo wr) : Calls Try.prog 20 #[.agg #[.slice g.ta g.terms.length g.tc, .slice g.va g.vars.length g.vc, .slice g.ra g.rules.length g.rc], .agg #[.int .i64 K, .slice (some ⟨xb, 0, none⟩) g.vars.length cx, .slice (some ⟨yb, 0, none⟩) g.vars.length cy]] wr (ClashRPost (clR K g F Fo g.rules.length) wr) :=
  rclash_any (refX_of h hg hK hs)
theorem rlooks_bx (h : Box w g wr) (hg : GoodW g) (hK : 1 ≤ K ∧ K ≤ 2) (hs : RSets K n g xb yb F Fo wr) {v : Nat} : Calls Try.prog 12 #[.agg #[.slice g.ta g.terms.length g.tc, .slice g.va g.vars.length g.vc, .slice g.ra g.rules.length g.rc], .agg #[.int .i64 K, .slice (some ⟨xb, 0, none⟩) g.vars.length cx, .slice (some ⟨yb, 0, none⟩) g.vars.length cy], .int .i64 (v : Nat)] wr (RPost wr.heap.size (looksR K g F Fo v g.rules.length) wr) :=
  rlooks_any (refX_of h hg hK hs)
theorem rrules_bx (h : Box w g wr) (hg : GoodW g) (hK : 1 ≤ K ∧ K ≤ 2) (hs : RSets K n g xb yb F Fo wr) {v : Nat} {ua : Option Addr} {uc : Nat} {u : List Int} (hu : Lst wr ua u) (hul : u.length ≤ 10000) : Calls Try.prog 14 #[.agg #[.slice g.ta g.terms.length g.tc, .slice g.va g.vars.length g.vc, .slice g.ra g.rules.length g.rc], .agg #[.int .i64 K, .slice (some ⟨xb, 0, none⟩) g.vars.length cx, .slice (some ⟨yb, 0, none⟩) g.vars.length cy], .int .i64 (v : Nat), .slice ua u.length uc] wr (WPost (rulesK K g F Fo v g.rules.length u) wr) :=
  rrules_any (refX_of h hg hK hs) hu hul
end
end Go.Proofs.Ytmiiolgbjicocaa
namespace Go.Proofs.Ytmiiolgbjicocaa
theorem sorted_pw {L : Wds} : Sorted L ↔ L.Pairwise (fun a b => lessL a b = true) := by
  rw [List.pairwise_iff_getElem]
  constructor
  · intro h i j hi hj hij
    exact h i j _ _ hij (List.getElem?_eq_getElem hi) (List.getElem?_eq_getElem hj)
  · intro h i j a b hij hi hj
    obtain ⟨h1, rfl⟩ := List.getElem?_eq_some_iff.1 hi
    obtain ⟨h2, rfl⟩ := List.getElem?_eq_some_iff.1 hj
    exact h i j h1 h2 hij
theorem sorted_flt {L : Wds} (h : Sorted L) (p : List Int → Bool) : Sorted (L.filter p) := sorted_pw.2 ((sorted_pw.1 h).filter p)
theorem find_cg {α : Type} {p q : α → Bool} : ∀ {l : List α}, (∀ a ∈ l, p a = q a) → l.find? p = l.find? q
  | [], _ => rfl
  | a :: l, h => by
    rw [List.find?_cons, List.find?_cons, h a (by simp), find_cg (fun b hb => h b (by simp [hb]))]
theorem flatMap_cg {α β : Type} {f g : α → List β} : ∀ {l : List α}, (∀ a ∈ l, f a = g a) → l.flatMap f = l.flatMap g
  | [], _ => rfl
  | a :: l, h => by
    rw [List.flatMap_cons, List.flatMap_cons, h a (by simp), flatMap_cg (fun b hb => h b (by simp [hb]))]
theorem filterMap_cg {α β : Type} {f g : α → Option β} : ∀ {l : List α}, (∀ a ∈ l, f a = g a) → l.filterMap f = l.filterMap g
  | [], _ => rfl
  | a :: l, h => by
    rw [List.filterMap_cons, List.filterMap_cons, h a (by simp), filterMap_cg (fun b hb => h b (by simp [hb]))]
theorem mem_meetL {A B : Wds} {w : List Int} : w ∈ meetL A B ↔ w ∈ A ∧ w ∈ B := by
  unfold meetL meetP
  rw [mem_ofL, List.mem_filter, decide_eq_true_iff]
section
variable {K : Int} {g : GramD} {F Fo : List Wds} {v : Nat} {x : List TRow}
theorem rows_looks (hs : ∀ k, Sorted (lookL K g F Fo k)) (h : RowsOf (addsOf K g F Fo g.rules.length) v x) : x.map Prod.fst = looksR K g F Fo v g.rules.length := by
  refine sorted_unique h.srt looksR_sorted (fun w => ?_)
  rw [mem_looksR]
  constructor
  · intro hw
    obtain ⟨⟨l, rs⟩, hm, rfl⟩ := List.mem_map.1 hw
    obtain ⟨rfl, hne⟩ := (rows_mem hs h).1 hm
    obtain ⟨k, hk⟩ := List.exists_mem_of_ne_nil _ hne
    unfold rulesK at hk
    obtain ⟨k', hk', -⟩ := List.mem_map.1 hk
    rw [List.mem_filter, List.mem_range, decide_eq_true_iff] at hk'
    exact ⟨k', hk'⟩
  · rintro ⟨k, hk, h1, h2⟩
    have hm : (k : Int) ∈ rulesK K g F Fo v g.rules.length w := mem_rulesK.2 ⟨hk, h1, h2⟩
    exact List.mem_map.2 ⟨(w, rulesK K g F Fo v g.rules.length w), (rows_mem hs h).2 ⟨rfl, fun e => by rw [e] at hm; cases hm⟩, rfl⟩
theorem rows_snd (hs : ∀ k, Sorted (lookL K g F Fo k)) (h : RowsOf (addsOf K g F Fo g.rules.length) v x) {i : Nat} (hi : i < x.length) : x[i].2 = rulesK K g F Fo v g.rules.length x[i].1 ∧ x[i].2 ≠ [] := by
  obtain ⟨h1, h2⟩ := (rows_mem (look := x[i].1) (rs := x[i].2) hs h).1 (List.getElem_mem hi)
  exact ⟨h1, h2⟩
theorem both_head (hs : ∀ k, Sorted (lookL K g F Fo k)) (h : RowsOf (addsOf K g F Fo g.rules.length) v x) {a b : Nat} (hab : a < b) (hb : b < g.rules.length) (ha1 : leftN g a = v) (hb1 : leftN g b = v) : bothT x a b = (meetL (lookL K g F Fo a) (lookL K g F Fo b)).head? := by
  have hM : (looksR K g F Fo v g.rules.length).filter (fun l => decide (l ∈ lookL K g F Fo a ∧ l ∈ lookL K g F Fo b)) = meetL (lookL K g F Fo a) (lookL K g F Fo b) := by
    refine sorted_unique (sorted_flt looksR_sorted _) (ofL_sorted _) (fun w => ?_)
    rw [mem_meetL, List.mem_filter, decide_eq_true_iff]
    exact ⟨fun h => h.2, fun h => ⟨mem_looksR.2 ⟨a, by omega, ha1, h.1⟩, h⟩⟩
  rw [← hM, List.head?_filter, ← rows_looks hs h, List.find?_map]
  unfold bothT
  congr 1
  refine find_cg (fun r hr => ?_)
  obtain ⟨h1, h2⟩ := (rows_mem (look := r.1) (rs := r.2) hs h).1 hr
  have hab2 : (a : Int) ≠ (b : Int) := by omega
  have h3 := cntB_two hab2 (rulesK_nodup K g F Fo v g.rules.length r.1)
  rw [mem_rulesK, mem_rulesK] at h3
  rw [h1]
  show (cntB a b _ == 2) = decide _
  rw [Bool.eq_iff_iff, beq_iff_eq, h3, decide_eq_true_iff]
  exact ⟨fun h => ⟨h.1.2.2, h.2.2.2⟩, fun h => ⟨⟨by omega, ha1, h.1⟩, hb, hb1, h.2⟩⟩
/-- Only one rule for each lookahead: what the law counts. -/
theorem one_clear (hs : ∀ k, Sorted (lookL K g F Fo k)) (h : RowsOf (addsOf K g F Fo g.rules.length) v x) : clearT x = x.all (fun r => decide (r.2.length = 1)) := by
  unfold clearT
  rw [Bool.eq_iff_iff, List.all_eq_true, List.all_eq_true]
  constructor
  · intro h1 r hr
    have h2 := h1 r hr
    have h3 := ((rows_mem (look := r.1) (rs := r.2) hs h).1 hr).2
    have h4 := List.length_pos_iff.2 h3
    simp at h2 ⊢
    omega
  · intro h1 r hr
    have h2 := h1 r hr
    simp at h2 ⊢
    omega
end
section
variable {K : Int} {g : GramD} {F Fo : List Wds} {T : List (List TRow)} {nv : Nat}
theorem clash_clear (hs : ∀ k, Sorted (lookL K g F Fo k)) (h : TOf (addsOf K g F Fo g.rules.length) T) (hl : T.length = nv) (hleft : ∀ i (h : i < g.rules.length), 0 ≤ g.rules[i].left) : (clV g.rules T nv = []) ↔ ∀ v < nv, clearT (T.getD v []) = true := by
  have hT : ∀ v, v < nv → RowsOf (addsOf K g F Fo g.rules.length) v (T.getD v []) := fun v hv => h v _ (by rw [List.getD_eq_getElem?_getD, List.getElem?_eq_getElem (by omega)]; rfl)
  have hlf : ∀ a (ha : a < g.rules.length) (v : Nat), leftN g a = v ↔ g.rules[a].left = v := fun a ha v => by
    have := hleft a ha
    rw [leftN_at ha]
    omega
  constructor
  · intro h0 v hv
    by_cases hc : clearT (T.getD v []) = true
    · exact hc
    · exfalso
      rw [clear_iff hs (hT v hv)] at hc
      have hex : ∃ look, ∃ a b : Nat, (a < g.rules.length ∧ leftN g a = v ∧ look ∈ lookL K g F Fo a) ∧ (b < g.rules.length ∧ leftN g b = v ∧ look ∈ lookL K g F Fo b) ∧ a ≠ b := by
        apply Classical.byContradiction
        intro hn
        exact hc (fun look a b h1 h2 => Classical.byContradiction (fun hne => hn ⟨look, a, b, h1, h2, hne⟩))
      obtain ⟨look, a, b, h1, h2, hne⟩ := hex
      have key : ∀ a b : Nat, a < b → (a < g.rules.length ∧ leftN g a = v ∧ look ∈ lookL K g F Fo a) → (b < g.rules.length ∧ leftN g b = v ∧ look ∈ lookL K g F Fo b) → False := fun a b hab h1 h2 => by
        obtain ⟨l, hl⟩ := (both_some hs (hT v hv) (by omega : a ≠ b)).2 ⟨look, h1, h2⟩
        have hc := cnt3_V (rs := g.rules) (T := T) (u := v) (p := a) (q := b) (n := nv)
        rw [h0, if_pos ⟨hv, h1.1, h2.1, by rw [clOf_at h1.1 h2.1, if_pos ⟨(hlf a h1.1 v).1 h1.2.1, (hlf b h2.1 v).1 h2.2.1, hab⟩, hl]; rfl⟩] at hc
        simp [cnt3] at hc
      rcases Nat.lt_or_gt_of_ne hne with hab | hab
      · exact key a b hab h1 h2
      · exact key b a hab h2 h1
  · intro h0
    refine List.eq_nil_iff_forall_not_mem.2 (fun c hc => ?_)
    obtain ⟨hv, hcl⟩ := clV_mem hc
    obtain ⟨_, _, _, ha, hb, e1, e2, hab, hbo⟩ := clOf_form hcl
    obtain ⟨look, h1, h2⟩ := (both_some hs (hT _ hv) (by omega : c.2.1 ≠ c.2.2.1)).1 ⟨_, hbo⟩
    have := (clear_iff hs (hT _ hv)).1 (h0 _ hv) look _ _ h1 h2
    omega
theorem flat_by {α : Type} (f : Nat → Nat) (hh : Nat → List α) (nv : Nat) : ∀ n, (∀ a < n, f a < nv) → (∀ a b, a ≤ b → b < n → f a ≤ f b) → (List.range nv).flatMap (fun v => (List.range n).flatMap (fun a => if f a = v then hh a else [])) = (List.range n).flatMap hh
  | 0, _, _ => by simp
  | n + 1, h1, h2 => by
    have hm := h1 n (by omega)
    have ih := flat_by f hh (f n + 1) n (fun a ha => by have := h2 a n (by omega) (by omega); omega) (fun a b hab hb => h2 a b hab (by omega))
    have hbig : ∀ m, f n < m → m ≤ nv → (List.range m).flatMap (fun v => (List.range (n + 1)).flatMap (fun a => if f a = v then hh a else [])) = (List.range (f n + 1)).flatMap (fun v => (List.range (n + 1)).flatMap (fun a => if f a = v then hh a else [])) := fun m hm1 hm2 =>
      flatMap_more (by omega) (fun i hi1 hi2 => by
        rw [flatMap_more (n := 0) (Nat.zero_le _) (fun a _ ha => by rw [if_neg (by have := h2 a n (by omega) (by omega); omega)])]
        rfl)
    rw [hbig nv hm (Nat.le_refl _), List.range_succ (n := n), List.flatMap_append, List.flatMap_singleton, ← ih, List.range_succ (n := f n), List.flatMap_append, List.flatMap_append, List.flatMap_singleton, List.flatMap_singleton, List.flatMap_append, List.flatMap_singleton, if_pos rfl, List.append_assoc]
    congr 1
    have : ∀ L : List Nat, (∀ v ∈ L, v < f n) → L.flatMap (fun v => (List.range n ++ [n]).flatMap (fun a => if f a = v then hh a else [])) = L.flatMap (fun v => (List.range n).flatMap (fun a => if f a = v then hh a else [])) := fun L hL => by
      induction L with
      | nil => rfl
      | cons v L ihL =>
        rw [List.flatMap_cons, List.flatMap_cons, ihL (fun v hv => hL v (by simp [hv])), List.flatMap_append, List.flatMap_singleton, if_neg (by have := hL v (by simp); omega), List.append_nil]
    exact this _ (fun v hv => by simpa using hv)
/-- The clashes are the same, in the same order. -/
theorem clash_same (hs : ∀ k, Sorted (lookL K g F Fo k)) (h : TOf (addsOf K g F Fo g.rules.length) T) (hl : T.length = nv) (hleft : ∀ i (h : i < g.rules.length), 0 ≤ g.rules[i].left ∧ leftN g i < nv) (hup : LeftsUp g.rules) : clV g.rules T nv = clR K g F Fo g.rules.length := by
  have hlf : ∀ a (ha : a < g.rules.length) (v : Nat), g.rules[a].left = v ↔ leftN g a = v := fun a ha v => by
    have := (hleft a ha).1
    rw [leftN_at ha]
    omega
  have e1 : clR K g F Fo g.rules.length = (List.range nv).flatMap (fun v => (List.range g.rules.length).flatMap (fun a => if leftN g a = v then clRB K g F Fo a g.rules.length else [])) := by
    rw [flat_by (leftN g) (fun a => clRB K g F Fo a g.rules.length) nv _ (fun a ha => (hleft a ha).2) (fun a b hab hb => by
      have h1 := hup a b (by omega) hb hab
      rw [leftN_at hb, leftN_at (by omega : a < g.rules.length)]
      omega)]
    rfl
  rw [e1]
  unfold clV
  have key : ∀ v < nv, clA g.rules (T.getD v []) v g.rules.length = (List.range g.rules.length).flatMap (fun a => if leftN g a = v then clRB K g F Fo a g.rules.length else []) := fun v hv => by
    have hT : RowsOf (addsOf K g F Fo g.rules.length) v (T.getD v []) := h v _ (by rw [List.getD_eq_getElem?_getD, List.getElem?_eq_getElem (by omega)]; rfl)
    unfold clA
    refine flatMap_cg (fun a ha => ?_)
    have ha : a < g.rules.length := by simpa using ha
    unfold clB
    by_cases hav : leftN g a = v
    · rw [if_pos hav]
      unfold clRB
      refine filterMap_cg (fun b hb => ?_)
      have hb : b < g.rules.length := by simpa using hb
      rw [clOf_at ha hb]
      unfold clRof
      by_cases hab : a < b
      · by_cases hbv : leftN g b = v
        · rw [if_pos ⟨(hlf a ha v).2 hav, (hlf b hb v).2 hbv, hab⟩, if_pos ⟨hab, by rw [hav, hbv]⟩, both_head hs hT hab hb hav hbv, hav]
        · rw [if_neg (fun h => hbv ((hlf b hb v).1 h.2.1)), if_neg (fun h => hbv (by rw [← h.2, hav]))]
      · rw [if_neg (fun h => hab h.2.2), if_neg (fun h => hab h.1)]
    · rw [if_neg hav]
      rw [filterMap_more (n := 0) (Nat.zero_le _) (fun b _ hb => by rw [clOf_at ha hb, if_neg (fun h => hav ((hlf a ha v).1 h.1))])]
      rfl
  exact flatMap_cg (fun v hv => key v (by simpa using hv))
end
end Go.Proofs.Ytmiiolgbjicocaa
