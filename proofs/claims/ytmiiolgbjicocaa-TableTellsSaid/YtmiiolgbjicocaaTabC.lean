/- A table in memory: rows moved by copy, a row written. -/
import Derived.Test.YtmiiolgbjicocaaTabM
import Derived.Laws.CopyRow
import Derived.Lib.SliceRun
import Derived.Shelf.Spec.SlicesInsert
namespace Go.Proofs.Ytmiiolgbjicocaa
open Go.RowKit
set_option maxRecDepth 10000 in
theorem slice41 (W : World) (a : Option Addr) (len cap c : Nat) (h : c ≤ len) :
    (Instr.slice 41 (.slice a len cap) (some (.int .i64 (c : Int))) none none).run Try.prog W = .ok (.slice (if cap = c then a else a.map (fun x => x.add (c * 2))) (len - c) (cap - c)) W := by
  have hz : (Go.sizeOf 44).run Try.prog W = .ok 2 W := rfl
  have he : Try.prog.elem 41 = 44 := by simp [Program.elem, Try.underlying41]
  rw [run_slice_l W 41 _ _ _ (by simp [Program.elem, Try.underlying41]) .i64 _ (by omega) (by omega), he, hz]
  simp [Result.andThen, sliced]
section
variable {P : Program}
theorem run_copy_rowN (w : World) (dT sT ty elem : TypeId) (g o dLen dCap : Nat) (a : Addr) (sLen sCap : Nat) (cur : Array Value) (t : TypeId) (cs : List Value) (size : Nat)
    (hu : P.underlying dT = some (.slice elem)) (hs : (P.info? elem).map (·.size) = some size)
    (hg : w.heap[g]? = some (.cells cur t (0, 0))) (hn : cs.length = Nat.min sLen dLen * size)
    (hsrc : ∀ j v, cs[j]? = some v → w.cell? (a.add j) = some v) (hfit : o + cs.length ≤ cur.size) (h1 : ∀ v ∈ cs, v.oneCell' = true) :
    (Builtin.copy_ #[dT, sT] ty #[.slice (some ⟨g, o, none⟩) dLen dCap, .slice (some a) sLen sCap]).run P w =
      .ok (goInt (Nat.min sLen dLen)) (w.setRow g (cur.toList.take o ++ cs ++ cur.toList.drop (o + cs.length)).toArray) := by
  have hl := run_loadCells_list (P := P) w a cs hsrc
  have hst := run_storeCells_at P g o t cs 0 cur w hg (by simpa using hfit) h1
  cases hq : P.info? elem with
  | none => simp [hq] at hs
  | some i =>
    have hi : i.size = size := by simpa [hq] using hs
    simp [Builtin.copy_, run_underlying hu, Builtin.lenOf, Builtin.firstCells, sizeOf, typeInfo, hq, hi, ← hn, hl, hst]
theorem run_copy_noneN (w : World) (dT sT ty elem : TypeId) (d a : Option Addr) (dLen dCap sLen sCap : Nat) (hu : P.underlying dT = some (.slice elem)) (hs : ((P.info? elem).map (·.size)).isSome = true) (hn : Nat.min sLen dLen = 0) :
    (Builtin.copy_ #[dT, sT] ty #[.slice d dLen dCap, .slice a sLen sCap]).run P w = .ok (goInt 0) w := by
  cases hq : P.info? elem with
  | none => simp [hq] at hs
  | some i =>
    have hl : ∀ (x : Addr), (loadCells x 0).run P w = .ok #[] w := fun x => by simpa using run_loadCells_list (P := P) w x [] (by simp)
    cases d <;> cases a <;> simp [Builtin.copy_, run_underlying hu, Builtin.lenOf, Builtin.firstCells, sizeOf, typeInfo, hq, hn, storeCells, hl]
end
theorem one_of_flat : ∀ {rs : List (Value × Value)}, (∀ r ∈ rs, r.1.oneCell' = true ∧ r.2.oneCell' = true) → ∀ u ∈ flatR rs, u.oneCell' = true
  | [], _, u, hu => by simp [flatR] at hu
  | r :: t, h, u, hu => by
    rcases List.mem_cons.1 hu with rfl | hu
    · exact (h r (by simp)).1
    · rcases List.mem_cons.1 hu with rfl | hu
      · exact (h r (by simp)).2
      · exact one_of_flat (fun r hr => h r (by simp [hr])) u hu
section
variable {lo tb ob nv oc v : Nat} {ρ : Nat → Role} {K : Int} {g : GramD} {T : List (List TRow)} {x : List TRow} {w : World}
theorem RowD.one {r : Value × Value} {y : TRow} (h : RowD lo ρ v r y w) : r.1.oneCell' = true ∧ r.2.oneCell' = true := by
  obtain ⟨⟨la, lc, h1, -⟩, h2, -⟩ := h
  obtain ⟨a, c, h3, -⟩ := h2.shape
  rw [h1, h3]
  exact ⟨rfl, rfl⟩
theorem Mid.block {gb cap m : Nat} {xs : List Value} {rs : List (Value × Value)} (h : Mid lo ρ tb ob nv oc K g T v gb cap m xs rs x w) : ∃ cur : Array Value, w.heap[gb]? = some (.cells cur 44 (0, 0)) ∧ cur.size = cap * 2 ∧ cur.toList.take (m * 2) = xs ∧ m ≤ cap ∧ cap ≤ maxLen ∧ lo ≤ gb := by
  rcases h.own.2 with ⟨h0, _⟩ | ⟨g', cap', cur, e, hlo, hcur, h1, h2, h3, h4⟩
  · cases h0
  · injection e with e1 e2 e3
    injection e1 with e1
    injection e1 with e1
    subst e1 e3
    exact ⟨cur, hcur, h3, h4, h1, h2, hlo⟩
/-- Rows moved on by one. -/
theorem Mid.copy {gb cap p : Nat} {a b : Value} {rs : List (Value × Value)} (h : Mid lo ρ tb ob nv oc K g T v gb cap (rs.length + 1) (flatR rs ++ [a, b]) rs x w) (hl : rs.length = x.length) (hp : p ≤ rs.length) :
    ∃ W' c d, (∀ ty, (Builtin.copy_ #[41, 41] ty #[.slice (if cap = p + 1 then some ⟨gb, 0, none⟩ else (some (⟨gb, 0, none⟩ : Addr)).map (fun x => x.add ((p + 1) * 2))) (rs.length + 1 - (p + 1)) (cap - (p + 1)), .slice (if cap = p then some ⟨gb, 0, none⟩ else (some (⟨gb, 0, none⟩ : Addr)).map (fun x => x.add (p * 2))) (rs.length + 1 - p) (cap - p)]).run Try.prog w = .ok (goInt ((rs.length - p : Nat) : Int)) W') ∧
      Mid lo ρ tb ob nv oc K g T v gb cap (rs.length + 1) (flatR (rs.take p) ++ [c, d] ++ flatR (rs.drop p)) rs x W' ∧ Kept (· = gb) w W' ∧ W'.heap.size = w.heap.size := by
  obtain ⟨cur, hcur, hcs, htk, hmc, hcm, hlo⟩ := h.block
  have hsz : ((Try.prog.info? 44).map (·.size)) = some 2 := by kernel_rfl
  have hmin : Nat.min (rs.length + 1 - p) (rs.length + 1 - (p + 1)) = rs.length - p := by
    show min _ _ = _
    rw [Nat.min_def]; split <;> omega
  have hfl := flatR_len rs
  by_cases hpn : p = rs.length
  · subst hpn
    refine ⟨w, a, b, fun ty => ?_, ?_, Kept.refl _ _, rfl⟩
    · rw [run_copy_noneN w 41 41 ty 44 _ _ _ _ _ _ Try.underlying41 (by rw [hsz]; rfl) (by rw [hmin]; omega), Nat.sub_self]
      rfl
    · rw [List.take_length, List.drop_length]
      simpa [flatR] using h
  · have hpl : p < rs.length := by omega
    have hc1 : ¬ cap = p + 1 := by omega
    have hc2 : ¬ cap = p := by omega
    have hdl : (flatR (rs.drop p)).length = (rs.length - p) * 2 := by rw [flatR_len, List.length_drop]
    obtain ⟨r, hr⟩ : ∃ r, rs[p]? = some r := ⟨_, List.getElem?_eq_getElem hpl⟩
    have hcurx : ∀ j u, (flatR rs ++ [a, b])[j]? = some u → cur[j]? = some u := fun j u hj => by
      rw [← htk] at hj
      have hj2 : j < (cur.toList.take ((rs.length + 1) * 2)).length := (List.getElem?_eq_some_iff.1 hj).1
      rw [List.getElem?_take, if_pos (by rw [List.length_take] at hj2; omega)] at hj
      simpa using hj
    have hrun := fun ty => run_copy_rowN (P := Try.prog) w 41 41 ty 44 gb ((p + 1) * 2) (rs.length + 1 - (p + 1)) (cap - (p + 1)) ⟨gb, p * 2, none⟩ (rs.length + 1 - p) (cap - p) cur 44 (flatR (rs.drop p)) 2 Try.underlying41 hsz hcur (by rw [hmin, hdl])
      (fun j u hj => by
        rw [addr_add, cell_of_block hcur]
        rw [← flatR_drop, List.getElem?_drop] at hj
        exact hcurx _ u (by rw [List.getElem?_append_left (List.getElem?_eq_some_iff.1 hj).1]; exact hj)) (by rw [hdl, hcs]; omega)
      (one_of_flat (fun r hr => by
        obtain ⟨i, hi, rfl⟩ := List.mem_iff_getElem.1 (List.mem_of_mem_drop hr)
        exact (h.ds i _ _ (List.getElem?_eq_getElem hi) (List.getElem?_eq_getElem (show i < x.length by omega))).one))
    have e1 : (if cap = p + 1 then some ⟨gb, 0, none⟩ else (some (⟨gb, 0, none⟩ : Addr)).map (fun x => x.add ((p + 1) * 2))) = some ⟨gb, (p + 1) * 2, none⟩ := by rw [if_neg hc1, Option.map_some, addr_add, Nat.zero_add]
    have e2 : (if cap = p then some ⟨gb, 0, none⟩ else (some (⟨gb, 0, none⟩ : Addr)).map (fun x => x.add (p * 2))) = some ⟨gb, p * 2, none⟩ := by rw [if_neg hc2, Option.map_some, addr_add, Nat.zero_add]
    rw [hmin] at hrun
    have hK : Kept (· = gb) w (w.setRow gb (cur.toList.take ((p + 1) * 2) ++ flatR (rs.drop p) ++ cur.toList.drop ((p + 1) * 2 + (flatR (rs.drop p)).length)).toArray) := ⟨rfl, rfl, rfl, by simp [World.setRow], fun k _ hk => setRow_other w gb k _ hk⟩
    have hs2 : (w.setRow gb (cur.toList.take ((p + 1) * 2) ++ flatR (rs.drop p) ++ cur.toList.drop ((p + 1) * 2 + (flatR (rs.drop p)).length)).toArray).heap.size = w.heap.size := by simp [World.setRow]
    obtain ⟨f1, f2⟩ := flatR_get rs p r hr
    refine ⟨_, r.1, r.2, fun ty => by rw [e1, e2]; exact hrun ty, h.turn hK hs2 ⟨?_, .inr ⟨gb, cap, _, rfl, hlo, setRow_heap w gb _ _ 44 _ hcur, hmc, hcm, ?_, ?_⟩⟩, hK, hs2⟩
    · simp only [List.length_append, flatR_len, List.length_take, List.length_drop, List.length_cons, List.length_nil]; omega
    · simp only [List.size_toArray, List.length_append, List.length_take, List.length_drop, Array.length_toList, hdl, hcs]; omega
    · have ht : cur.toList.take ((p + 1) * 2) = flatR (rs.take p) ++ [r.1, r.2] := by
        have h1 : cur.toList.take ((p + 1) * 2) = (flatR rs ++ [a, b]).take ((p + 1) * 2) := by rw [← htk, List.take_take, Nat.min_eq_left (by omega)]
        rw [h1, List.take_append_of_le_length (by omega), flatR_take, List.take_succ_eq_append_getElem hpl, flatR_app]
        have : rs[p] = r := by rw [List.getElem?_eq_getElem hpl] at hr; injection hr
        rw [this]
        rfl
      rw [ht, List.take_append_of_le_length (by simp only [List.length_append, flatR_len, List.length_take, List.length_drop, List.length_cons, List.length_nil]; omega)]
      exact List.take_of_length_le (by simp only [List.length_append, flatR_len, List.length_take, List.length_drop, List.length_cons, List.length_nil]; omega)
theorem Mid.drew {gb cap m : Nat} {xs : List Value} {rs : List (Value × Value)} (h : Mid lo ρ tb ob nv oc K g T v gb cap m xs rs x w) : Mid lo ρ tb ob nv oc K g T v gb cap m xs rs x w.drew :=
  h.turn ⟨rfl, rfl, rfl, Nat.le_refl _, fun _ _ _ => rfl⟩ rfl h.own
/-- The same, as the walk meets it. -/
theorem Mid.copy2 {gb cap p : Nat} {a b : Value} {rs : List (Value × Value)} (h : Mid lo ρ tb ob nv oc K g T v gb cap (rs.length + 1) (flatR rs ++ [a, b]) rs x w) (hl : rs.length = x.length) (hp : p ≤ rs.length) :
    ∃ W' c d A1 n1 c1 A2 n2 c2, (∀ W, (Instr.slice 41 (.slice (some ⟨gb, 0, none⟩) (rs.length + 1) cap) (some (.int .i64 ((p : Int) + 1))) none none).run Try.prog W = .ok (.slice A1 n1 c1) W) ∧
      (∀ W, (Instr.slice 41 (.slice (some ⟨gb, 0, none⟩) (rs.length + 1) cap) (some (.int .i64 (p : Int))) none none).run Try.prog W = .ok (.slice A2 n2 c2) W) ∧
      (∀ ty, (Builtin.copy_ #[41, 41] ty #[.slice A1 n1 c1, .slice A2 n2 c2]).run Try.prog w = .ok (goInt ((rs.length - p : Nat) : Int)) W') ∧
      Mid lo ρ tb ob nv oc K g T v gb cap (rs.length + 1) (flatR (rs.take p) ++ [c, d] ++ flatR (rs.drop p)) rs x W' ∧ Kept (· = gb) w W' := by
  obtain ⟨W', c, d, h1, h2, h3, -⟩ := h.copy hl hp
  exact ⟨W', c, d, _, _, _, _, _, _, fun W => slice41 W (some ⟨gb, 0, none⟩) (rs.length + 1) cap (p + 1) (by omega), fun W => slice41 W (some ⟨gb, 0, none⟩) (rs.length + 1) cap p (by omega), h1, h2, h3⟩
/-- The row written. -/
theorem Mid.put {gb cap p : Nat} {c d : Value} {rs : List (Value × Value)} (h : Mid lo ρ tb ob nv oc K g T v gb cap (rs.length + 1) (flatR (rs.take p) ++ [c, d] ++ flatR (rs.drop p)) rs x w) (hp : p ≤ rs.length) (a b : Value) :
    Mid lo ρ tb ob nv oc K g T v gb cap (rs.length + 1) (flatR (insAt rs p (a, b))) rs x ((w.setCell ⟨gb, p * 2, none⟩ a).setCell ⟨gb, p * 2 + 1, none⟩ b) ∧ Kept (· = gb) w ((w.setCell ⟨gb, p * 2, none⟩ a).setCell ⟨gb, p * 2 + 1, none⟩ b) := by
  have h1 := h.own.stored (p * 2) a
  have h2 := h1.1.stored (p * 2 + 1) b
  have hK : Kept (· = gb) w ((w.setCell ⟨gb, p * 2, none⟩ a).setCell ⟨gb, p * 2 + 1, none⟩ b) := ((Kept.refl (· = gb) w).setCell (p := ⟨gb, p * 2, none⟩) (.inl rfl) a).setCell (p := ⟨gb, p * 2 + 1, none⟩) (.inl rfl) b
  refine ⟨h.turn hK (by simp [World.setCell]) ?_, hK⟩
  have hl : (flatR (rs.take p)).length = p * 2 := by rw [flatR_len, List.length_take, Nat.min_eq_left hp]
  have e : ((flatR (rs.take p) ++ [c, d] ++ flatR (rs.drop p)).set (p * 2) a).set (p * 2 + 1) b = flatR (insAt rs p (a, b)) := by
    unfold insAt
    rw [flatR_app, List.append_assoc, List.set_append_right _ _ (by omega), hl, Nat.sub_self, List.set_append_right _ _ (by omega), hl, Nat.add_sub_cancel_left]
    rfl
  rw [← e]
  exact h2.1
end
end Go.Proofs.Ytmiiolgbjicocaa
