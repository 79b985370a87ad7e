/- A table in memory: its rows, one list of rows a variable; what appends and stores leave of it. -/
import Derived.Test.YtmiiolgbjicocaaTFind
import Derived.Deep.AppendLies
namespace Go.Proofs.Ytmiiolgbjicocaa
open Go.RowKit
/-- What a block is for. -/
inductive Role
  | other | tab | outer | rows (v : Nat) | rules (v : Nat) (look : List Int)
def flatR : List (Value × Value) → List Value
  | [] => []
  | r :: t => r.1 :: r.2 :: flatR t
theorem flatR_len : ∀ rs : List (Value × Value), (flatR rs).length = rs.length * 2
  | [] => rfl
  | r :: t => by simp [flatR, flatR_len t]; omega
theorem flatR_app : ∀ a b : List (Value × Value), flatR (a ++ b) = flatR a ++ flatR b
  | [], b => rfl
  | r :: t, b => by simp [flatR, flatR_app t b]
theorem flatR_get : ∀ (rs : List (Value × Value)) (i : Nat) (r : Value × Value), rs[i]? = some r → (flatR rs)[i * 2]? = some r.1 ∧ (flatR rs)[i * 2 + 1]? = some r.2
  | [], i, r, h => by simp at h
  | r0 :: t, 0, r, h => by
    simp at h
    subst h
    exact ⟨rfl, rfl⟩
  | r0 :: t, i + 1, r, h => by
    have h1 := flatR_get t i r (by simpa using h)
    have e : (i + 1) * 2 = i * 2 + 1 + 1 := by omega
    rw [e]
    exact ⟨h1.1, h1.2⟩
theorem flatR_set2 : ∀ (rs : List (Value × Value)) (i : Nat) (r : Value × Value) (u : Value), rs[i]? = some r → (flatR rs).set (i * 2 + 1) u = flatR (rs.set i (r.1, u))
  | [], i, r, u, h => by simp at h
  | r0 :: t, 0, r, u, h => by
    simp at h
    subst h
    rfl
  | r0 :: t, i + 1, r, u, h => by
    have h1 := flatR_set2 t i r u (by simpa using h)
    have e : (i + 1) * 2 + 1 = i * 2 + 1 + 1 + 1 := by omega
    rw [e]
    simp only [flatR, List.set_cons_succ, h1]
theorem flatR_take : ∀ (rs : List (Value × Value)) (i : Nat), (flatR rs).take (i * 2) = flatR (rs.take i)
  | [], i => by simp [flatR]
  | r0 :: t, 0 => rfl
  | r0 :: t, i + 1 => by
    have e : (i + 1) * 2 = i * 2 + 1 + 1 := by omega
    rw [e]
    simp [flatR, flatR_take t i]
theorem flatR_drop : ∀ (rs : List (Value × Value)) (i : Nat), (flatR rs).drop (i * 2) = flatR (rs.drop i)
  | [], i => by simp [flatR]
  | r0 :: t, 0 => rfl
  | r0 :: t, i + 1 => by
    have e : (i + 1) * 2 = i * 2 + 1 + 1 := by omega
    rw [e]
    simp [flatR, flatR_drop t i]
/-- A lookahead, as it lies. -/
def LookD (ρ : Nat → Role) (val : Value) (look : List Int) (w : World) : Prop := ∃ la lc, val = .slice la look.length lc ∧ Lst w la look ∧ (la = none → lc = 0) ∧ ∀ a, la = some a → 0 < look.length → ρ a.block = .other
/-- One row's values: its lookahead lies wherever, its rules in a block of their own. -/
structure RowD (lo : Nat) (ρ : Nat → Role) (v : Nat) (r : Value × Value) (x : TRow) (w : World) : Prop where
  look : LookD ρ r.1 x.1 w
  own : Own w lo r.2 x.2
  role : ∀ k, r.2.ownBlock = some k → ρ k = .rules v x.1
structure RowC (lo : Nat) (ρ : Nat → Role) (v : Nat) (rv : Value) (rs : List (Value × Value)) (w : World) : Prop where
  own : w.ownsRow lo 44 2 rv rs.length (flatR rs)
  role : ∀ k, rv.ownBlock = some k → ρ k = .rows v
/-- A variable's rows. -/
def RowsM (lo : Nat) (ρ : Nat → Role) (ob v : Nat) (x : List TRow) (w : World) : Prop :=
  ∃ rv rs, w.cell? ⟨ob, v, none⟩ = some rv ∧ w.frozen? ⟨ob, v, none⟩ = false ∧ RowC lo ρ v rv rs w ∧ rs.length = x.length ∧ ∀ (i : Nat) r y, rs[i]? = some r → x[i]? = some y → RowD lo ρ v r y w
structure TabB (lo : Nat) (ρ : Nat → Role) (tb ob nv oc : Nat) (K : Int) (g : GramD) (w : World) : Prop where
  tab : w.heap[tb]? = some (.cells #[.int .i64 K, .slice (some ⟨ob, 0, none⟩) nv oc, g.tv, g.vv, g.rv] 54 (0, 0))
  rtab : ρ tb = .tab
  rout : ρ ob = .outer
  lot : lo ≤ tb
  loo : lo ≤ ob
  los : lo ≤ w.heap.size
  obs : ob < w.heap.size
  fresh : ∀ k, w.heap.size ≤ k → ρ k = .other
  low : ∀ k, k < lo → ρ k = .other
structure TabM (lo : Nat) (ρ : Nat → Role) (tb ob nv oc : Nat) (K : Int) (g : GramD) (T : List (List TRow)) (w : World) : Prop where
  base : TabB lo ρ tb ob nv oc K g w
  len : T.length = nv
  rows : ∀ (v : Nat) x, T[v]? = some x → RowsM lo ρ ob v x w
section
variable {lo tb ob nv oc v : Nat} {ρ ρ' : Nat → Role} {K : Int} {g : GramD} {S : Nat → Prop} {w w' : World}
theorem own_lt {size n : Nat} {e : TypeId} {rv : Value} {xs : List Value} (h : w.ownsRow lo e size rv n xs) {k : Nat} (hk : rv.ownBlock = some k) : k < w.heap.size ∧ lo ≤ k := by
  rcases h.2 with ⟨rfl, _⟩ | ⟨g', cap, cur, rfl, hg', hh, r⟩
  · simp [Value.ownBlock] at hk
  · simp [Value.ownBlock] at hk
    subst hk
    exact ⟨lt_of_block hh, hg'⟩
theorem own_stay {size n : Nat} {e : TypeId} {rv : Value} {xs : List Value} (h : w.ownsRow lo e size rv n xs) (hk : ∀ k, rv.ownBlock = some k → w'.heap[k]? = w.heap[k]?) : w'.ownsRow lo e size rv n xs := by
  obtain ⟨h1, h2⟩ := h
  refine ⟨h1, ?_⟩
  rcases h2 with h2 | ⟨g, cap, cur, rfl, hg, hh, r⟩
  · exact .inl h2
  · exact .inr ⟨g, cap, cur, rfl, hg, by rw [hk g rfl]; exact hh, r⟩
theorem LookD.go {r : Value} {x : List Int} (h : LookD ρ r x w) (hk : Kept S w w') (hρ : ∀ k, k < w.heap.size → ρ' k = ρ k) (hs : ∀ k, k < w.heap.size → S k → ρ k ≠ .other) : LookD ρ' r x w' := by
  obtain ⟨la, lc, h1, h2, h3, h4⟩ := h
  refine ⟨la, lc, h1, fun i hi => ?_, h3, fun a ha hx => ?_⟩
  · obtain ⟨b, off, rfl, hb, hc⟩ := h2 i hi
    refine ⟨b, off, rfl, Nat.lt_of_lt_of_le hb hk.size, ?_⟩
    rw [World.cell?_of_block (hk.block b hb (fun hs' => (hs b hb hs') (h4 _ rfl (by omega))))]
    exact hc
  · obtain ⟨b, off, e, hb, hc⟩ := h2 0 hx
    rw [ha] at e
    injection e with e
    subst e
    rw [hρ b hb]
    exact h4 _ ha hx
theorem RowD.go {r : Value × Value} {x : TRow} (h : RowD lo ρ v r x w) (hk : Kept S w w') (hρ : ∀ k, k < w.heap.size → ρ' k = ρ k) (hs : ∀ k, k < w.heap.size → S k → ρ k ≠ .other ∧ ρ k ≠ .rules v x.1) : RowD lo ρ' v r x w' :=
  ⟨h.look.go hk hρ (fun k hk2 hs' => (hs k hk2 hs').1), own_stay h.own (fun k hk2 => hk.block k (own_lt h.own hk2).1 (fun hs' => (hs k (own_lt h.own hk2).1 hs').2 (h.role k hk2))), fun k hk2 => by rw [hρ k (own_lt h.own hk2).1]; exact h.role k hk2⟩
theorem RowC.go {rv : Value} {rs : List (Value × Value)} (h : RowC lo ρ v rv rs w) (hk : Kept S w w') (hρ : ∀ k, k < w.heap.size → ρ' k = ρ k) (hs : ∀ k, k < w.heap.size → S k → ρ k ≠ .rows v) : RowC lo ρ' v rv rs w' :=
  ⟨own_stay h.own (fun k hk2 => hk.block k (own_lt h.own hk2).1 (fun hs' => hs k (own_lt h.own hk2).1 hs' (h.role k hk2))), fun k hk2 => by rw [hρ k (own_lt h.own hk2).1]; exact h.role k hk2⟩
theorem RowsM.go {x : List TRow} (h : RowsM lo ρ ob v x w) (hk : Kept S w w') (hρ : ∀ k, k < w.heap.size → ρ' k = ρ k) (hc : w'.cell? ⟨ob, v, none⟩ = w.cell? ⟨ob, v, none⟩ ∧ w'.frozen? ⟨ob, v, none⟩ = w.frozen? ⟨ob, v, none⟩) (hs : ∀ k, k < w.heap.size → S k → ρ k ≠ .other ∧ ρ k ≠ .rows v ∧ ∀ l, ρ k ≠ .rules v l) : RowsM lo ρ' ob v x w' := by
  obtain ⟨rv, rs, h1, h2, h3, h4, h5⟩ := h
  exact ⟨rv, rs, hc.1.trans h1, hc.2.trans h2, h3.go hk hρ (fun k hk1 hs1 => (hs k hk1 hs1).2.1), h4, fun i r y hr hy => (h5 i r y hr hy).go hk hρ (fun k hk1 hs1 => ⟨(hs k hk1 hs1).1, (hs k hk1 hs1).2.2 _⟩)⟩
theorem TabB.go (h : TabB lo ρ tb ob nv oc K g w) (hk : Kept S w w') (hρ : ∀ k, k < w.heap.size → ρ' k = ρ k) (hf : ∀ k, w'.heap.size ≤ k → ρ' k = .other) (hs : ∀ k, k < w.heap.size → S k → ρ k ≠ .tab) : TabB lo ρ' tb ob nv oc K g w' := by
  have htl := lt_of_block h.tab
  exact ⟨(hk.block tb htl (fun hs' => hs tb htl hs' h.rtab)).trans h.tab, (hρ tb htl).trans h.rtab, (hρ ob h.obs).trans h.rout, h.lot, h.loo, Nat.le_trans h.los hk.size, Nat.lt_of_lt_of_le h.obs hk.size, hf, fun k hk2 => (hρ k (Nat.lt_of_lt_of_le hk2 h.los)).trans (h.low k hk2)⟩
/-- All that was there stays. -/
theorem TabM.grow {T : List (List TRow)} (h : TabM lo ρ tb ob nv oc K g T w) (hg : Grow w w') : TabM lo ρ tb ob nv oc K g T w' := by
  have hk := kept_of_below hg (fun _ => False)
  exact ⟨h.base.go hk (fun _ _ => rfl) (fun k hk2 => h.base.fresh k (Nat.le_trans hk.size hk2)) (fun _ _ h => h.elim), h.len, fun v x hx => (h.rows v x hx).go hk (fun _ _ => rfl) ⟨World.cell?_of_block (hg.block ob h.base.obs), World.frozen?_of_block (hg.block ob h.base.obs)⟩ (fun _ _ h => h.elim)⟩
/-- A variable's rows as they are being turned: the cells of its block; the rows that were there, wherever they stand now. -/
structure Mid (lo : Nat) (ρ : Nat → Role) (tb ob nv oc : Nat) (K : Int) (g : GramD) (T : List (List TRow)) (v gb cap m : Nat) (xs : List Value) (rs : List (Value × Value)) (x : List TRow) (w : World) : Prop where
  base : TabB lo ρ tb ob nv oc K g w
  len : T.length = nv
  rows : ∀ (u : Nat) y, u ≠ v → T[u]? = some y → RowsM lo ρ ob u y w
  cell : w.cell? ⟨ob, v, none⟩ = some (.slice (some ⟨gb, 0, none⟩) m cap)
  free : w.frozen? ⟨ob, v, none⟩ = false
  own : w.ownsRow lo 44 2 (.slice (some ⟨gb, 0, none⟩) m cap) m xs
  role : ρ gb = .rows v
  ds : ∀ (i : Nat) r y, rs[i]? = some r → x[i]? = some y → RowD lo ρ v r y w
theorem TabM.mid {T : List (List TRow)} (h : TabM lo ρ tb ob nv oc K g T w) {x : List TRow} (hx : T[v]? = some x) (hn : 0 < x.length) : ∃ gb cap rs, rs.length = x.length ∧ Mid lo ρ tb ob nv oc K g T v gb cap x.length (flatR rs) rs x w := by
  obtain ⟨rv, rs, h1, h2, h3, h4, h5⟩ := h.rows v x hx
  have ho := h3.own
  rcases h3.own.2 with ⟨_, h0⟩ | ⟨gb, cap, cur, rfl, _⟩
  · omega
  · rw [h4] at h1 ho
    exact ⟨gb, cap, rs, h4, h.base, h.len, fun u y _ hy => h.rows u y hy, h1, h2, ho, h3.role gb rfl, h5⟩
theorem Mid.done {T : List (List TRow)} {gb cap m : Nat} {xs : List Value} {rs : List (Value × Value)} {x : List TRow} (h : Mid lo ρ tb ob nv oc K g T v gb cap m xs rs x w) {rs' : List (Value × Value)} {x' : List TRow} (hxs : xs = flatR rs') (hm : rs'.length = m) (hm2 : x'.length = m) (hv : v < nv) (hd : ∀ (i : Nat) r y, rs'[i]? = some r → x'[i]? = some y → RowD lo ρ v r y w) : TabM lo ρ tb ob nv oc K g (T.set v x') w := by
  refine ⟨h.base, by rw [List.length_set]; exact h.len, fun u y hy => ?_⟩
  rw [List.getElem?_set] at hy
  by_cases e : v = u
  · subst e
    rw [if_pos rfl, if_pos (by rw [h.len]; exact hv)] at hy
    injection hy with hy
    subst hy
    refine ⟨_, rs', h.cell, h.free, ⟨?_, fun k hk => ?_⟩, by omega, hd⟩
    · rw [hm, ← hxs]; exact h.own
    · simp [Value.ownBlock] at hk
      subst hk
      exact h.role
  · rw [if_neg e] at hy
    exact h.rows u y (fun h => e h.symm) hy
/-- The cells of its block, turned. -/
theorem Mid.turn {T : List (List TRow)} {gb cap m : Nat} {xs xs' : List Value} {rs : List (Value × Value)} {x : List TRow} (h : Mid lo ρ tb ob nv oc K g T v gb cap m xs rs x w) (hk : Kept (· = gb) w w') (hs : w'.heap.size = w.heap.size) (ho : w'.ownsRow lo 44 2 (.slice (some ⟨gb, 0, none⟩) m cap) m xs') : Mid lo ρ tb ob nv oc K g T v gb cap m xs' rs x w' := by
  have hne : ob ≠ gb := fun e => by have h1 := h.base.rout; rw [e, h.role] at h1; cases h1
  have hob := hk.block ob h.base.obs hne
  exact ⟨h.base.go hk (fun _ _ => rfl) (fun k hk2 => h.base.fresh k (by omega)) (fun k _ e => by subst e; rw [h.role]; exact nofun), h.len,
    fun u y hu hy => (h.rows u y hu hy).go hk (fun _ _ => rfl) ⟨World.cell?_of_block hob, World.frozen?_of_block hob⟩ (fun k _ e => by
      subst e
      rw [h.role]
      exact ⟨nofun, (fun h => by injection h with h; exact hu h.symm), fun _ => nofun⟩),
    (World.cell?_of_block hob).trans h.cell, (World.frozen?_of_block hob).trans h.free, ho, h.role, fun i r y hr hy => (h.ds i r y hr hy).go hk (fun _ _ => rfl) (fun k _ e => by
      subst e
      rw [h.role]
      exact ⟨nofun, nofun⟩)⟩
/-- A row more, and its place in the table written. -/
theorem TabM.more {T : List (List TRow)} (h : TabM lo ρ tb ob nv oc K g T w) {x : List TRow} (hx : T[v]? = some x) {rv : Value} {rs : List (Value × Value)} (h2 : w.frozen? ⟨ob, v, none⟩ = false) (h3 : RowC lo ρ v rv rs w) (h5 : ∀ (i : Nat) r y, rs[i]? = some r → x[i]? = some y → RowD lo ρ v r y w)
    {w1 : World} (hg1 : Grow w w1) (hgr : w1.grownBy w' rv.ownBlock) {gb cap : Nat} {xs : List Value} {m : Nat} (ho : w'.ownsRow lo 44 2 (.slice (some ⟨gb, 0, none⟩) m cap) m xs) (hat : rv.ownBlock = some gb ∨ gb = w1.heap.size) :
    ∃ ρ', Mid lo ρ' tb ob nv oc K g T v gb cap m xs rs x (w'.setCell ⟨ob, v, none⟩ (.slice (some ⟨gb, 0, none⟩) m cap)) ∧ Kept (fun k => ρ k ≠ .other) w (w'.setCell ⟨ob, v, none⟩ (.slice (some ⟨gb, 0, none⟩) m cap)) ∧ ∀ k, k < w.heap.size → ρ' k = ρ k := by
  have hr : ∀ k, rv.ownBlock = some k → k < w.heap.size ∧ ρ k = .rows v := fun k hk => ⟨(own_lt h3.own hk).1, h3.role k hk⟩
  have hobne : some ob ≠ rv.ownBlock := fun e => by have h1 := h.base.rout; rw [(hr ob e.symm).2] at h1; cases h1
  have hob1 : ob < w1.heap.size := Nat.lt_of_lt_of_le h.base.obs hg1.size
  have hK1 : Kept (fun k => rv.ownBlock = some k) w w' := (kept_of_below hg1 (fun k => rv.ownBlock = some k)).trans ⟨hgr.os, hgr.tape, hgr.output, hgr.size, fun k hk hs => hgr.block k hk (fun e => hs e.symm)⟩
  have hK : Kept (fun k => k = ob ∨ rv.ownBlock = some k) w (w'.setCell ⟨ob, v, none⟩ (.slice (some ⟨gb, 0, none⟩) m cap)) := (hK1.mono (fun k _ e => .inr e)).setCell (p := ⟨ob, v, none⟩) (.inl (.inl rfl)) _
  have hgl : gb < w'.heap.size := (own_lt ho (k := gb) rfl).1
  have hρ : ∀ k, k < w.heap.size → (if k = gb then Role.rows v else ρ k) = ρ k := fun k hk => by
    split
    · rename_i e
      subst e
      rcases hat with h1 | h1
      · exact (hr k h1).2.symm
      · have := hg1.size; omega
    · rfl
  have hobw : w'.heap[ob]? = w.heap[ob]? := (hgr.block ob hob1 hobne).trans (hg1.block ob h.base.obs)
  obtain ⟨rv0, rs0, c1, _⟩ := h.rows v x hx
  have c1' : w'.cell? ⟨ob, v, none⟩ = some rv0 := (World.cell?_of_block hobw).trans c1
  have hne : ob ≠ gb := fun e => by
    subst e
    rcases hat with h1 | h1
    · exact hobne h1.symm
    · omega
  have hsz : (w'.setCell ⟨ob, v, none⟩ (.slice (some ⟨gb, 0, none⟩) m cap)).heap.size = w'.heap.size := by simp [World.setCell]
  refine ⟨fun k => if k = gb then .rows v else ρ k, ⟨h.base.go hK hρ (fun k hk => ?_) (fun k _ e => ?_), h.len, fun u y hu hy => (h.rows u y hy).go hK hρ ?_ (fun k _ e => ?_), ?_, ?_, own_stay ho (fun k hk => ?_), if_pos rfl, fun i r y hr2 hy => (h5 i r y hr2 hy).go hK hρ (fun k _ e => ?_)⟩, hK.mono (fun k _ e => ?_), hρ⟩
  · rw [hsz] at hk
    rw [if_neg (by omega)]
    exact h.base.fresh k (Nat.le_trans hK1.size hk)
  · rcases e with e | e
    · subst e; rw [h.base.rout]; exact nofun
    · rw [(hr k e).2]; exact nofun
  · refine ⟨?_, by rw [World.frozen?_setCell]; exact World.frozen?_of_block hobw⟩
    rw [World.cell?_setCell_other _ _ _ _ (fun e => by injection e with _ e2; exact hu e2.symm)]
    exact World.cell?_of_block hobw
  · rcases e with e | e
    · subst e; rw [h.base.rout]; exact ⟨nofun, nofun, fun _ => nofun⟩
    · rw [(hr k e).2]; exact ⟨nofun, (fun h => by injection h with h; exact hu h.symm), fun _ => nofun⟩
  · exact World.cell?_setCell_same _ _ _ c1'
  · rw [World.frozen?_setCell]; exact (World.frozen?_of_block hobw).trans h2
  · simp [Value.ownBlock] at hk
    subst hk
    exact Below.heap_setCell _ _ _ _ (fun e => hne (by first | exact e | exact e.symm))
  · rcases e with e | e
    · subst e; rw [h.base.rout]; exact ⟨nofun, nofun⟩
    · rw [(hr k e).2]; exact ⟨nofun, nofun⟩
  · rcases e with e | e
    · subst e; rw [h.base.rout]; exact nofun
    · rw [(hr k e).2]; exact nofun
/-- A row stands in the midst. -/
def insAt {α : Type} (x : List α) (p : Nat) (y : α) : List α := x.take p ++ y :: x.drop p
theorem insAt_len {α : Type} {x : List α} {p : Nat} {y : α} (h : p ≤ x.length) : (insAt x p y).length = x.length + 1 := by
  unfold insAt
  rw [List.length_append, List.length_cons, List.length_take, List.length_drop]
  omega
theorem insAt_get {α : Type} {x : List α} {p : Nat} {y : α} (h : p ≤ x.length) (i : Nat) : (insAt x p y)[i]? = if i < p then x[i]? else if i = p then some y else x[i - 1]? := by
  unfold insAt
  have hl : (x.take p).length = p := by rw [List.length_take]; omega
  by_cases h1 : i < p
  · rw [if_pos h1, List.getElem?_append_left (by omega), List.getElem?_take, if_pos h1]
  · rw [if_neg h1, List.getElem?_append_right (by omega), hl]
    by_cases h2 : i = p
    · rw [if_pos h2, h2, Nat.sub_self]; rfl
    · rw [if_neg h2]
      obtain ⟨j, rfl⟩ : ∃ j, i = p + j + 1 := ⟨i - p - 1, by omega⟩
      rw [show p + j + 1 - p = j + 1 by omega, List.getElem?_cons_succ, List.getElem?_drop, show p + j + 1 - 1 = p + j by omega]
theorem Mid.ins {T : List (List TRow)} {gb cap m p : Nat} {xs : List Value} {rs : List (Value × Value)} {x : List TRow} (h : Mid lo ρ tb ob nv oc K g T v gb cap m xs rs x w) (hp : p ≤ x.length) (hl : rs.length = x.length) (hm : m = x.length + 1) {la : Option Addr} {lc : Nat} {look : List Int} (hxs : xs = flatR (insAt rs p (.slice la look.length lc, .slice none 0 0))) (hv : v < nv) (h1 : Lst w la look) (h2 : la = none → lc = 0) (h3 : ∀ a, la = some a → 0 < look.length → ρ a.block = .other) : TabM lo ρ tb ob nv oc K g (T.set v (insAt x p (look, []))) w := by
  refine h.done hxs (by rw [insAt_len (by omega)]; omega) (by rw [insAt_len hp]; omega) hv (fun i r y hr hy => ?_)
  rw [insAt_get (by omega)] at hr
  rw [insAt_get hp] at hy
  by_cases c1 : i < p
  · rw [if_pos c1] at hr hy
    exact h.ds i r y hr hy
  · rw [if_neg c1] at hr hy
    by_cases c2 : i = p
    · rw [if_pos c2] at hr hy
      injection hr with hr
      injection hy with hy
      subst hr hy
      exact ⟨⟨la, lc, rfl, h1, h2, h3⟩, World.ownsRow_nil _ _ _ _, fun k hk => by simp [Value.ownBlock] at hk⟩
    · rw [if_neg c2] at hr hy
      exact h.ds (i - 1) r y hr hy
/-- A rule more in a row. -/
theorem TabM.rule {T : List (List TRow)} {x : List TRow} {gb cap p : Nat} {rs : List (Value × Value)} {r : Value × Value} {y : TRow} (h : Mid lo ρ tb ob nv oc K g T v gb cap x.length (flatR rs) rs x w) (hv : v < nv) (hl : rs.length = x.length) (hr : rs[p]? = some r) (hy : x[p]? = some y) (hd : ∀ i z, x[i]? = some z → i ≠ p → z.1 ≠ y.1)
    {w1 : World} (hg1 : Grow w w1) (hgr : w1.grownBy w' r.2.ownBlock) {ub ucap n : Nat} {us : List Int} (ho : w'.ownsRow lo 3 1 (.slice (some ⟨ub, 0, none⟩) n ucap) n (us.map (Value.int .i64))) (hn : n = us.length) (hat : r.2.ownBlock = some ub ∨ ub = w1.heap.size) :
    ∃ ρ', TabM lo ρ' tb ob nv oc K g (T.set v (x.set p (y.1, us))) (w'.setCell ⟨gb, p * 2 + 1, none⟩ (.slice (some ⟨ub, 0, none⟩) n ucap)) ∧ Kept (fun k => ρ k ≠ .other) w (w'.setCell ⟨gb, p * 2 + 1, none⟩ (.slice (some ⟨ub, 0, none⟩) n ucap)) ∧ ∀ k, k < w.heap.size → ρ' k = ρ k := by
  subst hn
  have ho : Own w' lo (.slice (some ⟨ub, 0, none⟩) us.length ucap) us := ho
  have hD := h.ds p r y hr hy
  have hu : ∀ k, r.2.ownBlock = some k → k < w.heap.size ∧ ρ k = .rules v y.1 := fun k hk => ⟨(own_lt hD.own hk).1, hD.role k hk⟩
  have hgbl : gb < w.heap.size := (own_lt h.own (k := gb) rfl).1
  have hgbne : some gb ≠ r.2.ownBlock := fun e => by have h1 := h.role; rw [(hu gb e.symm).2] at h1; cases h1
  have hobne : some ob ≠ r.2.ownBlock := fun e => by have h1 := h.base.rout; rw [(hu ob e.symm).2] at h1; cases h1
  have hogb : ob ≠ gb := fun e => by have h1 := h.base.rout; rw [e, h.role] at h1; cases h1
  have hK1 : Kept (fun k => r.2.ownBlock = some k) w w' := (kept_of_below hg1 (fun k => r.2.ownBlock = some k)).trans ⟨hgr.os, hgr.tape, hgr.output, hgr.size, fun k hk hs => hgr.block k hk (fun e => hs e.symm)⟩
  have hK : Kept (fun k => k = gb ∨ r.2.ownBlock = some k) w (w'.setCell ⟨gb, p * 2 + 1, none⟩ (.slice (some ⟨ub, 0, none⟩) us.length ucap)) := (hK1.mono (fun k _ e => .inr e)).setCell (p := ⟨gb, p * 2 + 1, none⟩) (.inl (.inl rfl)) _
  have hul : ub < w'.heap.size := (own_lt ho (k := ub) rfl).1
  have hρ : ∀ k, k < w.heap.size → (if k = ub then Role.rules v y.1 else ρ k) = ρ k := fun k hk => by
    split
    · rename_i e
      subst e
      rcases hat with h1 | h1
      · exact (hu k h1).2.symm
      · have := hg1.size; omega
    · rfl
  have hug : ub ≠ gb := fun e => by
    subst e
    rcases hat with h1 | h1
    · exact hgbne h1.symm
    · have := hg1.size; omega
  have hobk := hK.block ob h.base.obs (fun e => e.elim (fun e => hogb e) (fun e => hobne e.symm))
  have hsz : (w'.setCell ⟨gb, p * 2 + 1, none⟩ (.slice (some ⟨ub, 0, none⟩) us.length ucap)).heap.size = w'.heap.size := by simp [World.setCell]
  have hown := own_stay h.own (w' := w') (fun k hk => by
    simp [Value.ownBlock] at hk
    subst hk
    exact (hgr.block gb (Nat.lt_of_lt_of_le hgbl hg1.size) hgbne).trans (hg1.block gb hgbl))
  have hst := (hown.stored (p * 2 + 1) (.slice (some ⟨ub, 0, none⟩) us.length ucap)).1
  rw [flatR_set2 rs p r _ hr] at hst
  refine ⟨fun k => if k = ub then .rules v y.1 else ρ k, ⟨h.base.go hK hρ (fun k hk => ?_) (fun k _ e => ?_), by rw [List.length_set]; exact h.len, fun u z hz => ?_⟩, hK.mono (fun k _ e => ?_), hρ⟩
  · rw [hsz] at hk
    rw [if_neg (by omega)]
    exact h.base.fresh k (Nat.le_trans hK1.size hk)
  · rcases e with e | e
    · subst e; rw [h.role]; exact nofun
    · rw [(hu k e).2]; exact nofun
  · rw [List.getElem?_set] at hz
    by_cases e : v = u
    · subst e
      rw [if_pos rfl, if_pos (by rw [h.len]; exact hv)] at hz
      injection hz with hz
      subst hz
      refine ⟨.slice (some ⟨gb, 0, none⟩) x.length cap, rs.set p (r.1, .slice (some ⟨ub, 0, none⟩) us.length ucap), (World.cell?_of_block hobk).trans h.cell, (World.frozen?_of_block hobk).trans h.free, ⟨?_, fun k hk => ?_⟩, by rw [List.length_set, List.length_set]; exact hl, fun i r' y' hr' hy' => ?_⟩
      · rw [List.length_set, hl]; exact hst
      · simp [Value.ownBlock] at hk
        subst hk
        show (if gb = ub then _ else _) = _
        rw [if_neg (fun e => hug e.symm)]
        exact h.role
      · rw [List.getElem?_set] at hr' hy'
        by_cases e2 : p = i
        · subst e2
          rw [if_pos rfl, if_pos (List.getElem?_eq_some_iff.1 hr).1] at hr'
          rw [if_pos rfl, if_pos (List.getElem?_eq_some_iff.1 hy).1] at hy'
          injection hr' with hr'
          injection hy' with hy'
          subst hr' hy'
          have hD2 := hD.look.go hK hρ (fun k _ e => by
            rcases e with e | e
            · subst e; rw [h.role]; exact nofun
            · rw [(hu k e).2]; exact nofun)
          exact ⟨hD2, own_stay ho (fun k hk => by
            simp [Value.ownBlock] at hk
            subst hk
            exact Below.heap_setCell _ _ _ _ (fun e => hug (by first | exact e | exact e.symm))), fun k hk => by
            simp [Value.ownBlock] at hk
            subst hk
            exact if_pos rfl⟩
        · rw [if_neg e2] at hr' hy'
          refine (h.ds i r' y' hr' hy').go hK hρ (fun k _ e => ?_)
          rcases e with e | e
          · subst e; rw [h.role]; exact ⟨nofun, nofun⟩
          · rw [(hu k e).2]; exact ⟨nofun, (fun h5 => by injection h5 with _ h5; exact hd i y' hy' (fun e => e2 e.symm) h5.symm)⟩
    · rw [if_neg e] at hz
      refine (h.rows u z (fun h => e h.symm) hz).go hK hρ ⟨World.cell?_of_block hobk, World.frozen?_of_block hobk⟩ (fun k _ e5 => ?_)
      rcases e5 with e5 | e5
      · subst e5; rw [h.role]; exact ⟨nofun, (fun h => by injection h with h; exact e h), fun _ => nofun⟩
      · rw [(hu k e5).2]; exact ⟨nofun, nofun, fun l => (fun h => by injection h with h; exact e h)⟩
  · rcases e with e | e
    · subst e; rw [h.role]; exact nofun
    · rw [(hu k e).2]; exact nofun
/-- Its rows, as they are read. -/
theorem TabM.read {T : List (List TRow)} {x : List TRow} (h : TabM lo ρ tb ob nv oc K g T w) (hx : T[v]? = some x) : TRows w tb v nv x := by
  obtain ⟨rv, rs, h1, h2, h3, h4, h5⟩ := h.rows v x hx
  have hv : v < nv := by rw [← h.len]; exact (List.getElem?_eq_some_iff.1 hx).1
  have hc1 : w.cell? ⟨tb, 1, none⟩ = some (.slice (some ⟨ob, 0, none⟩) nv oc) := cell_of_block (off := 1) h.base.tab
  rcases h3.own.2 with ⟨rfl, h0⟩ | ⟨gb, cap, cur, rfl, hgb, hcur, hle, hcm, hcs, htk⟩
  · refine ⟨ob, oc, none, 0, hc1, hv, lt_of_block h.base.tab, h.base.obs, ?_, fun i hi => by omega⟩
    rw [h1]
    have : x.length = 0 := by omega
    rw [this]
  · refine ⟨ob, oc, some ⟨gb, 0, none⟩, cap, hc1, hv, lt_of_block h.base.tab, h.base.obs, by rw [h1, h4], fun i hi => ?_⟩
    have hir : i < rs.length := by omega
    obtain ⟨⟨la, lc, d1, d2, d3, -⟩, d5, -⟩ := h5 i rs[i] x[i] (List.getElem?_eq_getElem hir) (List.getElem?_eq_getElem hi)
    obtain ⟨ua, uc, e1, e2, e3, -, -⟩ := d5.shape
    obtain ⟨f1, f2⟩ := flatR_get rs i rs[i] (List.getElem?_eq_getElem hir)
    refine ⟨gb, la, lc, ua, uc, rfl, lt_of_block hcur, ?_, d2, ?_, e3, d3, fun h => (e2 h).1⟩
    · rw [h3.own.cellAt (i * 2) (by omega), f1, d1]
    · rw [h3.own.cellAt (i * 2 + 1) (by omega), f2, e1]
end
end Go.Proofs.Ytmiiolgbjicocaa
