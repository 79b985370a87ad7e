/- New sets, as many as there are variables. -/
import Derived.Test.YtmiiolgbjicocaaFillW
import Derived.Deep.AppendLies
namespace Go.Proofs.Ytmiiolgbjicocaa
open Go.RowKit
def ptrV (b : Nat) : Value := .pointer (some ⟨b, 0, none⟩)
def set0 : Obj := .cells #[.slice none 0 0] 108
structure NewI (lo sb : Nat) (K : Int) (g : GramD) (k1 k2 : Nat) (kx ky : Nat) (x y x' y' : Option Addr) (cx cy cx' cy' : Nat) (fs ds : List Nat) (wr : World) : Prop where
  lf : fs.length = k1
  ld : ds.length = k2
  blk : wr.heap[sb]? = some (.cells #[.int .i64 K, .slice x kx cx, .slice y ky cy, g.tv, g.vv, g.rv] 80 (0, 0))
  rx : wr.ownsRow lo 81 1 (.slice x' k1 cx') k1 (fs.map ptrV)
  ry : wr.ownsRow lo 81 1 (.slice y' k2 cy') k2 (ds.map ptrV)
  ap : ∀ b, (Value.slice x' k1 cx').ownBlock = some b → (Value.slice y' k2 cy').ownBlock ≠ some b
  set : ∀ b ∈ fs ++ ds, lo ≤ b ∧ wr.heap[b]? = some set0
  nd : (fs ++ ds).Nodup
  los : lo ≤ wr.heap.size
theorem rowg_lt {w : World} {base : Nat} {e : TypeId} {size : Nat} {v : Value} {n : Nat} {xs : List Value} (h : w.ownsRow base e size v n xs) {g : Nat} (hg : v.ownBlock = some g) : base ≤ g ∧ g < w.heap.size ∧ ∃ cs, w.heap[g]? = some (.cells cs e (0, 0)) := by
  obtain ⟨h1, h2⟩ := h
  rcases h2 with ⟨rfl, _⟩ | ⟨g', cap, cur, rfl, hg', hh, r⟩
  · simp [Value.ownBlock] at hg
  · simp [Value.ownBlock] at hg
    subst hg
    exact ⟨hg', lt_of_block hh, _, hh⟩
theorem rowg_keep {w w' : World} {base : Nat} {e : TypeId} {size : Nat} {v : Value} {n : Nat} {xs : List Value} (h : w.ownsRow base e size v n xs) (hk : ∀ g, v.ownBlock = some g → w'.heap[g]? = w.heap[g]?) : w'.ownsRow base e size v n xs := by
  obtain ⟨h1, h2⟩ := h
  refine ⟨h1, ?_⟩
  rcases h2 with h2 | ⟨g, cap, cur, rfl, hg, hh, r⟩
  · exact .inl h2
  · exact .inr ⟨g, cap, cur, rfl, hg, by rw [hk g rfl]; exact hh, r⟩
theorem not_ty {w : World} {base : Nat} {e t : TypeId} {size : Nat} {v : Value} {n : Nat} {xs : List Value} (h : w.ownsRow base e size v n xs) {b : Nat} {cs : Array Value} (hb : w.heap[b]? = some (.cells cs t (0, 0))) (he : e ≠ t) : v.ownBlock ≠ some b := fun e1 => by
  obtain ⟨_, _, cs', h2⟩ := rowg_lt h e1
  rw [hb] at h2
  injection h2 with h2
  injection h2 with _ h3
  exact he h3.symm
section
variable {lo sb : Nat} {K : Int} {g : GramD} {k1 k2 kx ky : Nat} {x y x' y' : Option Addr} {cx cy cx' cy' : Nat} {fs ds : List Nat} {W0 w1 w3 : World}
/-- A block, and the row, behind an append to the first one. -/
theorem NewI.app1 (h : NewI lo sb K g k1 k2 kx ky x y x' y' cx cy cx' cy' fs ds W0) (h1 : w1 = W0.alloc set0) {o : Obj} (hgr : (w1.alloc o).grownBy w3 (Value.slice x' k1 cx').ownBlock) {gx cap : Nat}
    (hrow : w3.ownsRow lo 81 1 (.slice (some ⟨gx, 0, none⟩) (k1 + 1) cap) (k1 + 1) (fs.map ptrV ++ [ptrV W0.heap.size])) (hat : (Value.slice x' k1 cx').ownBlock = some gx ∨ gx = w1.heap.size + 1) :
    NewI lo sb K g (k1 + 1) k2 kx ky x y (some ⟨gx, 0, none⟩) y' cx cy cap cy' (fs ++ [W0.heap.size]) ds w3 ∧ W0.heap.size < w3.heap.size := by
  subst h1
  have hs := hgr.size
  simp only [World.size_alloc] at hs hat
  have keep : ∀ {b : Nat} {u : Obj}, W0.heap[b]? = some u → (Value.slice x' k1 cx').ownBlock ≠ some b → w3.heap[b]? = some u := fun {b u} hb hne =>
    (hgr.block b (by have := lt_of_block hb; simp; omega) (fun e => hne e.symm)).trans (heap_alloc_keep (heap_alloc_keep hb))
  have hnew : w3.heap[W0.heap.size]? = some set0 := (hgr.block _ (by simp only [World.size_alloc]; omega) (fun e => by have := (rowg_lt h.rx e.symm).2.1; omega)).trans (heap_alloc_keep (heap_alloc_this _ _))
  have hsl : ∀ b ∈ fs ++ ds, b < W0.heap.size := fun b hb => lt_of_block (h.set b hb).2
  refine ⟨⟨by simp [h.lf], h.ld, keep h.blk (not_ty h.rx h.blk (by decide)), by rw [List.map_append]; exact hrow, rowg_keep h.ry (fun b hb => ?_), fun b hb hy => ?_, fun b hb => ?_, ?_, by have := h.los; omega⟩, by omega⟩
  · obtain ⟨_, h2, cs, h3⟩ := rowg_lt h.ry hb
    rw [keep h3 (fun e => h.ap b e hb), h3]
  · have e1 : gx = b := by simpa [Value.ownBlock] using hb
    subst e1
    rcases hat with h2 | h2
    · exact h.ap gx h2 hy
    · have := (rowg_lt h.ry hy).2.1; omega
  · have hb2 : b ∈ fs ++ ds ∨ b = W0.heap.size := by
      rcases List.mem_append.1 hb with h2 | h2
      · rcases List.mem_append.1 h2 with h2 | h2
        · exact .inl (List.mem_append_left _ h2)
        · exact .inr (List.mem_singleton.1 h2)
      · exact .inl (List.mem_append_right _ h2)
    rcases hb2 with h2 | rfl
    · exact ⟨(h.set b h2).1, keep (h.set b h2).2 (not_ty h.rx (h.set b h2).2 (by decide))⟩
    · exact ⟨h.los, hnew⟩
  · rw [List.append_assoc, List.nodup_append] at *
    have h5 := List.nodup_append.1 h.nd
    refine ⟨h5.1, ?_, ?_⟩
    · rw [List.singleton_append, List.nodup_cons]
      exact ⟨fun hm => by have := hsl _ (List.mem_append_right _ hm); omega, h5.2.1⟩
    · intro a ha b hb
      rcases List.mem_append.1 hb with h6 | h6
      · obtain rfl := List.mem_singleton.1 h6
        have := hsl _ (List.mem_append_left _ ha)
        omega
      · exact h5.2.2 a ha b h6
/-- And to the other one. -/
theorem NewI.swap (h : NewI lo sb K g k1 k2 kx ky x y x' y' cx cy cx' cy' fs ds W0) : (ds ++ fs).Nodup ∧ (∀ b, (Value.slice y' k2 cy').ownBlock = some b → (Value.slice x' k1 cx').ownBlock ≠ some b) := by
  refine ⟨?_, fun b h1 h2 => h.ap b h2 h1⟩
  have h5 := List.nodup_append.1 h.nd
  rw [List.nodup_append]
  exact ⟨h5.2.1, h5.1, fun a ha b hb e => h5.2.2 b hb a ha e.symm⟩
theorem NewI.app2 (h : NewI lo sb K g k1 k2 kx ky x y x' y' cx cy cx' cy' fs ds W0) (h1 : w1 = W0.alloc set0) {o : Obj} (hgr : (w1.alloc o).grownBy w3 (Value.slice y' k2 cy').ownBlock) {gx cap : Nat}
    (hrow : w3.ownsRow lo 81 1 (.slice (some ⟨gx, 0, none⟩) (k2 + 1) cap) (k2 + 1) (ds.map ptrV ++ [ptrV W0.heap.size])) (hat : (Value.slice y' k2 cy').ownBlock = some gx ∨ gx = w1.heap.size + 1) :
    NewI lo sb K g k1 (k2 + 1) kx ky x y x' (some ⟨gx, 0, none⟩) cx cy cx' cap fs (ds ++ [W0.heap.size]) w3 ∧ W0.heap.size < w3.heap.size := by
  subst h1
  have hs := hgr.size
  simp only [World.size_alloc] at hs hat
  have keep : ∀ {b : Nat} {u : Obj}, W0.heap[b]? = some u → (Value.slice y' k2 cy').ownBlock ≠ some b → w3.heap[b]? = some u := fun {b u} hb hne =>
    (hgr.block b (by have := lt_of_block hb; simp; omega) (fun e => hne e.symm)).trans (heap_alloc_keep (heap_alloc_keep hb))
  have hnew : w3.heap[W0.heap.size]? = some set0 := (hgr.block _ (by simp only [World.size_alloc]; omega) (fun e => by have := (rowg_lt h.ry e.symm).2.1; omega)).trans (heap_alloc_keep (heap_alloc_this _ _))
  have hsl : ∀ b ∈ fs ++ ds, b < W0.heap.size := fun b hb => lt_of_block (h.set b hb).2
  refine ⟨⟨h.lf, by simp [h.ld], keep h.blk (not_ty h.ry h.blk (by decide)), rowg_keep h.rx (fun b hb => ?_), by rw [List.map_append]; exact hrow, fun b hb hy => ?_, fun b hb => ?_, ?_, by have := h.los; omega⟩, by omega⟩
  · obtain ⟨_, h2, cs, h3⟩ := rowg_lt h.rx hb
    rw [keep h3 (fun e => h.ap b hb e), h3]
  · have e1 : gx = b := by simpa [Value.ownBlock] using hy
    subst e1
    rcases hat with h2 | h2
    · exact h.ap gx hb h2
    · have := (rowg_lt h.rx hb).2.1; omega
  · have hb2 : b ∈ fs ++ ds ∨ b = W0.heap.size := by
      rw [← List.append_assoc] at hb
      rcases List.mem_append.1 hb with h2 | h2
      · exact .inl h2
      · exact .inr (List.mem_singleton.1 h2)
    rcases hb2 with h2 | rfl
    · exact ⟨(h.set b h2).1, keep (h.set b h2).2 (not_ty h.ry (h.set b h2).2 (by decide))⟩
    · exact ⟨h.los, hnew⟩
  · rw [← List.append_assoc, List.nodup_append]
    refine ⟨h.nd, by simp, fun a ha b hb => ?_⟩
    obtain rfl := List.mem_singleton.1 hb
    have := hsl _ ha
    omega
/-- Both fields, stored. -/
theorem NewI.put (h : NewI lo sb K g k1 k2 kx ky x y x' y' cx cy cx' cy' fs ds W0) : NewI lo sb K g k1 k2 k1 k2 x' y' x' y' cx' cy' cx' cy' fs ds ((W0.setCell ⟨sb, 1, none⟩ (.slice x' k1 cx')).setCell ⟨sb, 2, none⟩ (.slice y' k2 cy')) ∧ Kept (· = sb) W0 ((W0.setCell ⟨sb, 1, none⟩ (.slice x' k1 cx')).setCell ⟨sb, 2, none⟩ (.slice y' k2 cy')) := by
  have hk : Kept (· = sb) W0 ((W0.setCell ⟨sb, 1, none⟩ (.slice x' k1 cx')).setCell ⟨sb, 2, none⟩ (.slice y' k2 cy')) := ((Kept.refl (· = sb) W0).setCell (p := ⟨sb, 1, none⟩) (.inl rfl) _).setCell (p := ⟨sb, 2, none⟩) (.inl rfl) _
  have hb1 := heap_setCell_known (off := 2) (u := .slice y' k2 cy') (heap_setCell_known (off := 1) (u := .slice x' k1 cx') h.blk)
  refine ⟨⟨h.lf, h.ld, by simpa using hb1, rowg_keep h.rx (fun b hb => hk.block b (rowg_lt h.rx hb).2.1 (fun e => ?_)), rowg_keep h.ry (fun b hb => hk.block b (rowg_lt h.ry hb).2.1 (fun e => ?_)), h.ap, fun b hb => ⟨(h.set b hb).1, hk.get (h.set b hb).2 (fun e => ?_)⟩, h.nd, Nat.le_trans h.los hk.size⟩, hk⟩
  · exact not_ty h.rx h.blk (by decide) (by rw [hb, show b = sb from e])
  · exact not_ty h.ry h.blk (by decide) (by rw [hb, show b = sb from e])
  · have e : b = sb := e
    have h2 := (h.set b hb).2
    rw [e, h.blk] at h2
    injection h2 with h2
    injection h2 with _ h3
    exact absurd h3 (by decide)
end
end Go.Proofs.Ytmiiolgbjicocaa
