/- All nodes of a tree, as walk goes through them: the iterator. -/
import Derived.Test.YtfiafmhnmafnbaaValid
import Derived.RangeFuncBox
import Derived.RangeFuncLeaves
import Derived.RangeFuncBound
import Derived.Shelf.Abstract
import Derived.WalkKit
import Derived.OwnWalkIn
import Derived.TacticsInMore
import Derived.LoopNIn
import Derived.LoopIn
import Derived.Maps.AppendAt
namespace Go.Proofs.Ytfiafmhnmafnbaa
open Go.RowKit Go.Shelf
attribute [local go_sem] Oper.semAt_some
theorem room_of_none {F : Fence} (hd : F.depth = none) (k : Nat) : F.room k := fun d h => by rw [hd] at h; cases h
theorem roundIn_any {F : Fence} (hd : F.depth = none) {m m' : Nat} {P : Program} {l : Nat} {f : FuncId} {tmps : Array Value} {assign body : Code} {w : World} {R : Ending → World → Prop}
    (h : RoundIn F m P l f tmps assign body w R) : RoundIn F m' P l f tmps assign body w R := ⟨h.1, fun c cs _ => h.2 c cs (room_of_none hd _)⟩
theorem yieldAt_any {F : Fence} (hd : F.depth = none) {m : Nat} (m' : Nat) {P : Program} {l : Nat} {args : Array Value} {W : World} {R : Ending → World → Prop} (h : YieldAt F m P l args W R) : YieldAt F m' P l args W R := by
  obtain ⟨fn, tmps, assign, body, hy, hR⟩ := h
  exact ⟨fn, tmps, assign, body, hy, roundIn_any hd hR⟩
mutual
/-- A tree's nodes: block, symbol, rule. -/
def _root_.Go.MT.nodes : MT → List (Nat × Int × Int) | .node b _ s r kids => (b, s, r) :: MT.nodesL kids
def _root_.Go.MT.nodesL : List MT → List (Nat × Int × Int) | [] => [] | k :: ks => k.nodes ++ MT.nodesL ks
end
theorem nodesL_flat (ks : List MT) : MT.nodesL ks = ks.flatMap MT.nodes := by
  induction ks with
  | nil => rfl
  | cons k ks ih => simp [MT.nodesL, ih]
/-- A node that lies in a world. -/
structure ND (w0 : World) where
  val : Nat × Int × Int
  lies : ∃ v, w0.heap[val.1]? = some (.cells #[.int .i64 val.2.1, .int .i64 val.2.2, v] 45 (0, 0))
def ND.enc {w0 : World} (x : ND w0) : Value := .pointer (some ⟨x.val.1, 0, none⟩)
theorem nodes_lie {w0 : World} {lo : Nat} {t : MT} (h : MT.At w0 lo t) : ∀ x ∈ t.nodes, ∃ v, w0.heap[x.1]? = some (.cells #[.int .i64 x.2.1, .int .i64 x.2.2, v] 45 (0, 0)) := by
  induction t using MT.ind with | h b v s r kids ih => ?_
  intro x hx
  rw [MT.nodes, nodesL_flat] at hx
  rcases List.mem_cons.1 hx with rfl | hx
  · exact ⟨v, h.2.1⟩
  · obtain ⟨k, hk, hx⟩ := List.mem_flatMap.1 hx
    exact ih k hk (h.kid hk) x hx
theorem nds_of {w0 : World} : ∀ {xs : List (Nat × Int × Int)}, (∀ x ∈ xs, ∃ v, w0.heap[x.1]? = some (.cells #[.int .i64 x.2.1, .int .i64 x.2.2, v] 45 (0, 0))) → ∃ ys : List (ND w0), ys.map ND.val = xs
  | [], _ => ⟨[], rfl⟩
  | x :: xs, h => by
    obtain ⟨ys, hy⟩ := nds_of (xs := xs) (fun y hy => h y (by simp [hy]))
    exact ⟨⟨x, h x (by simp)⟩ :: ys, by rw [List.map_cons, hy]⟩
set_option maxRecDepth 100000 in
set_option maxHeartbeats 2000000 in
theorem walk_in (F : Fence) (hd : F.depth = none) (h54 : F.fn 54) (hro : F.round = none) (l N : Nat) {w0 : World} {lo : Nat} (J Jx : List (ND w0) → World → Prop)
    (hY : ∀ m pre x W, J pre W → pre.length < N → YieldAt F m Try.prog l #[x.enc] W fun e W' =>
      (e = .returned (.bool true) ∧ J (pre ++ [x]) W' ∧ Below w0.heap.size W W') ∨ (e = .returned (.bool false) ∧ Jx (pre ++ [x]) W')) (t : MT) (ht : MT.At w0 lo t) (hs : t.pt.size ≤ 1000000) :
    ∀ (n : Nat) (pre ys : List (ND w0)) (W : World), ys.map ND.val = t.nodes → Below w0.heap.size w0 W → J pre W → pre.length + ys.length ≤ N →
      CallsIn F n Try.prog 54 #[t.ptr, .func (.yield l) #[] #[]] W fun e W' =>
        (e = .returned (.bool true) ∧ J (pre ++ ys) W' ∧ Below w0.heap.size W W') ∨ (e = .returned (.bool false) ∧ ∃ q, q <+: ys ∧ Jx (pre ++ q) W') := by
  induction t using MT.ind with | h b v s r kids ih => ?_
  intro n pre ys W hys hb hJ hN
  obtain ⟨a, cap, rfl, hn, hcap, hmax, hc⟩ := ht.reads
  rw [MT.pt_node, PT.size] at hs
  have hkl : kids.length ≤ 1000000 := by have := PT.len_le (kids.map MT.pt); simp at this; omega
  rw [MT.nodes] at hys
  obtain ⟨y, ys, rfl⟩ : ∃ y ys', ys = y :: ys' := by
    cases ys with
    | nil => simp at hys
    | cons y ys => exact ⟨y, ys, rfl⟩
  rw [List.map_cons] at hys
  have hy1 : y.val = (b, s, r) := (List.cons.inj hys).1
  have hy2 : ys.map ND.val = MT.nodesL kids := (List.cons.inj hys).2
  have hbl := lt_of_block ht.2.1
  have hdd : ∀ k : Nat, (F.depth.isSome = true → 1 ≤ k) := fun k h => by rw [hd] at h; cases h
  have hR0 := hY (n - 1) pre y W hJ (by simp at hN; omega)
  have henc : y.enc = .pointer (some ⟨b, 0, none⟩) := by unfold ND.enc; rw [hy1]
  rw [henc] at hR0
  obtain ⟨fn, tmps, assign, body, hy, hR⟩ := hR0
  have HB := Lib.hid hb
  have HC := Lib.hid hc
  have HT := Lib.hid ht
  have IH : Hid (∀ k (hk : k < kids.length) (pre zs : List (ND w0)) (W : World), zs.map ND.val = kids[k].nodes → Below w0.heap.size w0 W → J pre W → pre.length + zs.length ≤ N →
      CallsIn F (n - 1) Try.prog 54 #[kids[k].ptr, .func (.yield l) #[] #[]] W fun e W' =>
        (e = .returned (.bool true) ∧ J (pre ++ zs) W' ∧ Below w0.heap.size W W') ∨ (e = .returned (.bool false) ∧ ∃ q, q <+: zs ∧ Jx (pre ++ q) W')) :=
    Lib.hid fun k hk pre zs W h1 h2 h3 h4 => ih _ (List.getElem_mem hk) (HT.out.kid (List.getElem_mem hk)) (by have := PT.size_le (List.mem_map_of_mem (f := MT.pt) (List.getElem_mem hk)); omega) (n - 1) pre zs W h1 h2 h3 h4
  have hJH := Lib.hid hJ
  clear ih hb hc hn hY hJ hys henc
  dsimp only [MT.ptr, MT.blk]
  refine callsIn_of_wp Try.func54 rfl h54 ?_ hro
  simp only [Try.ntmps54, List.size_toArray, List.length_cons, List.length_nil, Nat.reduceAdd, Nat.reduceSub, Array.replicate_succ, Array.replicate_zero, List.push_toArray, List.append_toArray, List.nil_append, List.cons_append]
  gi_wp2_with (first
    | ((try refine ⟨hdd _, ?_⟩); refine hR.mono ?_; clear hR; rintro e W1 (⟨rfl, hJ1, hb1⟩ | ⟨rfl, hx1⟩)
       all_goals try (have g2 : W1.cell? ⟨b, 2, none⟩ = some (.slice a kids.length cap) := ((HB.out.trans hb1).cell (p := ⟨b, 2, none⟩) hbl).trans (by have := cell_of_block (off := 2) HT.out.2.1; simpa using this))))
  · gi_loopw [16] (fun i wr => ∃ k : Nat, k ≤ kids.length ∧ i = .int .i64 k ∧ Hid (∃ zs rest, ys = zs ++ rest ∧ rest.map ND.val = MT.nodesL (kids.drop k) ∧ J (pre ++ [y] ++ zs) wr ∧ Below w0.heap.size W wr)) (fun i _ => kids.length - (intOf i).toNat)
    case atStart => exact ⟨0, by omega, rfl, [], ys, rfl, hy2, by simpa using hJ1, hb1⟩
    case round =>
      clear hy g2 hJ1 hb1
      obtain ⟨k, hk, rfl, hh⟩ := hrel
      obtain ⟨zs, rest, hsp, hrs, hJs, hbs⟩ := hh.out
      by_cases hlt : k < kids.length
      · have hki : (k : Int) < kids.length := by omega
        obtain ⟨g, rfl, hcp⟩ := HC.out k hlt
        have hcp2 : wr.cell? ⟨g, k, none⟩ = some kids[k].ptr := ((HB.out.trans hbs).cell (p := ⟨g, k, none⟩) (block_of_cell hcp)).trans hcp
        rw [List.drop_eq_getElem_cons hlt, MT.nodesL] at hrs
        obtain ⟨us, vs, rfl, hus, hvs⟩ := List.map_eq_append_iff.1 hrs
        have hlen : (pre ++ [y] ++ zs).length + us.length ≤ N := by
          rw [hsp] at hN
          simp at hN ⊢
          omega
        have IHk := Lib.hid (IH.out k hlt (pre ++ [y] ++ zs) us wr hus (HB.out.trans hbs) hJs hlen)
        have HV := Lib.hid (And.intro hsp (And.intro hvs hbs))
        dsimp only [MT.ptr] at hcp2 IHk
        generalize (kids[k]'hlt).blk = kb at hcp2 IHk
        clear hh hsp hrs hJs hbs hcp hus hvs
        gi_wp2_with ((try refine ⟨hdd _, ?_⟩); gi_at_call 54; refine IHk.out.mono ?_; clear IHk; rintro e W2 (⟨rfl, hJ2, hb2⟩ | ⟨rfl, q, hq, hx2⟩))
        · go_roundw
          case rel => exact ⟨k + 1, by omega, by go_num, zs ++ us, vs, by rw [HV.out.1, List.append_assoc], HV.out.2.1, by rw [← List.append_assoc]; exact hJ2, HV.out.2.2.trans hb2⟩
          case measure => simp [intOf]; omega
        · go_ret
          obtain ⟨u, hu⟩ := hq
          exact .inr ⟨rfl, y :: (zs ++ q), ⟨u ++ vs, by rw [HV.out.1, ← hu]; simp⟩, by simpa using hx2⟩
      · have hki : ¬ (k : Int) < kids.length := by omega
        have hr : rest = [] := by
          rw [List.drop_eq_nil_of_le (by omega)] at hrs
          simpa [MT.nodesL] using hrs
        subst hr
        rw [List.append_nil] at hsp
        subst hsp
        have HV := Lib.hid (And.intro hJs hbs)
        clear hh hJs hbs hrs
        gi_wp2
        go_ret
        exact .inl ⟨rfl, by simpa using HV.out.1, HV.out.2⟩
  · go_ret
    exact .inr ⟨rfl, [y], ⟨ys, rfl⟩, hx1⟩
set_option maxHeartbeats 1000000 in
theorem all1_in (F : Fence) (hd : F.depth = none) (n : Nat) (h53 : F.fn 53) (h54 : F.fn 54) (hro : F.round = none) (l Bt : Nat) {w0 : World} {lo : Nat} (t : MT) (ht : MT.At w0 lo t) (hs : t.pt.size ≤ 1000000) (ys : List (ND w0)) (hys : ys.map ND.val = t.nodes) (J Jx : List (ND w0) → World → Prop)
    (hY : ∀ pre x W, J pre W → pre.length < ys.length → YieldAt F (n - 1) Try.prog l #[x.enc] W fun e W' =>
      (e = .returned (.bool true) ∧ J (pre ++ [x]) W' ∧ Below w0.heap.size W W') ∨ (e = .returned (.bool false) ∧ Jx (pre ++ [x]) W'))
    (W : World) (hb : Below w0.heap.size w0 W) (hBt : W.cell? ⟨Bt, 0, none⟩ = some t.ptr) (h0 : J [] W) :
    CallsIn F n Try.prog 53 #[.func (.yield l) #[] #[], .pointer (some ⟨Bt, 0, none⟩)] W fun e W' => (∃ v, e = .returned v) ∧
      ((∃ zs, zs = ys ∧ J zs W') ∨ (∃ pre, pre <+: ys ∧ Jx pre W')) := by
  have hdd : ∀ k : Nat, (F.depth.isSome = true → 1 ≤ k) := fun k h => by rw [hd] at h; cases h
  have hp := walk_in F hd h54 hro l ys.length J Jx (fun m pre x W hj hl => yieldAt_any hd m (hY pre x W hj hl)) t ht hs (n - 1) [] ys W hys hb h0 (by simp)
  dsimp only [MT.ptr] at hp hBt
  generalize t.blk = tb at hp hBt
  clear hY ht hys
  refine callsIn_of_wp Try.func53 rfl h53 ?_ hro
  simp only [Try.ntmps53, List.size_toArray, List.length_cons, List.length_nil, Nat.reduceAdd, Nat.reduceSub, Array.replicate_succ, Array.replicate_zero, List.push_toArray, List.append_toArray, List.nil_append, List.cons_append]
  gi_wp2_with ((try refine ⟨hdd _, ?_⟩); gi_at_call 54; refine hp.mono ?_; clear hp; rintro e W1 (⟨rfl, hJ1, _⟩ | ⟨rfl, q, hq, hx⟩))
  · go_end0
    exact ⟨⟨_, rfl⟩, .inl ⟨_, rfl, by simpa using hJ1⟩⟩
  · go_end0
    exact ⟨⟨_, rfl⟩, .inr ⟨q, hq, by simpa using hx⟩⟩
set_option maxHeartbeats 1000000 in
theorem all_in (F : Fence) (n : Nat) (h38 : F.fn 38) (hro : F.round = none) (p0 : Option Addr) (w : World) :
    CallsIn F n Try.prog 38 #[.pointer p0] w fun e w' => e = .returned (.func (.func 53) #[] #[.pointer (some ⟨w.heap.size, 0, none⟩)]) ∧ w' = w.alloc (.cells #[.pointer p0] 29) := by
  refine callsIn_of_wp Try.func38 rfl h38 ?_ hro
  simp only [Try.ntmps38, List.size_toArray, List.length_cons, List.length_nil, Nat.reduceAdd, Nat.reduceSub, Array.replicate_succ, Array.replicate_zero, List.push_toArray, List.append_toArray, List.nil_append, List.cons_append]
  gi_wp2
  go_ret
  exact ⟨rfl, rfl⟩
theorem all_stops (F : Fence) (hd : F.depth = none) (n : Nat) (h53 : F.fn 53) (h54 : F.fn 54) (hro : F.round = none) (Bt : Nat) {w0 : World} {lo : Nat} (t : MT) (ht : MT.At w0 lo t) (hs : t.pt.size ≤ 1000000) (ys : List (ND w0)) (hys : ys.map ND.val = t.nodes) (w : World) (hBt : Bt < w.heap.size) (hb : Below w0.heap.size w0 w)
    (hc : w.cell? ⟨Bt, 0, none⟩ = some t.ptr) :
    SeqStopsK F n Try.prog 53 #[.pointer (some ⟨Bt, 0, none⟩)] (fun x : ND w0 => #[x.enc]) (Below w0.heap.size) (fun zs => zs = ys) (fun pre => pre <+: ys) ys.length w := fun l J Jx W hW _ _ hY h0 =>
  all1_in F hd n h53 h54 hro l Bt t ht hs ys hys J Jx hY W (hb.trans (hW.mono hb.size)) ((hW.cell (p := ⟨Bt, 0, none⟩) hBt).trans hc) h0
end Go.Proofs.Ytfiafmhnmafnbaa
