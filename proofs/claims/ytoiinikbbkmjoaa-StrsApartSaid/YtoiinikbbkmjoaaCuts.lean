/- Beginnings of words, words behind one another, copies of words. -/
import Derived.Test.YtoiinikbbkmjoaaCmp
import Derived.Test.YtoiinikbbkmjoaaAppend
import Derived.Lib.SliceRun
namespace Go.Proofs.Ytoiinikbbkmjoaa
open Go.RowKit
theorem info3 : (Try.prog.info? 3).map (fun i => (i.zero, i.size, i.bytes)) = some (some (.int .i64 0), 1, 8) := by kernel_rfl
def WPost (xs : List Int) (w : World) (e : Ending) (w' : World) : Prop := ∃ v, e = .returned v ∧ Own w' w.heap.size v xs ∧ Below w.heap.size w w'
def cutL (xs : List Int) (k : Int) : List Int := xs.take k.toNat
def joinL (xs ys : List Int) (k : Int) : List Int := (xs ++ ys).take k.toNat
theorem slice_h (W : World) (a : Option Addr) (len cap c : Nat) (h : c ≤ cap) :
    (Instr.slice 22 (.slice a len cap) none (some (.int .i64 (c : Int))) none).run Try.prog W = .ok (.slice a c cap) W := by
  have hz : (Go.sizeOf 3).run Try.prog W = .ok 1 W := rfl
  have he : Try.prog.elem 22 = 3 := by simp [Program.elem, Try.underlying22]
  rw [run_slice_h W 22 _ _ _ (by simp [Program.elem, Try.underlying22]) .i64 _ (by omega) (by omega), he, hz]
  simp [Result.andThen, sliced, Addr.add]
theorem own_mono {w : World} {b b' : Nat} {v : Value} {xs : List Int} (h : Own w b v xs) (hb : b' ≤ b) : Own w b' v xs := by
  obtain ⟨h1, h2⟩ := h
  refine ⟨h1, ?_⟩
  rcases h2 with h2 | ⟨g, cap, cur, rfl, hg, r⟩
  · exact .inl h2
  · exact .inr ⟨g, cap, cur, rfl, by omega, r⟩
theorem cut_num (k : Int) (n : Nat) : ∃ m : Nat, m ≤ n ∧ ∀ xs : List Int, xs.length = n → cutL xs k = xs.take m := by
  by_cases h : k.toNat ≤ n
  · exact ⟨k.toNat, h, fun xs hx => rfl⟩
  · exact ⟨n, Nat.le_refl _, fun xs hx => by unfold cutL; rw [List.take_of_length_le (by omega), List.take_of_length_le (by omega)]⟩
set_option maxHeartbeats 1000000 in
theorem cut_any {B : Nat} {a : Option Addr} {cap : Nat} {xs : List Int} {w : World} (h : Ints w B a xs) (hn : a = none → cap = 0) (hl : xs.length ≤ 1000000) (hc : xs.length ≤ cap) (k : Int) :
    Calls Try.prog 12 #[.slice a xs.length cap, .int .i64 k] w (WPost (cutL xs k) w) := by
  have H := Lib.hid h
  clear h
  obtain ⟨m, hm, hk⟩ : ∃ m : Nat, m ≤ xs.length ∧ ((k < 0 ∧ m = 0) ∨ (0 ≤ k ∧ k ≤ xs.length ∧ (m : Int) = k) ∨ ((xs.length : Int) < k ∧ m = xs.length)) := by
    by_cases h1 : k < 0
    · exact ⟨0, by omega, .inl ⟨h1, rfl⟩⟩
    · by_cases h2 : k ≤ xs.length
      · exact ⟨k.toNat, by omega, .inr (.inl ⟨by omega, h2, by omega⟩)⟩
      · exact ⟨xs.length, by omega, .inr (.inr ⟨by omega, rfl⟩)⟩
  have HE : Hid (cutL xs k = xs.take m) := Lib.hid (by
    unfold cutL
    rcases hk with ⟨h1, h2⟩ | ⟨h1, h2, h3⟩ | ⟨h1, h2⟩
    · rw [h2, show k.toNat = 0 by omega]
    · rw [show k.toNat = m by omega]
    · rw [h2, List.take_of_length_le (by omega), List.take_of_length_le (by omega)])
  have hs := fun W => slice_h W a xs.length cap m (by omega)
  have htl : (xs.take m).length = m := by simp; omega
  have HT := Lib.hid htl
  have hcm : (m : Int) ≤ cap := by omega
  have hm0 : (0 : Int) ≤ m := by omega
  rcases hk with ⟨h1, h2⟩ | ⟨h1, h2, h3⟩ | ⟨h1, h2⟩
  · have g1 : ¬ (xs.length : Int) < k := by omega
    have g2 : ¬ 0 < k := by omega
    subst h2
    clear htl
    go_enter Try.func12, Try.ntmps12
    go_wp2_with (first
      | (at_builtin; (refine append_ints rfl (.const (.slice none 0 0)) (.tmp 12) 22 rfl Try.underlying22 info3 w.heap.size (.slice none 0 0) [] rfl (own_nil _ _) a _ 0 (xs.take 0) rfl (by simp) hn (src_take H.out.src 0) (by simp) (Nat.le_refl _) ?_); intro v' w1 hown hgrow))
    go_ret
    exact ⟨_, rfl, by rw [HE.out]; exact hown, below_grown (own_nil _ _) hgrow (Nat.le_refl _)⟩
  · subst h3
    have g1 : ¬ (xs.length : Int) < m := by omega
    by_cases g2 : 0 < (m : Int)
    · clear htl
      go_enter Try.func12, Try.ntmps12
      go_wp2_with (first
        | (at_builtin; (refine append_ints rfl (.const (.slice none 0 0)) (.tmp 12) 22 rfl Try.underlying22 info3 w.heap.size (.slice none 0 0) [] rfl (own_nil _ _) a _ m (xs.take m) rfl HT.out.symm hn (src_take H.out.src m) (by rw [HT.out]; simp only [List.length_nil]; omega) (Nat.le_refl _) ?_); intro v' w1 hown hgrow))
      go_ret
      exact ⟨_, rfl, by rw [HE.out]; exact hown, below_grown (own_nil _ _) hgrow (Nat.le_refl _)⟩
    · have hm00 : m = 0 := by omega
      subst hm00
      clear htl
      go_enter Try.func12, Try.ntmps12
      go_wp2_with (first
        | (at_builtin; (refine append_ints rfl (.const (.slice none 0 0)) (.tmp 12) 22 rfl Try.underlying22 info3 w.heap.size (.slice none 0 0) [] rfl (own_nil _ _) a _ 0 (xs.take 0) rfl (by simp) hn (src_take H.out.src 0) (by simp) (Nat.le_refl _) ?_); intro v' w1 hown hgrow))
      go_ret
      have e : cutL xs 0 = xs.take 0 := HE.out
      exact ⟨_, rfl, by rw [e]; exact hown, below_grown (own_nil _ _) hgrow (Nat.le_refl _)⟩
  · subst h2
    clear htl
    by_cases g2 : 0 < (xs.length : Int)
    · go_enter Try.func12, Try.ntmps12
      go_wp2_with (first
        | (at_builtin; (refine append_ints rfl (.const (.slice none 0 0)) (.tmp 12) 22 rfl Try.underlying22 info3 w.heap.size (.slice none 0 0) [] rfl (own_nil _ _) a _ xs.length (xs.take xs.length) rfl HT.out.symm hn (src_take H.out.src xs.length) (by rw [HT.out]; simp only [List.length_nil]; omega) (Nat.le_refl _) ?_); intro v' w1 hown hgrow))
      go_ret
      exact ⟨_, rfl, by rw [HE.out]; exact hown, below_grown (own_nil _ _) hgrow (Nat.le_refl _)⟩
    · have hx0 : xs = [] := List.eq_nil_of_length_eq_zero (by omega)
      subst hx0
      simp only [List.length_nil] at *
      go_enter Try.func12, Try.ntmps12
      go_wp2_with (first
        | (at_builtin; (refine append_ints rfl (.const (.slice none 0 0)) (.tmp 12) 22 rfl Try.underlying22 info3 w.heap.size (.slice none 0 0) [] rfl (own_nil _ _) a _ 0 [] rfl (by simp) hn (fun i hi => by simp at hi) (by simp) (Nat.le_refl _) ?_); intro v' w1 hown hgrow))
      go_ret
      exact ⟨_, rfl, by rw [HE.out]; exact hown, below_grown (own_nil _ _) hgrow (Nat.le_refl _)⟩
theorem cut_at (xs : List Int) (k : Int) : ∃ m : Nat, m ≤ xs.length ∧ cutL xs k = xs.take m ∧ ∀ j : Nat, j < m ↔ (j < xs.length ∧ (j : Int) < k) := by
  by_cases h1 : k < 0
  · exact ⟨0, by omega, by unfold cutL; rw [show k.toNat = 0 by omega], fun j => by omega⟩
  · by_cases h2 : k ≤ xs.length
    · exact ⟨k.toNat, by omega, rfl, fun j => by omega⟩
    · exact ⟨xs.length, by omega, by unfold cutL; rw [List.take_of_length_le (by omega), List.take_of_length_le (by omega)], fun j => by omega⟩
set_option maxHeartbeats 1000000 in
theorem rcut_any {B : Nat} {a : Option Addr} {cap : Nat} {xs : List Int} {w : World} (h : Ints w B a xs) (hB : B ≤ w.heap.size) (hl : xs.length ≤ 1000000) (k : Int) :
    Calls Try.prog 13 #[.slice a xs.length cap, .int .i64 k] w (WPost (cutL xs k) w) := by
  have H := Lib.hid h
  clear h
  obtain ⟨m, hm, hE, hj⟩ := cut_at xs k
  have HE := Lib.hid hE
  have HJ := Lib.hid hj
  clear hE hj
  go_enter Try.func13, Try.ntmps13
  go_wp2
  go_loopw [5, 6] (fun v i wr => ∃ j : Nat, j ≤ m ∧ i = .int .i64 j ∧ Hid (Own wr w.heap.size v (xs.take j) ∧ Below w.heap.size w wr)) (fun _ i _ => m - (intOf i).toNat)
  case atStart => exact ⟨0, by omega, rfl, own_empty _ (Nat.le_refl _), (Below.refl _ _).alloc (Nat.le_refl _) _⟩
  case round =>
    obtain ⟨j, hj, rfl, hf⟩ := hrel
    by_cases hlt : j < m
    · obtain ⟨h1, h2⟩ := (HJ.out j).1 hlt
      have hki : (j : Int) < xs.length := by omega
      obtain ⟨b, off, rfl, hb, hc⟩ := (H.out.below (hf.out.2.mono hB)) j h1
      have HT := Lib.hid (show xs.take (j + 1) = xs.take j ++ [xs[j]] from List.take_succ_eq_append_getElem h1)
      have hsz := hf.out.2.size
      have hlk : (xs.take j).length ≤ 1000000 := by simp; omega
      generalize xs[j] = x at *
      go_wp2_with (first
        | (at_builtin; (refine append_ints rfl _ _ 22 rfl Try.underlying22 info3 w.heap.size _ (xs.take j) rfl (hf.out.1.alloc _) (some ⟨_, 0, none⟩) 1 1 [x] rfl rfl (fun h => by cases h) (src_one _ _ _) (by simp only [List.length_singleton]; omega) (by simp only [World.size_alloc]; omega) ?_); intro v' w1 hown hgrow))
      go_roundw
      case rel => exact ⟨j + 1, by omega, by go_num, by rw [HT.out]; exact hown, (hf.out.2.alloc hsz _).trans (below_grown (hf.out.1.alloc _) hgrow (by simp only [World.size_alloc]; omega))⟩
      case measure => simp [intOf]; omega
    · have hjm : j = m := by omega
      have hn := fun h => hlt ((HJ.out j).2 h)
      by_cases h1 : j < xs.length
      · have h2 : ¬ (j : Int) < k := fun h => hn ⟨h1, h⟩
        have hki : (j : Int) < xs.length := by omega
        clear hn
        go_wp2
        go_ret
        exact ⟨_, rfl, by rw [HE.out, ← hjm]; exact hf.out.1, hf.out.2⟩
      · have hki : ¬ (j : Int) < xs.length := by omega
        clear hn
        go_wp2
        go_ret
        exact ⟨_, rfl, by rw [HE.out, ← hjm]; exact hf.out.1, hf.out.2⟩
set_option maxHeartbeats 1000000 in
theorem clone_any {B : Nat} {a : Option Addr} {cap : Nat} {xs : List Int} {w : World} (h : Ints w B a xs) (hn : a = none → cap = 0) (hl : xs.length ≤ 1000000) :
    Calls Try.prog 33 #[.slice a xs.length cap] w (WPost xs w) := by
  cases a with
  | none =>
    have hx : xs = [] := by
      cases xs with
      | nil => rfl
      | cons y t => obtain ⟨_, _, h, _⟩ := h 0 (by simp); cases h
    subst hx
    clear h
    have q22 : ∀ (w : World) (a : Option Addr) (n c n' c' : Nat), (binOp .eql 22 (.slice a n c) (.slice none n' c')).run Try.prog w = .ok (.bool a.isNone) w := fun w a n c n' c' => Lib.run_eql_slice_nil w _ _ a n c n' c' Try.underlying22
    go_enter Try.func33, Try.ntmps33
    go_wp2
    go_ret
    exact ⟨_, rfl, own_nil _ _, Below.refl _ _⟩
  | some ad =>
    have HO := Lib.hid (own_empty w (base := w.heap.size) (Nat.le_refl _))
    have HS := Lib.hid ((h.below ((Below.refl B w).trans (Below.refl B w))).src)
    have HA : Hid (SrcI (w.alloc (.cells #[] 3)) (some ad) xs) := Lib.hid (fun i hi => by
      obtain ⟨b, off, ha, hb, hc⟩ := h i hi
      exact ⟨b, off, ha, cell_alloc_keep (block_of_cell hc) hc⟩)
    clear h
    have q22 : ∀ (w : World) (a : Option Addr) (n c n' c' : Nat), (binOp .eql 22 (.slice a n c) (.slice none n' c')).run Try.prog w = .ok (.bool a.isNone) w := fun w a n c n' c' => Lib.run_eql_slice_nil w _ _ a n c n' c' Try.underlying22
    go_enter Try.func33, Try.ntmps33
    go_wp2_with (first
      | (at_builtin; (refine append_ints rfl (.tmp 5) (.tmp 6) 22 rfl Try.underlying22 info3 w.heap.size (.slice (some ⟨w.heap.size, 0, none⟩) 0 0) [] rfl HO.out (some ad) cap xs.length xs rfl rfl hn HA.out (by simp only [List.length_nil]; omega) (by simp) ?_); intro v' w1 hown hgrow))
    go_ret
    exact ⟨_, rfl, hown, ((Below.refl _ _).alloc (Nat.le_refl _) _).trans (below_grown HO.out hgrow (by simp))⟩
theorem join_split (xs ys : List Int) (k : Int) : joinL xs ys k = cutL xs k ++ ys.take (k.toNat - (cutL xs k).length) := by
  unfold joinL cutL
  rw [List.take_append]
  congr 2
  simp only [List.length_take]
  omega
theorem join_at (xs ys : List Int) (k : Int) : ∃ n : Nat, n ≤ ys.length ∧ joinL xs ys k = cutL xs k ++ ys.take n ∧
    ((k - (cutL xs k).length < 0 ∧ n = 0) ∨ (0 ≤ k - (cutL xs k).length ∧ k - (cutL xs k).length ≤ ys.length ∧ (n : Int) = k - (cutL xs k).length) ∨ ((ys.length : Int) < k - (cutL xs k).length ∧ n = ys.length)) := by
  rw [join_split]
  have hc : (cutL xs k).length = min k.toNat xs.length := by unfold cutL; simp
  by_cases h1 : k - (cutL xs k).length < 0
  · exact ⟨0, by omega, by rw [show k.toNat - (cutL xs k).length = 0 by omega], .inl ⟨h1, rfl⟩⟩
  · by_cases h2 : k - (cutL xs k).length ≤ ys.length
    · exact ⟨k.toNat - (cutL xs k).length, by omega, rfl, .inr (.inl ⟨by omega, h2, by omega⟩)⟩
    · exact ⟨ys.length, by omega, by rw [List.take_of_length_le (by omega), List.take_of_length_le (by omega)], .inr (.inr ⟨by omega, rfl⟩)⟩
end Go.Proofs.Ytoiinikbbkmjoaa
