/- A weight as text. -/
import Derived.Test.YticdihfjnmjkmaaSame
import Derived.Test.YticdihfjnmjkmaaRd1
namespace Go.Proofs.Yticdihfjnmjkmaa
open Go.RowKit
def numT : List (List UInt8) := [[110, 97, 110], [105, 110, 102], [45, 105, 110, 102], [45, 48], [49, 46, 53], [45, 50]]
def numP (f : Nat) (s : List UInt8) : Bool := sameF f ((readL s).getD 0)
/-- The text of a weight. -/
def numS (f : Nat) : List UInt8 := (numT.find? (numP f)).getD [49]
theorem num_hit {f k : Nat} (hk : k < numT.length) (h : numP f numT[k] = true) (hj : ∀ j (h : j < numT.length), j < k → numP f numT[j] = false) : numS f = numT[k] := by
  have : numT.find? (numP f) = some numT[k] := List.find?_eq_some_iff_getElem.2 ⟨h, k, hk, rfl, fun j hj2 => by rw [hj j (by omega) hj2]; rfl⟩
  unfold numS
  rw [this]; rfl
theorem num_miss {f : Nat} (hj : ∀ j (h : j < numT.length), numP f numT[j] = false) : numS f = [49] := by
  have : numT.find? (numP f) = none := List.find?_eq_none.2 (fun x hx => by
    obtain ⟨i, hi, rfl⟩ := List.mem_iff_getElem.1 hx
    rw [hj i hi]; decide)
  unfold numS
  rw [this]; rfl
def NumPost (f : Nat) (w : World) (e : Ending) (w' : World) : Prop := e = .returned (.string (bOf (numS f))) ∧ Below w.heap.size w w'
set_option maxHeartbeats 1000000 in
theorem number_any (f : Nat) (w : World) : Calls Try.prog 41 #[.float .f64 f] w (NumPost f w) := by
  have HIT := Lib.hid (fun k => @num_hit f k)
  have MISS := Lib.hid (@num_miss f)
  have HRd := fun (k : Nat) (hk : k < numT.length) W => Lib.hid (rread_any (bOf numT[k]) (by
    have : numT[k].length ≤ 4 := (by decide : ∀ x ∈ numT, x.length ≤ 4) _ (List.getElem_mem hk)
    show (numT[k]).toArray.size ≤ _
    rw [List.size_toArray]; omega) W)
  have HSm := fun g W => Lib.hid (fsame_val f g W)
  have HC := Lib.hid (fun (wr : World) k (hk : k < numT.length) (hb : Below (w.heap.size + 1) (w.alloc (.cells #[.string { data := #[110, 97, 110] }, .string { data := #[105, 110, 102] }, .string { data := #[45, 105, 110, 102] }, .string { data := #[45, 48] }, .string { data := #[49, 46, 53] }, .string { data := #[45, 50] }] 9)) wr) => show wr.cell? ⟨w.heap.size, k, none⟩ = some (.string (bOf numT[k])) from by
    rw [below_cell hb (by show w.heap.size < w.heap.size + 1; omega), cell_of_block (heap_alloc_this _ _)]
    have : k = 0 ∨ k = 1 ∨ k = 2 ∨ k = 3 ∨ k = 4 ∨ k = 5 := by simp [numT] at hk; omega
    rcases this with rfl | rfl | rfl | rfl | rfl | rfl <;> rfl)
  have HBl := Lib.hid (fun (wr : World) (hb : Below (w.heap.size + 1) (w.alloc (.cells #[.string { data := #[110, 97, 110] }, .string { data := #[105, 110, 102] }, .string { data := #[45, 105, 110, 102] }, .string { data := #[45, 48] }, .string { data := #[49, 46, 53] }, .string { data := #[45, 50] }] 9)) wr) => show Below w.heap.size w wr from
    (below_one w _).trans (hb.mono (by omega)))
  unfold ReadPost at HRd
  have hlen : numT.length = 6 := rfl
  go_enter Try.func41, Try.ntmps41
  go_wp2
  go_loopw [9] (fun i wr => ∃ k : Nat, k ≤ 6 ∧ i = .int .i64 k ∧ Hid (Below (w.heap.size + 1) (w.alloc (.cells #[.string { data := #[110, 97, 110] }, .string { data := #[105, 110, 102] }, .string { data := #[45, 105, 110, 102] }, .string { data := #[45, 48] }, .string { data := #[49, 46, 53] }, .string { data := #[45, 50] }] 9)) wr ∧ ∀ j (h : j < numT.length), j < k → numP f numT[j] = false)) (fun i _ => 6 - (intOf i).toNat)
  case atStart => exact ⟨0, by omega, rfl, Lib.hid ⟨Below.refl _ _, fun j h h2 => by omega⟩⟩
  case round =>
    obtain ⟨k, hk, rfl, hr⟩ := hrel
    by_cases hlt : k < 6
    · have hki : (k : Int) < 6 := by omega
      have hkl : k < numT.length := by omega
      have hcl := HC.out wr k hkl hr.out.1
      have hsz := hr.out.1.size
      rw [World.size_alloc] at hsz
      have HR := HRd k hkl
      have HH := Lib.hid (HIT.out k hkl)
      have HN := Lib.hid (fun (h : numP f numT[k] = false) => show ∀ j (h : j < numT.length), j < k + 1 → numP f numT[j] = false from fun j hj h2 => by
        rcases Nat.lt_or_ge j k with h3 | h3
        · exact hr.out.2 j hj h3
        · obtain rfl : j = k := by omega
          exact h)
      have hP : Hid (numP f numT[k] = sameF f ((readL (bOf numT[k]).data.toList).getD 0)) := Lib.hid rfl
      generalize numP f numT[k] = b at *
      generalize (readL (bOf numT[k]).data.toList).getD 0 = v at *
      generalize (readL (bOf numT[k]).data.toList).isSome = o at *
      clear HIT MISS HRd HC
      generalize hy : numT[k] = y at *
      clear hy
      have hPo := hP.out
      cases b
      · have hs : sameF f v = false := hPo.symm
        have HS := fun W => HSm v W
        rw [hs] at HS
        have HN' := Lib.hid (HN.out (by trivial))
        clear hs hPo hP HH HN HSm
        generalize bOf y = Y at *
        go_wp2_with (first
          | (go_at_call 18; refine (HS _).out.mono ?_; rintro e w2 ⟨rfl, rfl⟩)
          | (go_at_call 42; refine (HR _).out.mono ?_; rintro e w1 ⟨rfl, hb⟩; have H1 := Lib.hid hb; clear hb))
        go_roundw
        case rel => exact ⟨k + 1, by omega, by go_num, Lib.hid ⟨hr.out.1.trans (H1.out.mono hsz), HN'.out⟩⟩
        case measure => simp [intOf]; omega
      · have hs : sameF f v = true := hPo.symm
        have HS := fun W => HSm v W
        rw [hs] at HS
        have HF := Lib.hid (HH.out (by trivial) hr.out.2)
        clear hs hPo hP HH HN HSm
        have HE : Hid (∀ w', Below w.heap.size w w' → NumPost f w (.returned (.string (bOf y))) w') := Lib.hid (fun w' h => ⟨by rw [HF.out], h⟩)
        clear HF
        generalize bOf y = Y at *
        go_wp2_with (first
          | (go_at_call 18; refine (HS _).out.mono ?_; rintro e w2 ⟨rfl, rfl⟩)
          | (go_at_call 42; refine (HR _).out.mono ?_; rintro e w1 ⟨rfl, hb⟩; have H1 := Lib.hid hb; clear hb))
        all_goals (first | exact HE.out _ (HBl.out _ (hr.out.1.trans (H1.out.mono hsz))) | (go_ret; exact HE.out _ (HBl.out _ (hr.out.1.trans (H1.out.mono hsz)))))
    · obtain rfl : k = 6 := by omega
      have HM := Lib.hid (MISS.out (fun j hj => hr.out.2 j hj (by omega)))
      clear HIT MISS HRd HC
      go_wp2
      go_ret
      exact ⟨by rw [HM.out]; rfl, HBl.out _ hr.out.1⟩
end Go.Proofs.Yticdihfjnmjkmaa
