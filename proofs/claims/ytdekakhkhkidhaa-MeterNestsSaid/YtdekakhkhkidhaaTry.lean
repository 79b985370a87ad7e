/- Try, by the contract of the work that is handed in; the document's example (alive). -/
import Derived.Test.YtdekakhkhkidhaaClos
namespace Go.Proofs.Ytdekakhkhkidhaa
open Go.RowKit

theorem heap_three (w : World) (a b c : Obj) : (((w.alloc a).alloc b).alloc c).heap[w.heap.size]? = some a ∧ (((w.alloc a).alloc b).alloc c).heap[w.heap.size + 1]? = some b ∧
    (((w.alloc a).alloc b).alloc c).heap[w.heap.size + 2]? = some c := by
  refine ⟨heap_alloc_keep (heap_alloc_keep (heap_alloc_this _ _)), ?_, ?_⟩
  · have := heap_alloc_keep (o := c) (heap_alloc_this (w.alloc a) b)
    simpa using this
  · have := heap_alloc_this ((w.alloc a).alloc b) c
    simpa using this
/-- How work comes to its end: done, or the measure of this meter was full. -/
def Out (d : Bool) (b : Nat) (e : Ending) : Prop :=
  if d then e = .returned (.tuple #[]) else ∃ older, e = .panicked ({ v := overV b, recovered := false } :: older) ∧ older.dropWhile (!·.goexit) = []

theorem run_any (d : Bool) {b g : Nat} {cap : Array Value} {w : World} {S : Nat → Prop} {R : World → Prop}
    (hcf : ∀ W, (callFunc g cap).run Try.prog W = .ok (.enter g cap) W)
    (hst : ∀ w2 w3, Kept (fun k => w.heap.size ≤ k) w2 w3 → R w2 → R w3) (hS : ∀ k, S k → k < w.heap.size)
    (hwork : ∀ w1, Kept (fun _ => False) w w1 → Calls Try.prog g cap w1 fun e w2 => Out d b e ∧ Kept S w1 w2 ∧ R w2) :
    Calls Try.prog 12 #[.pointer (some ⟨b, 0, none⟩), .func (.func g) #[] cap] w fun e w' => e = .returned (.bool d) ∧ Kept S w w' ∧ R w' := by
  cases d
  · exact run_full hcf hst hS hwork
  · exact run_ret hcf hst hS hwork

theorem c28 (d : Bool) {Fb Mb b g : Nat} {cap : Array Value} {w : World} {R : World → Prop}
    (hcf : ∀ W, (callFunc g (#[.pointer (some ⟨b, 0, none⟩)] ++ cap)).run Try.prog W = .ok (.enter g (#[.pointer (some ⟨b, 0, none⟩)] ++ cap)) W)
    (hF : w.heap[Fb]? = some (.cells #[.func (.func g) #[] cap] 36 (0, 0))) (hMp : w.heap[Mb]? = some (.cells #[.pointer (some ⟨b, 0, none⟩)] 24 (0, 0)))
    (hw : Calls Try.prog g (#[.pointer (some ⟨b, 0, none⟩)] ++ cap) w fun e w2 => Out d b e ∧ R w2) :
    Calls Try.prog 28 #[.pointer (some ⟨Fb, 0, none⟩), .pointer (some ⟨Mb, 0, none⟩)] w fun e w2 => Out d b e ∧ R w2 := by
  have h1 := cell_of_block (off := 0) hF
  have h2 := cell_of_block (off := 0) hMp
  simp at h1 h2
  have HW := Lib.hid hw
  clear hw hF hMp
  cases d
  · go_enter Try.func28, Try.ntmps28
    go_wp2_with fail
    refine HW.out.mono ?_
    rintro e w2 ⟨⟨older, rfl, ho⟩, hr⟩
    have HR := Lib.hid (And.intro ho hr)
    clear ho hr
    go_wp2
    exact ⟨rfl, ⟨older, rfl, HR.out.1⟩, HR.out.2⟩
  · go_enter Try.func28, Try.ntmps28
    go_wp2_with fail
    refine HW.out.mono ?_
    rintro e w2 ⟨rfl, hr⟩
    have HR := Lib.hid hr
    clear hr
    go_wp2
    go_end0
    exact ⟨rfl, HR.out⟩

theorem try_any (d : Bool) {n s : Int} {g : Nat} {cap : Array Value} {w : World} {S : Nat → Prop} {R : World → Prop}
    (hcf : ∀ W b, (callFunc g (#[.pointer (some ⟨b, 0, none⟩)] ++ cap)).run Try.prog W = .ok (.enter g (#[.pointer (some ⟨b, 0, none⟩)] ++ cap)) W)
    (hst : ∀ w2 w3, Kept (fun k => w.heap.size ≤ k) w2 w3 → R w2 → R w3) (hS : ∀ k, S k → k < w.heap.size)
    (hwork : ∀ w1 b, Kept (fun _ => False) w w1 → w.heap.size ≤ b → MeterAt w1 b (held n) 0 →
      Calls Try.prog g (#[.pointer (some ⟨b, 0, none⟩)] ++ cap) w1 fun e w2 => Out d b e ∧ Kept (fun k => S k ∨ k = b) w1 w2 ∧ R w2 ∧ ∃ l, MeterAt w2 b l s) :
    Calls Try.prog 21 #[.int .i64 n, .func (.func g) #[] cap] w fun e w' => e = .returned (.tuple #[.int .i64 s, .bool d]) ∧ Kept S w w' ∧ R w' := by
  have HW := Lib.hid hwork
  have HS := Lib.hid hst
  have HN := Lib.hid hS
  have HF := Lib.hid hcf
  clear hwork hst hS hcf
  have hmf : ∀ (fn : Fn) (first cap : Array Value) (w : World), (Instr.makeFunc fn first cap).run Try.prog w = .ok (.func fn first cap) w := fun _ _ _ _ => rfl
  go_enter Try.func21, Try.ntmps21
  go_wp2_with fail
  refine (new_any n _).mono ?_
  rintro e w2 ⟨rfl, rfl⟩
  go_wp2_with fail
  obtain ⟨h0, h1, h2⟩ := heap_three w (.cells #[.func (.func g) #[] cap] 36) (.cells #[.int .i64 (held n), .int .i64 0] 39) (.cells #[.pointer (some ⟨w.heap.size + 1, 0, none⟩)] 24)
  have hK0 : Kept (fun _ => False) w (((w.alloc (.cells #[.func (.func g) #[] cap] 36)).alloc (.cells #[.int .i64 (held n), .int .i64 0] 39)).alloc (.cells #[.pointer (some ⟨w.heap.size + 1, 0, none⟩)] 24)) :=
    (((Kept.refl _ _).alloc _).alloc _).alloc _
  have hsz : (((w.alloc (.cells #[.func (.func g) #[] cap] 36)).alloc (.cells #[.int .i64 (held n), .int .i64 0] 39)).alloc (.cells #[.pointer (some ⟨w.heap.size + 1, 0, none⟩)] 24)).heap.size = w.heap.size + 3 := by simp
  generalize (((w.alloc (.cells #[.func (.func g) #[] cap] 36)).alloc (.cells #[.int .i64 (held n), .int .i64 0] 39)).alloc (.cells #[.pointer (some ⟨w.heap.size + 1, 0, none⟩)] 24)) = W at *
  refine (run_any d (b := w.heap.size + 1) (g := 28) (S := fun k => S k ∨ k = w.heap.size + 1) (R := fun w' => R w' ∧ ∃ l, MeterAt w' (w.heap.size + 1) l s)
    (fun _ => by simp [go_sem]) ?_ ?_ ?_).mono ?_
  · rintro w2 w3 hk ⟨hr, l, hl⟩
    exact ⟨HS.out w2 w3 (hk.mono (fun k _ h => by omega)) hr, l, hl.kept hk (by omega)⟩
  · rintro k (h | h)
    · have := HN.out k h; omega
    · omega
  · intro w1 hk1
    refine (c28 d (HF.out · _) (hk1.get h0 (by simp)) (hk1.get h2 (by simp)) (R := fun w2 => Kept (fun k => S k ∨ k = w.heap.size + 1) w1 w2 ∧ R w2 ∧ ∃ l, MeterAt w2 (w.heap.size + 1) l s) ?_)
    exact HW.out w1 _ (hK0.trans hk1) (by omega) (hk1.get h1 (by simp))
  rintro e w2 ⟨rfl, hk2, hr, l, hl⟩
  have hc := cell_of_block (off := 1) hl
  have hc2 := cell_of_block (off := 0) (hk2.get h2 (by rintro (h | h); have := HN.out _ h; omega; omega))
  simp at hc hc2
  have hend : Kept S w w2 ∧ R w2 := ⟨hK0.then hk2 (fun _ _ h => h.elim) (fun i hi h => h.elim id (fun h => by omega)), hr⟩
  have HE := Lib.hid hend
  clear h0 h1 h2 hK0 hsz hk2 hr hl hend
  go_wp2
  go_ret2
  exact ⟨rfl, HE.out⟩

theorem c25 {Mb Nb b : Nat} {w : World} (hMp : w.heap[Mb]? = some (.cells #[.pointer (some ⟨b, 0, none⟩)] 24 (0, 0))) (hN : w.heap[Nb]? = some (.cells #[.int .i64 0] 3 (0, 0)))
    (hM : MeterAt w b 5 0) :
    Calls Try.prog 25 #[.pointer (some ⟨Mb, 0, none⟩), .pointer (some ⟨Nb, 0, none⟩)] w fun e w' => Out false b e ∧ Kept (fun k => k = b ∨ k = Nb) w w' ∧
      w'.heap[Nb]? = some (.cells #[.int .i64 1] 3 (0, 0)) ∧ MeterAt w' b 0 5 := by
  have hne : b ≠ Nb := by rintro rfl; unfold MeterAt at hM; rw [hM] at hN; simp at hN
  have hneM : Mb ≠ b ∧ Mb ≠ Nb := ⟨by rintro rfl; unfold MeterAt at hM; rw [hM] at hMp; simp at hMp, by rintro rfl; rw [hN] at hMp; simp at hMp⟩
  have hcp := cell_of_block (off := 0) hMp
  simp at hcp
  have HP := Lib.hid hMp
  have HN := Lib.hid hN
  have HM := Lib.hid hM
  clear hMp hN hM
  go_enter Try.func25, Try.ntmps25
  go_wp2_with fail
  refine (spend_fits HM.out (by decide) (by decide) (by decide) (by decide)).mono ?_
  rintro e w2 ⟨rfl, hM2, hK2⟩
  have hD2 := hK2.get HN.out (by intro h; exact hne h.symm)
  have hcd := cell_of_block (off := 0) hD2
  have hfd := free_of_block (off := 0) hD2
  simp at hcd
  have hP2 := hK2.get HP.out hneM.1
  have hK3 := (Kept.refl (· = Nb) w2).setCell (p := ⟨Nb, 0, none⟩) (.inl rfl) (.int .i64 1)
  have hM3 := hM2.kept hK3 hne
  have hD3 := heap_setCell_known (off := 0) (u := .int .i64 1) hD2
  have hP3 := cell_of_block (off := 0) (hK3.get hP2 hneM.2)
  simp at hP3
  have H3 := Lib.hid (And.intro hM3 (And.intro hD3 (And.intro hK2 hK3)))
  clear hD2 hP2 hK3 hM3 hD3 hM2 hK2
  go_wp2_with fail
  refine (spend_over H3.out.1 (by decide) (by decide) (by decide) (by decide)).mono ?_
  rintro e w4 ⟨rfl, hM4, hK4⟩
  obtain ⟨hM3, hD3, hK2, hK3⟩ := H3.out
  have hend : Kept (fun k => k = b ∨ k = Nb) w w4 ∧ w4.heap[Nb]? = some (.cells #[.int .i64 1] 3 (0, 0)) ∧ MeterAt w4 b 0 5 :=
    ⟨((hK2.mono (fun _ _ h => .inl h)).trans (hK3.mono (fun _ _ h => .inr h))).trans (hK4.mono (fun _ _ h => .inl h)), hK4.get hD3 (Ne.symm hne), hM4.cast rfl (by decide)⟩
  have HE := Lib.hid hend
  clear hM3 hD3 hK2 hK3 hend hM4 hK4
  go_wp2
  exact ⟨rfl, ⟨[], rfl, rfl⟩, HE.out⟩

theorem c26 {b : Nat} {w : World} (hM : MeterAt w b 4 0) :
    Calls Try.prog 26 #[.pointer (some ⟨b, 0, none⟩)] w fun e w' => e = .returned (.tuple #[]) ∧ Kept (fun k => k = b) w w' ∧ MeterAt w' b 0 4 := by
  have HM := Lib.hid hM
  clear hM
  go_enter Try.func26, Try.ntmps26
  go_wp2_with fail
  refine (spend_fits HM.out (by decide) (by decide) (by decide) (by decide)).mono ?_
  rintro e w2 ⟨rfl, hM2, hK2⟩
  have HE := Lib.hid (And.intro hK2 (hM2.cast (l' := 0) (s' := 4) (by decide) (by decide)))
  clear hM2 hK2
  go_wp2
  go_end0
  exact ⟨rfl, HE.out⟩

set_option maxHeartbeats 400000 in
theorem alive_any (w : World) : Calls Try.prog 7 #[] w fun e w' => e = .returned (.bool true) ∧ Below w.heap.size w w' := by
  have hmf : ∀ (fn : Fn) (first cap : Array Value) (w : World), (Instr.makeFunc fn first cap).run Try.prog w = .ok (.func fn first cap) w := fun _ _ _ _ => rfl
  go_enter Try.func7, Try.ntmps7
  go_wp2_with fail
  refine (new_any 5 _).mono ?_
  rintro e w2 ⟨rfl, rfl⟩
  go_wp2_with fail
  rw [show held 5 = 5 from rfl]
  obtain ⟨h0, h1, h2⟩ := heap_three w (.cells #[.int .i64 5, .int .i64 0] 39) (.cells #[.pointer (some ⟨w.heap.size, 0, none⟩)] 24) (.cells #[.int .i64 0] 3)
  have hK0 : Kept (fun _ => False) w (((w.alloc (.cells #[.int .i64 5, .int .i64 0] 39)).alloc (.cells #[.pointer (some ⟨w.heap.size, 0, none⟩)] 24)).alloc (.cells #[.int .i64 0] 3)) :=
    (((Kept.refl _ _).alloc _).alloc _).alloc _
  have hsz : (((w.alloc (.cells #[.int .i64 5, .int .i64 0] 39)).alloc (.cells #[.pointer (some ⟨w.heap.size, 0, none⟩)] 24)).alloc (.cells #[.int .i64 0] 3)).heap.size = w.heap.size + 3 := by simp
  generalize (((w.alloc (.cells #[.int .i64 5, .int .i64 0] 39)).alloc (.cells #[.pointer (some ⟨w.heap.size, 0, none⟩)] 24)).alloc (.cells #[.int .i64 0] 3)) = W at *
  refine (run_any false (b := w.heap.size) (g := 25) (S := fun k => k = w.heap.size ∨ k = w.heap.size + 2) (R := fun w' => w'.heap[w.heap.size + 2]? = some (.cells #[.int .i64 1] 3 (0, 0)) ∧ MeterAt w' w.heap.size 0 5)
    (fun _ => by simp [go_sem]) ?_ ?_ ?_).mono ?_
  · rintro w2 w3 hk ⟨hr, hl⟩
    exact ⟨hk.get hr (by omega), hl.kept hk (by omega)⟩
  · rintro k (h | h) <;> omega
  · intro w1 hk1
    exact c25 (hk1.get h1 (by simp)) (hk1.get h2 (by simp)) (hk1.get h0 (by simp))
  rintro e w2 ⟨rfl, hk2, hr, hl⟩
  have HE := Lib.hid (And.intro hr (And.intro hl (And.intro (hk2.get h1 (by omega)) (hK0.then (S'' := fun _ => False) hk2 (fun _ _ h => h.elim) (fun i hi h => by omega)))))
  have hs2 := hk2.size
  clear h0 h1 h2 hK0 hk2 hr hl
  go_wp2_with fail
  refine (try_any true (s := 4) (n := 4) (g := 26) (cap := #[]) (S := fun _ => False) (R := fun _ => True) (fun _ _ => by simp [go_sem]) (fun _ _ _ _ => trivial) (fun _ h => h.elim) ?_).mono ?_
  · intro w1 b hk1 hb hm
    refine (c26 hm).mono ?_
    rintro e w3 ⟨rfl, hk3, hm3⟩
    exact ⟨rfl, hk3.mono (fun _ _ h => .inr h), trivial, 0, hm3⟩
  rintro e w3 ⟨rfl, hk3, -⟩
  obtain ⟨hr, hl, hp, hk⟩ := HE.out
  have hr3 := hk3.get hr (by simp)
  have hl3 := hk3.get hl (by simp)
  have hp3 := hk3.get hp (by simp)
  have hc1 := cell_of_block (off := 0) hr3
  have hc2 := cell_of_block (off := 0) hp3
  simp at hc1 hc2
  have H3 := Lib.hid (show MeterAt w3 w.heap.size 0 5 from hl3)
  have H4 := Lib.hid ((hk.trans hk3).below (B := w.heap.size) (Nat.le_refl _) (fun _ _ h => h))
  clear hr hl hp hk hr3 hl3 hp3 hk3 HE
  go_wp2_with (first | (go_at_call 9; refine (left_any H3.out).mono ?_; rintro e w4 ⟨rfl, rfl⟩) | (go_at_call 11; refine (spent_any H3.out).mono ?_; rintro e w4 ⟨rfl, rfl⟩))
  go_ret
  exact ⟨rfl, H4.out⟩
end Go.Proofs.Ytdekakhkhkidhaa
