/- What is wrong with a line: the program's. -/
import Derived.Test.YtlnaepemkeodoaaDoorWords
import Derived.Lib.ConvBytes
namespace Go.Proofs.YtlnaepemkeodoaaDoor
open Go.RowKit
def kindsB : List ByteArray := kindsL.map bOf
theorem kinds_any (w : World) : Calls Tryd.prog 21 #[] w fun e w' => e = .returned (.slice (some ⟨w.heap.size, 0, none⟩) 4 4) ∧ w' = w.alloc (.cells #[.string (bOf [97, 109, 98, 105, 103, 117, 111, 117, 115]), .string (bOf [99, 111, 110, 102, 108, 105, 99, 116]), .string (bOf [99, 121, 99, 108, 101]), .string (bOf [117, 115, 101, 108, 101, 115, 115])] 9) := by
  go_enter Tryd.func21, Tryd.ntmps21
  go_wp2
  go_ret
  exact ⟨rfl, rfl⟩
theorem kinds_contains {w w' : World} (h : w'.heap[w.heap.size]? = some (.cells #[.string (bOf [97, 109, 98, 105, 103, 117, 111, 117, 115]), .string (bOf [99, 111, 110, 102, 108, 105, 99, 116]), .string (bOf [99, 121, 99, 108, 101]), .string (bOf [117, 115, 101, 108, 101, 115, 115])] 9 (0, 0))) (x : List UInt8) :
    Calls Tryd.prog 20 #[.slice (some ⟨w.heap.size, 0, none⟩) 4 4, .string (bOf x)] w' fun e w2 => e = .returned (.bool (decide (x ∈ kindsL))) ∧ w2 = w' := by
  have h0 := slices_Contains_string w.heap.size 0 4 4 kindsB (bOf x) w' (by decide) (by decide) (fun j hj => by
    have hj4 : j < 4 := hj
    rw [cell_of_block h]
    rcases (by omega : j = 0 ∨ j = 1 ∨ j = 2 ∨ j = 3) with rfl | rfl | rfl | rfl <;> rfl)
  have e : Lib.containsS (kindsB.take 4) (bOf x) = decide (x ∈ kindsL) := by
    rw [Bool.eq_iff_iff, Lib.containsS_iff, decide_eq_true_eq]
    show bOf x ∈ kindsL.map bOf ↔ _
    constructor
    · intro h
      obtain ⟨y, hy, he⟩ := List.mem_map.1 h
      exact bOf_inj he ▸ hy
    · intro h; exact List.mem_map_of_mem h
  rwa [e] at h0
theorem byteSplit (s : ByteArray) (k : Nat) (hk : k < s.size) : s.data.toList.take (k + 1) = s.data.toList.take k ++ [s[k]] := by
  rw [List.take_succ_eq_append_getElem (by simpa using hk)]; rfl
theorem bytesWorld_below (w : World) (e : TypeId) (s : ByteArray) : Below w.heap.size w (Lib.bytesWorld w e s) :=
  ⟨rfl, rfl, rfl, by rw [Lib.bytesWorld_size]; omega, fun k hk => Lib.bytesWorld_at_old w e s k hk⟩
def LinePost (l : List UInt8) (w : World) (e : Ending) (w' : World) : Prop := e = .returned (.int .i64 (lineE l)) ∧ Below w.heap.size w w'
set_option maxHeartbeats 2000000 in
set_option maxRecDepth 100000 in
theorem line_any (s : ByteArray) (hs : s.size ≤ 90000) (w : World) : Calls Tryd.prog 12 #[.string s] w (LinePost s.data.toList w) := by
  have hlen : s.data.toList.length = s.size := by simp
  have HE := Lib.hid (show lineE s.data.toList = if 1024 < s.size then 1 else if s.data.toList.any oddC = true then 2 else if [] ∈ wordsL s.data.toList then 17 else if (wordsL s.data.toList).headD [] ∈ kindsL then 0 else 19 by unfold lineE; rw [hlen])
  clear hlen
  by_cases h1 : (1024 : Int) < s.size
  · have HV := Lib.hid (show lineE s.data.toList = 1 by rw [HE.out, if_pos (by omega)])
    go_enter Tryd.func12, Tryd.ntmps12
    go_wp2
    go_ret
    exact ⟨by rw [HV.out]; rfl, Below.refl _ _⟩
  have HW := fun W => Lib.hid (words_any s hs W)
  have hcv := fun (w : World) (s : ByteArray) => Lib.run_convert_string_bytes (P := Tryd.prog) w 9 41 5 s Tryd.underlying9 Tryd.underlying41 Tryd.underlying5
  go_enter Tryd.func12, Tryd.ntmps12
  go_wp2
  have hcell := fun j hj => Lib.hid (Lib.bytesWorld_cell w 5 s j hj)
  have HB1 := Lib.hid (bytesWorld_below w 5 s)
  have hsz1 : w.heap.size < (Lib.bytesWorld w 5 s).heap.size := by rw [Lib.bytesWorld_size]; omega
  clear hcv
  generalize Lib.bytesWorld w 5 s = W1 at *
  generalize grownCap w s.size 0 5 = cap at *
  go_loop [13] (fun i => ∃ k : Nat, k ≤ s.size ∧ i = .int .i64 k ∧ Hid ((s.data.toList.take k).any oddC = false)) (fun i => s.size - (intOf i).toNat)
  case atStart => exact ⟨0, by omega, rfl, Lib.hid rfl⟩
  case round =>
    obtain ⟨k, hk, rfl, hf⟩ := hrel
    by_cases hlt : k < s.size
    · have hki : (k : Int) < s.size := by omega
      have hc := (hcell k hlt).out
      have HT := Lib.hid (byteSplit s k hlt)
      have hg : s.data.toList.getD k 0 = s[k] := by
        rw [List.getD_eq_getElem?_getD, List.getElem?_eq_getElem (by simpa using hlt)]; rfl
      rw [hg] at hc
      have HO := Lib.hid (show oddC s[k] = (decide ((s[k].toNat : Int) < 32) || decide (126 < (s[k].toNat : Int))) from rfl)
      have HTK := Lib.hid (show oddC s[k] = true → s.data.toList.any oddC = true from fun h => List.any_eq_true.2 ⟨s[k], by
        have := List.getElem_mem (l := s.data.toList) (n := k) (by simpa using hlt)
        exact this, h⟩)
      clear hg
      generalize s[k] = ch at *
      by_cases a1 : (ch.toNat : Int) < 32
      · have HV := Lib.hid (show lineE s.data.toList = 2 by rw [HE.out, if_neg (by omega), if_pos (HTK.out (by rw [HO.out]; simp [a1]))])
        go_wp2
        go_ret
        exact ⟨by rw [HV.out]; rfl, HB1.out⟩
      · by_cases a2 : 126 < (ch.toNat : Int)
        · have HV := Lib.hid (show lineE s.data.toList = 2 by rw [HE.out, if_neg (by omega), if_pos (HTK.out (by rw [HO.out]; simp [a2]))])
          go_wp2
          go_ret
          exact ⟨by rw [HV.out]; rfl, HB1.out⟩
        · have HF := Lib.hid (show (s.data.toList.take (k + 1)).any oddC = false by
            rw [HT.out, List.any_append, hf.out]
            simp only [List.any_cons, List.any_nil, Bool.or_false, Bool.false_or]
            rw [HO.out]; simp [a1, a2])
          go_wp2
          go_round
          case rel => exact ⟨k + 1, by omega, by go_num, HF⟩
          case measure => simp [intOf]; omega
    · obtain rfl : k = s.size := by omega
      have HF := Lib.hid (show lineE s.data.toList = if [] ∈ wordsL s.data.toList then 17 else if (wordsL s.data.toList).headD [] ∈ kindsL then 0 else 19 by
        have h := hf.out
        rw [List.take_of_length_le (by simp)] at h
        rw [HE.out, if_neg (by omega), if_neg (by rw [h]; simp)])
      have HL := Lib.hid (wordsF_len false [] s.data.toList)
      have HNE := Lib.hid (wordsF_ne false [] s.data.toList)
      clear hcell hf HE
      unfold WordsPost at HW
      have HLW := Lib.hid (show (wordsL s.data.toList).length ≤ s.size + 1 by have := HL.out; unfold wordsL; simpa using this)
      have HNW := Lib.hid (show wordsL s.data.toList ≠ [] from HNE.out)
      clear HL HNE
      generalize wordsL s.data.toList = ws at *
      go_wp2_with fail
      refine (HW _).out.mono ?_
      rintro e w2 ⟨v, rfl, hrow, hb2⟩
      obtain ⟨a, c, rfl, _⟩ := hrow.shape
      rw [strV_len] at *
      have HR := Lib.hid (hrow.strs).2
      have HB2 := Lib.hid (HB1.out.trans (hb2.mono (by omega)))
      clear hrow hb2
      have hwl := HLW.out
      go_wp2_with fail
      go_loop [27] (fun i => ∃ k : Nat, k ≤ ws.length ∧ i = .int .i64 k ∧ Hid ([] ∉ ws.take k)) (fun i => ws.length - (intOf i).toNat)
      case atStart => exact ⟨0, by omega, rfl, Lib.hid (by simp)⟩
      case round =>
        obtain ⟨k, hk, rfl, hf⟩ := hrel
        by_cases hlt : k < ws.length
        · have hki : (k : Int) < ws.length := by omega
          obtain ⟨b, off, rfl, hb, hc⟩ := HR.out k hlt
          by_cases he : ws[k] = []
          · rw [he] at hc
            replace hc : w2.cell? ⟨b, off + k, none⟩ = some (.string ⟨#[]⟩) := hc
            have HV := Lib.hid (show lineE s.data.toList = 17 by rw [HF.out, if_pos (he ▸ List.getElem_mem hlt)])
            clear he
            go_wp2
            go_ret
            exact ⟨by rw [HV.out]; rfl, HB2.out⟩
          · have hne : (bOf ws[k]).toList.isEmpty = false := by rw [bOf_list]; simpa using he
            have hne2 : (bOf ws[k]).toList ≠ [] := by rw [bOf_list]; exact he
            have HT := Lib.hid (show [] ∉ ws.take (k + 1) by
              rw [List.take_succ_eq_append_getElem hlt, List.mem_append]
              rintro (h | h)
              · exact hf.out h
              · have h2 : [] = ws[k] := by simpa using h
                exact he h2.symm)
            clear he
            generalize bOf ws[k] = y at *
            go_wp2
            go_round
            case rel => exact ⟨k + 1, by omega, by go_num, HT⟩
            case measure => simp [intOf]; omega
        · obtain rfl : k = ws.length := by omega
          have HF2 := Lib.hid (show lineE s.data.toList = if ws.headD [] ∈ kindsL then 0 else 19 by
            have h := hf.out
            rw [List.take_of_length_le (Nat.le_refl _)] at h
            rw [HF.out, if_neg h])
          clear HF hf
          have hb21 : w.heap.size ≤ w2.heap.size := HB2.out.size
          go_wp2_with fail
          refine (kinds_any _).mono ?_
          rintro e w3 ⟨rfl, hw3⟩
          have h3 := heap_alloc_this w2 (.cells #[.string (bOf [97, 109, 98, 105, 103, 117, 111, 117, 115]), .string (bOf [99, 111, 110, 102, 108, 105, 99, 116]), .string (bOf [99, 121, 99, 108, 101]), .string (bOf [117, 115, 101, 108, 101, 115, 115])] 9)
          rw [← hw3] at h3
          have HB3 := Lib.hid (show Below w.heap.size w w3 from HB2.out.trans (by rw [hw3]; exact (below_one w2 _).mono hb21))
          have HK3 := Lib.hid h3
          clear hw3 h3
          go_wp2_with fail
          refine (HW _).out.mono ?_
          rintro e w4 ⟨v, rfl, hrow, hb4⟩
          obtain ⟨a4, c4, rfl, _⟩ := hrow.shape
          rw [strV_len] at *
          obtain ⟨x, r, hxr⟩ : ∃ x r, ws = x :: r := by
            cases hws : ws with
            | nil => exact absurd hws HNW.out
            | cons x r => exact ⟨x, r, rfl⟩
          obtain ⟨b, off, rfl, hb, hc⟩ := (hrow.strs).2 0 (by rw [hxr]; simp)
          have hx0 : ws[0]'(by rw [hxr]; simp) = x := by simp [hxr]
          rw [hx0, Nat.add_zero] at hc
          have HC := Lib.hid (kinds_contains ((hb4.block _ (lt_of_block HK3.out)).trans HK3.out) x)
          have HB4 := Lib.hid (HB3.out.trans (hb4.mono HB3.out.size))
          have HV := Lib.hid (show lineE s.data.toList = if x ∈ kindsL then 0 else 19 by rw [HF2.out, hxr]; rfl)
          have hwl0 : (0 : Int) < (ws.length : Int) := by rw [hxr]; simp
          clear hrow hb4 hxr hx0 HF2
          generalize bOf x = X at *
          by_cases hk : x ∈ kindsL
          · simp only [hk, decide_true, if_true] at HC HV
            go_wp2_with (go_at_call 20; refine HC.out.mono ?_; rintro e w5 ⟨rfl, rfl⟩)
            go_ret
            exact ⟨by rw [HV.out]; rfl, HB4.out⟩
          · simp only [hk, decide_false, if_false] at HC HV
            go_wp2_with (go_at_call 20; refine HC.out.mono ?_; rintro e w5 ⟨rfl, rfl⟩)
            go_ret
            exact ⟨by rw [HV.out]; rfl, HB4.out⟩
end Go.Proofs.YtlnaepemkeodoaaDoor
