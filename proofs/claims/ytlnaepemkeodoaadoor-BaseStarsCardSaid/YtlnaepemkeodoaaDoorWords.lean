/- The words of a line: the program's. -/
import Derived.Test.YtlnaepemkeodoaaDoorOrd
namespace Go.Proofs.YtlnaepemkeodoaaDoor
open Go.RowKit
theorem below_one (w : World) (o : Obj) : Below w.heap.size w (w.alloc o) := (Below.refl _ _).alloc (Nat.le_refl _) _
def strV (L : List (List UInt8)) : List Value := L.map fun l => .string (bOf l)
theorem strV_len (L : List (List UInt8)) : (strV L).length = L.length := by simp [strV]
theorem strV_one (L : List (List UInt8)) : ∀ u ∈ strV L, u.oneCell' = true := fun u hu => by
  obtain ⟨l, _, rfl⟩ := List.mem_map.1 hu
  rfl
theorem Row.kept {w w' : World} {base : Nat} {v : Value} {vs : List Value} (h : Row w base v vs) (hk : ∀ k, v.ownBlock = some k → w'.heap[k]? = w.heap[k]?) : Row w' base v vs := by
  obtain ⟨h1, h2⟩ := h
  refine ⟨h1, ?_⟩
  rcases h2 with h2 | ⟨g, cap, cur, rfl, hg, hh, r⟩
  · exact .inl h2
  · exact .inr ⟨g, cap, cur, rfl, hg, by rw [hk g rfl]; exact hh, r⟩
theorem Row.below {w w' : World} {base : Nat} {v : Value} {vs : List Value} (h : Row w base v vs) (hb : Below w.heap.size w w') : Row w' base v vs := h.kept (fun k hk => hb.block k (row_ge h hk).1)
theorem Row.low {w : World} {base base' : Nat} {v : Value} {vs : List Value} (h : Row w base v vs) (hb : base' ≤ base) : Row w base' v vs := by
  obtain ⟨h1, h2⟩ := h
  refine ⟨h1, ?_⟩
  rcases h2 with h2 | ⟨g, cap, cur, rfl, hg, r⟩
  · exact .inl h2
  · exact .inr ⟨g, cap, cur, rfl, by omega, r⟩
theorem row_nil (w : World) (base : Nat) : Row w base (.slice none 0 0) [] := World.ownsRow_nil _ _ _ _
theorem Row.shape {w : World} {base : Nat} {v : Value} {vs : List Value} (h : Row w base v vs) : ∃ a c, v = .slice a vs.length c ∧ vs.length ≤ c := by
  rcases h.2 with ⟨rfl, h0⟩ | ⟨g, cap, cur, rfl, _, _, h1, _⟩
  · exact ⟨none, 0, by rw [h0], by omega⟩
  · exact ⟨_, _, rfl, h1⟩
theorem row_below {w w' : World} {base : Nat} {v : Value} {vs : List Value} (h : Row w base v vs) (hg : w.grownBy w' v.ownBlock) (hb : base ≤ w.heap.size) : Below base w w' :=
  (Below.refl _ _).grown hg hb (fun _ hk => (row_ge h hk).2.1)
/-- A row of texts, read. -/
theorem Row.strs {w : World} {base : Nat} {a : Option Addr} {n c : Nat} {L : List (List UInt8)} (h : Row w base (.slice a n c) (strV L)) : n = L.length ∧ StrsR w a L := by
  have hn : n = L.length := by
    obtain ⟨_, _, h1, _⟩ := h.shape
    injection h1 with _ h2 _
    rw [h2, strV_len]
  refine ⟨hn, fun i hi => ?_⟩
  rcases h.2 with ⟨h1, h0⟩ | ⟨g, cap, cur, h1, _⟩
  · rw [strV_len] at h0; omega
  · injection h1 with e1 e2 e3
    subst e1 e2 e3
    obtain ⟨_, _, _, cur', hh, _, hc⟩ := row_cells h
    exact ⟨g, 0, rfl, lt_of_block hh, hc i _ (by unfold strV; rw [List.getElem?_map, List.getElem?_eq_getElem hi]; rfl)⟩
theorem news_one (X : World) (g : Nat) (hg : g = X.heap.size) (v : Value) : ∀ j u, [v][j]? = some u → (X.alloc (.cells #[v] 9)).cell? ((⟨g, 0, none⟩ : Addr).add j) = some u := by
  subst hg
  exact World.news_of_block (cs := #[v]) (t := 9) (fr := (0, 0)) (heap_alloc_this _ _)
theorem strV_snoc (L : List (List UInt8)) (x : List UInt8) : strV (L ++ [x]) = strV L ++ [.string (bOf x)] := by simp [strV]
/-- A piece of a text. -/
def pieceL (s : ByteArray) (f k : Nat) : List UInt8 := (s.data.toList.drop f).take (k - f)
theorem extract_piece (s : ByteArray) (f k : Nat) : s.extract f k = bOf (pieceL s f k) := by
  apply ByteArray.ext
  unfold pieceL bOf
  rw [ByteArray.data_extract]
  apply Array.ext'
  simp [Array.toList_extract]
theorem piece_next {s : ByteArray} {f k : Nat} (hf : f ≤ k) (hk : k < s.size) : pieceL s f (k + 1) = pieceL s f k ++ [s[k]] := by
  unfold pieceL
  have hl : k - f < (s.data.toList.drop f).length := by simp; omega
  rw [show k + 1 - f = (k - f) + 1 by omega, List.take_succ_eq_append_getElem hl]
  congr 2
  rw [List.getElem_drop]
  show _ = s.data[k]
  simp [show f + (k - f) = k by omega]
theorem piece_self (s : ByteArray) (k : Nat) : pieceL s k k = [] := by unfold pieceL; simp
theorem drop_at {s : ByteArray} {k : Nat} (hk : k < s.size) : s.data.toList.drop k = s[k] :: s.data.toList.drop (k + 1) := by
  rw [List.drop_eq_getElem_cons (by simpa using hk)]; rfl
def WordsPost (s : ByteArray) (w : World) (e : Ending) (w' : World) : Prop := ∃ v, e = .returned v ∧ Row w' w.heap.size v (strV (wordsL s.data.toList)) ∧ Below w.heap.size w w'
set_option maxHeartbeats 1000000 in
set_option maxRecDepth 100000 in
theorem words_any (s : ByteArray) (hs : s.size ≤ 90000) (w : World) : Calls Tryd.prog 17 #[.string s] w (WordsPost s w) := by
  obtain ⟨i0, hi0, hz0, hz1, hz2⟩ := info_parts info9
  have hst := Lib.hid (show ([] : List (List UInt8)) ++ wordsF false (pieceL s 0 0) (s.data.toList.drop 0) = wordsL s.data.toList by rw [piece_self]; rfl)
  go_enter Tryd.func17, Tryd.ntmps17
  go_wp2
  go_loopw [3, 4, 5, 9] (fun v q f i wr => ∃ (k fr : Nat) (qt : Bool) (L : List (List UInt8)), k ≤ s.size ∧ fr ≤ k ∧ L.length ≤ k ∧ i = .int .i64 k ∧ f = .int .i64 fr ∧ q = .bool qt ∧ Hid (L ++ wordsF qt (pieceL s fr k) (s.data.toList.drop k) = wordsL s.data.toList) ∧ ∃ a c, v = .slice a L.length c ∧ Hid (Row wr w.heap.size (.slice a L.length c) (strV L) ∧ Below w.heap.size w wr)) (fun _ _ _ i _ => s.size - (intOf i).toNat)
  case atStart => exact ⟨0, 0, false, [], by omega, by omega, by simp, rfl, rfl, rfl, hst, none, 0, rfl, row_nil _ _, Below.refl _ _⟩
  case round =>
    obtain ⟨k, fr, qt, L, hk, hfr, hL, rfl, rfl, rfl, hw, a, c, rfl, hr⟩ := hrel
    have hsz := hr.out.2.size
    by_cases hlt : k < s.size
    · have hki : (k : Int) < s.size := by omega
      have HP := Lib.hid (piece_next hfr hlt)
      have HD := Lib.hid (drop_at hlt)
      have HX := Lib.hid (extract_piece s fr k)
      by_cases h39 : s[k] = 39
      · have hc39 : (s[k].toNat : Int) = 39 := by rw [h39]; rfl
        have hb39 : ((s[k].toNat : Int) == 39) = true := by simpa using hc39
        have HF := Lib.hid (show L ++ wordsF (!qt) (pieceL s fr (k + 1)) (s.data.toList.drop (k + 1)) = wordsL s.data.toList by
          have h := hw.out
          rw [HD.out, wordsF, if_pos h39, ← HP.out] at h
          exact h)
        clear hc39 h39
        cases qt
        all_goals
          go_wp2
          go_roundw
          case rel => exact ⟨k + 1, fr, _, L, by omega, by omega, by omega, by go_num, rfl, rfl, HF, a, c, rfl, hr⟩
          case measure => simp [intOf]; omega
      · have hb39 : ((s[k].toNat : Int) == 39) = false := by
          simp only [beq_eq_false_iff_ne, ne_eq]
          intro h
          exact h39 (UInt8.toNat_inj.1 (by show s[k].toNat = 39; omega))
        by_cases h32 : s[k] = 32 ∧ qt = false
        · obtain ⟨h32, rfl⟩ := h32
          have hb32 : ((s[k].toNat : Int) == 32) = true := by rw [h32]; rfl
          have HF := Lib.hid (show (L ++ [pieceL s fr k]) ++ wordsF false (pieceL s (k + 1) (k + 1)) (s.data.toList.drop (k + 1)) = wordsL s.data.toList by
            have h := hw.out
            rw [HD.out, wordsF, if_neg h39, if_pos ⟨h32, rfl⟩] at h
            rw [piece_self, List.append_assoc]
            exact h)
          have hfk : (fr : Int) ≤ k := by omega
          clear h39 h32
          go_wp2_with (first
            | (at_builtin; (refine wpList_append_lies _ rfl (.tmp 28) (.tmp 33) 35 rfl w.heap.size 9 i0 _ 1 16 Tryd.underlying35 hi0 hz0 hz1 hz2 rfl (by omega) (.slice a L.length c) L.length _ rfl (by have := hr.out.1; unfold Row at this; rw [strV_len] at this; exact this.alloc _) ⟨wr.heap.size, 0, none⟩ 1 1 [.string (s.extract fr k)] rfl rfl (news_one wr wr.heap.size rfl _) (by simp [Value.oneCell']) (by omega) (by simp only [maxLen]; omega) (by omega) (by simp; omega) (wr.heap.size + 1) (by simp) ?_); intro gg cap' w1 hown1 hgrow hat hlt2
               have HO := Lib.hid hown1
               have HG := Lib.hid hgrow
               clear hown1 hgrow hat))
          go_roundw
          case rel =>
            refine ⟨k + 1, k + 1, false, L ++ [pieceL s fr k], by omega, by omega, by simp; omega, by go_num, by go_num, rfl, HF, some ⟨gg, 0, none⟩, cap', by simp, ?_, ?_⟩
            · unfold Row
              rw [strV_snoc, List.length_append, List.length_append, strV_len, ← HX.out]
              exact HO.out
            · exact hr.out.2.trans (((below_one wr _).mono hsz).trans (row_below (hr.out.1.below (below_one wr _)) HG.out (by simp; omega)))
          case measure => simp [intOf]; omega
        · have HF := Lib.hid (show L ++ wordsF qt (pieceL s fr (k + 1)) (s.data.toList.drop (k + 1)) = wordsL s.data.toList by
            have h := hw.out
            rw [HD.out, wordsF, if_neg h39, if_neg h32, ← HP.out] at h
            exact h)
          by_cases h3 : s[k] = 32
          · have hq : qt = true := by
              cases qt
              · exact absurd ⟨h3, rfl⟩ h32
              · rfl
            subst hq
            have hb32 : ((s[k].toNat : Int) == 32) = true := by rw [h3]; rfl
            clear h39 h32 h3
            go_wp2
            go_roundw
            case rel => exact ⟨k + 1, fr, _, L, by omega, by omega, by omega, by go_num, rfl, rfl, HF, a, c, rfl, hr⟩
            case measure => simp [intOf]; omega
          · have hb32 : ((s[k].toNat : Int) == 32) = false := by
              simp only [beq_eq_false_iff_ne, ne_eq]
              intro h
              exact h3 (UInt8.toNat_inj.1 (by show s[k].toNat = 32; omega))
            clear h39 h32 h3
            go_wp2
            go_roundw
            case rel => exact ⟨k + 1, fr, _, L, by omega, by omega, by omega, by go_num, rfl, rfl, HF, a, c, rfl, hr⟩
            case measure => simp [intOf]; omega
    · obtain rfl : k = s.size := by omega
      have HX := Lib.hid (extract_piece s fr s.size)
      have HF := Lib.hid (show L ++ [pieceL s fr s.size] = wordsL s.data.toList by
        have h := hw.out
        rw [List.drop_of_length_le (by simp), wordsF] at h
        exact h)
      have hfk : (fr : Int) ≤ s.size := by omega
      go_wp2_with (first
        | (at_builtin; (refine wpList_append_lies _ rfl (.tmp 38) (.tmp 42) 35 rfl w.heap.size 9 i0 _ 1 16 Tryd.underlying35 hi0 hz0 hz1 hz2 rfl (by omega) (.slice a L.length c) L.length _ rfl (by have := hr.out.1; unfold Row at this; rw [strV_len] at this; exact this.alloc _) ⟨wr.heap.size, 0, none⟩ 1 1 [.string (s.extract fr s.size)] rfl rfl (news_one wr wr.heap.size rfl _) (by simp [Value.oneCell']) (by omega) (by simp only [maxLen]; omega) (by omega) (by simp; omega) (wr.heap.size + 1) (by simp) ?_); intro gg cap' w1 hown1 hgrow hat hlt2
           have HO := Lib.hid hown1
           have HG := Lib.hid hgrow
           clear hown1 hgrow hat))
      go_ret
      refine ⟨_, rfl, ?_, ?_⟩
      · rw [← HF.out]
        unfold Row
        rw [strV_snoc, List.length_append, strV_len, ← HX.out]
        exact HO.out
      · exact hr.out.2.trans (((below_one wr _).mono hsz).trans (row_below (hr.out.1.below (below_one wr _)) HG.out (by simp; omega)))
end Go.Proofs.YtlnaepemkeodoaaDoor
