/- The words of a text: the program's. -/
import Derived.Test.YticdihfjnmjkmaaRWord
import Derived.Test.YticdihfjnmjkmaaTokRow
namespace Go.Proofs.Yticdihfjnmjkmaa
open Go.RowKit
attribute [local go_sem] run_store_float
theorem tok_fresh (w : World) (b : Nat) (hB : b = w.heap.size) (kd : Int) (p : Nat) (tx : List UInt8) (f : Nat) (ty : TypeId) : ∀ j, j < 4 → (w.alloc (.cells #[.int .i64 kd, .int .i64 p, .string (bOf tx), .float .f64 f] ty)).cell? ⟨b, j, none⟩ = (Tok.mk kd p tx f).cells[j]? := fun j hj => by
  subst hB
  rw [cell_of_block (off := j) (heap_alloc_this w _)]
  simp [Tok.cells]
theorem fcell {w wr : World} {a b : Value} {t : TypeId} (h : Below (w.heap.size + 1) (w.alloc (.cells #[a, b] t)) wr) : wr.cell? ⟨w.heap.size, 0, none⟩ = some a ∧ wr.cell? ⟨w.heap.size, 1, none⟩ = some b ∧ wr.frozen? ⟨w.heap.size, 0, none⟩ = false ∧ wr.frozen? ⟨w.heap.size, 1, none⟩ = false := by
  have h1 : ∀ o, wr.cell? ⟨w.heap.size, o, none⟩ = (w.alloc (.cells #[a, b] t)).cell? ⟨w.heap.size, o, none⟩ := fun o => h.cell (p := ⟨w.heap.size, o, none⟩) (by simp)
  have h2 : ∀ o, wr.frozen? ⟨w.heap.size, o, none⟩ = (w.alloc (.cells #[a, b] t)).frozen? ⟨w.heap.size, o, none⟩ := fun o => h.frozen (p := ⟨w.heap.size, o, none⟩) (by simp)
  refine ⟨(h1 0).trans ?_, (h1 1).trans ?_, (h2 0).trans ?_, (h2 1).trans ?_⟩ <;> simp [go_sem]
theorem OwnT.setCell {ty : TypeId} {w : World} {b : Nat} {v : Value} {ts : List Tok} (h : OwnT ty w b v ts) {a : Addr} (ha : a.block < b) (u : Value) : OwnT ty (w.setCell a u) b v ts :=
  h.kept (fun g hg => Below.heap_setCell _ _ _ _ (by have := (h.lt hg).2; omega))
theorem OwnT.mono {ty : TypeId} {w : World} {b b' : Nat} {v : Value} {ts : List Tok} (h : OwnT ty w b v ts) (hb : b' ≤ b) : OwnT ty w b' v ts := by
  obtain ⟨h1, h2⟩ := h
  refine ⟨h1, ?_⟩
  rcases h2 with h2 | ⟨g, cap, cur, rfl, hg, r⟩
  · exact .inl h2
  · exact .inr ⟨g, cap, cur, rfl, by omega, r⟩
theorem info36 : (Try.prog.info? 36).map (fun i => (i.zero, i.size, i.bytes)) = some (some (.agg #[.int .i64 0, .int .i64 0, .string ⟨#[]⟩, .float .f64 0]), 4, 40) := by kernel_rfl
def pallPost (w : World) (ts : List Tok) (er : Int) (a : Nat) (e : Ending) (w' : World) : Prop :=
  ∃ v, e = .returned (.tuple #[v, .agg #[.int .i64 er, .int .i64 a]]) ∧ (er = 0 → OwnT 36 w' w.heap.size v ts) ∧ (er ≠ 0 → v = .slice none 0 0) ∧ Below w.heap.size w w'
theorem pall_long (s : ByteArray) (hs : 65536 < s.size) (w : World) : Calls Try.prog 11 #[.string s] w (pallPost w [] 1 0) := by
  have hs1 : (65536 : Int) < (s.size : Int) := by omega
  clear hs
  go_enter Try.func11, Try.ntmps11
  go_wp2
  refine bodyPost_ret (v := .tuple #[.slice none 0 0, .agg #[.int .i64 1, .int .i64 0]]) (by simp [results, Try.results11, go_sem]) rfl ⟨_, rfl, (fun h => by cases h), (fun _ => rfl), ?_⟩
  repeat refine Below.setCell ?_ (by simp) _
  exact below_one w _
set_option maxRecDepth 100000 in
set_option maxHeartbeats 1000000 in
theorem pall_any (s : ByteArray) (hs : s.size ≤ 65536) (TS : List Tok) (ER : Int) (A : Nat) (HT : Hid (LexT s.data.toList TS ER A)) (w : World) : Calls Try.prog 11 #[.string s] w (pallPost w TS ER A) := by
  have hs1 : ¬ (65536 : Int) < (s.size : Int) := by omega
  have HS0 := fun W => Lib.hid (skip_any s (by omega) 0 (by omega) W)
  have HL0 := skipA_le false s 0
  have HC0 : Hid (∀ us e a, LexL (0 + skipA false s 0) (tailL s (0 + skipA false s 0)) us e a → LexT s.data.toList ([] ++ us) e a) := fun us e a h => by
    rw [Nat.zero_add] at h
    exact lexT_start s h
  generalize skipA false s 0 = k0 at *
  go_enter Try.func11, Try.ntmps11
  go_wp2_with (first | (go_at_call 26; refine (HS0 _).out.mono ?_; rintro e w' ⟨rfl, rfl⟩))
  go_loopw [4, 5] (fun v i wr => ∃ (k : Nat) (ts : List Tok), k ≤ s.size ∧ i = .int .i64 k ∧ ts.length ≤ k ∧ Hid (OwnT 36 wr (w.heap.size + 1) v ts ∧ Below (w.heap.size + 1) (w.alloc (.cells #[.int .i64 0, .int .i64 0] 26)) wr) ∧ Hid (∀ us e a, LexL k (tailL s k) us e a → LexT s.data.toList (ts ++ us) e a)) (fun _ i _ => s.size - (intOf i).toNat)
  case atStart => exact ⟨0 + k0, [], by omega, by go_num, by simp, ⟨ownT_nil _ _ _, Below.refl _ _⟩, HC0⟩
  case round =>
    obtain ⟨k, ts, hk, rfl, hlen, hf, hcl⟩ := hrel
    have hsz : (w.heap.size + 1) ≤ wr.heap.size := by have := hf.out.2.size; simp only [World.size_alloc] at this; omega
    obtain ⟨c0, c1, c2, c3⟩ := fcell hf.out.2
    by_cases hlt : k < s.size
    · have HW := fun W => Lib.hid (pword_any s (by omega) k hlt W)
      have HN := Lib.hid (fun h => wordA_n (s := s) (k := k) h)
      have HTK := Lib.hid (fun h us e a => lex_at_tok (s := s) (k := k) hlt h (ts := us) (e := e) (a := a))
      have HER := Lib.hid (fun h => lex_at_err (s := s) (k := k) hlt h)
      unfold WordPost at HW
      generalize wordA s k = r at *
      by_cases he : r.err = 0
      · have HW' : ∀ W, Hid (Calls Try.prog 27 #[.string s, .int .i64 k] W fun e w' => e = .returned (.tuple #[tokV r k, .int .i64 ((k + r.n : Nat) : Int), .int .i64 0]) ∧ Below W.heap.size W w') := fun W => (HW W).out.mono (by
          rintro e w' ⟨v, n, rfl, h1, _, hb⟩
          obtain ⟨rfl, rfl⟩ := h1 he
          refine ⟨?_, hb⟩
          rw [he]
          rfl)
        clear HW
        obtain ⟨n1, n2⟩ := HN.out he
        have HS := fun W => Lib.hid (skip_any s (by omega) (k + r.n) (by omega) W)
        have HSL := skipA_le false s (k + r.n)
        have HTK2 := Lib.hid (HTK.out he)
        clear HTK HER HN he
        obtain ⟨ke, ap, tx, wt, rn⟩ := r
        simp only [tokV] at *
        have HF := fun W b hB => Lib.hid (tok_fresh W b hB ap k tx wt 36)
        generalize hTX : bOf tx = TX at *
        have HTX := Lib.hid hTX
        clear hTX
        generalize skipA false s (k + rn) = m at *
        go_wp2_with (first
          | (go_at_call 27; refine (HW' _).out.mono ?_; rintro e w1 ⟨rfl, hb⟩; have hw1 := hb.size; have hc := (bcell hb).1; have hfz := (bcell hb).2)
          | (at_builtin; go_loud (refine append_tok rfl _ _ 23 36 rfl Try.underlying23 _ rfl info36 (w.heap.size + 1) _ ts rfl (hf.out.1.below ((hb.alloc hw1 _).alloc (by simp only [World.size_alloc]; omega) _)) _ ⟨ap, k, tx, wt⟩ rfl (HF _ _ (by simp)).out (by omega) (by simp only [World.size_alloc]; omega) ?_); intro v' w2 hown hgrow)
          | (go_at_call 26; refine (HS _).out.mono ?_; rintro e w' ⟨rfl, rfl⟩))
        go_roundw
        case rel =>
          refine ⟨k + rn + m, ts ++ [⟨ap, k, tx, wt⟩], by omega, by go_num, by simp only [List.length_append, List.length_singleton]; omega, ⟨hown, ?_⟩, fun us e a h => ?_⟩
          · exact hf.out.2.trans ((((hb.mono hsz).alloc (by omega) _).alloc (by simp only [World.size_alloc]; omega) _).trans (below_grownT (hf.out.1.below ((hb.alloc hw1 _).alloc (by simp only [World.size_alloc]; omega) _)) hgrow (by simp only [World.size_alloc]; omega)))
          · rw [List.append_assoc]
            exact hcl.out _ _ _ (HTK2.out us e a h)
        case measure => simp [intOf]; omega
      · have HERR := Lib.hid (LexT.unique HT.out (hcl.out _ _ _ (HER.out he)))
        have HW' : ∀ W, Hid (Calls Try.prog 27 #[.string s, .int .i64 k] W fun e w' => ∃ (kd ap : Int) (tx : ByteArray) (wt : Nat) (n : Int), e = .returned (.tuple #[.agg #[.int .i64 kd, .int .i64 ap, .string tx, .float .f64 wt], .int .i64 n, .int .i64 r.err]) ∧ Below W.heap.size W w') := fun W => (HW W).out.mono (by
          rintro e w' ⟨v, n, rfl, _, ⟨kd, ap, tx, wt, rfl⟩, hb⟩
          exact ⟨kd, ap, tx, wt, n, rfl, hb⟩)
        clear HW HTK HER HN
        have he2 : (r.err != 0) = true := by simpa using he
        have he3 : (r.err == 0) = false := by simpa using he
        have HE0 := Lib.hid he
        clear he
        generalize r.err = er at *
        go_wp2_with (first
          | (go_at_call 27; refine (HW' _).out.mono ?_; rintro e w1 ⟨kd, ap, tx, wt, n, rfl, hb⟩; have hw1 := hb.size; have hwlt : w.heap.size < w1.heap.size := (by omega); have hwne : w.heap.size ≠ w1.heap.size := (by omega); have d0 := (hb.cell (p := ⟨w.heap.size, 0, none⟩) (by show w.heap.size < wr.heap.size; omega)).trans c0; have d1 := (hb.cell (p := ⟨w.heap.size, 1, none⟩) (by show w.heap.size < wr.heap.size; omega)).trans c1; have d2 := (hb.frozen (p := ⟨w.heap.size, 0, none⟩) (by show w.heap.size < wr.heap.size; omega)).trans c2; have d3 := (hb.frozen (p := ⟨w.heap.size, 1, none⟩) (by show w.heap.size < wr.heap.size; omega)).trans c3))
        refine bodyPost_ret (v := .tuple #[.slice none 0 0, .agg #[.int .i64 er, .int .i64 k]]) (by simp [results, Try.results11, go_sem, d0, d1, hwlt]) rfl ?_
        obtain ⟨r1, r2, r3⟩ := HERR.out
        refine ⟨.slice none 0 0, by rw [r2, r3], (fun h => absurd (r2.symm.trans h) HE0.out), (fun _ => rfl), ?_⟩
        refine Below.alloc ?_ ?_ _
        rotate_left
        · simp only [World.size_setCell]; omega
        refine Below.setCell ?_ (by simp) _
        refine Below.setCell ?_ (by simp) _
        exact ((below_one w _).trans (hf.out.2.mono (by omega))).trans (hb.mono (by omega))
    · obtain rfl : k = s.size := by omega
      have HFIN := Lib.hid (LexT.unique HT.out (hcl.out _ _ _ (lex_at_fin (s := s) (k := s.size) (Nat.le_refl _))))
      have HF := fun W b hB => Lib.hid (tok_fresh W b hB 0 s.size [] 0 36)
      simp only [show bOf [] = ⟨#[]⟩ from rfl] at HF
      go_wp2_with (first
          | (at_builtin; go_loud (refine append_tok rfl _ _ 23 36 rfl Try.underlying23 _ rfl info36 (w.heap.size + 1) _ ts rfl (hf.out.1.below (below_one _ _)) _ ⟨0, s.size, [], 0⟩ rfl (HF _ _ (by simp)).out (by omega) (by simp only [World.size_alloc]; omega) ?_); intro v' w2 hown hgrow; have hbg := below_grownT (hf.out.1.below (below_one _ _)) hgrow (by simp only [World.size_alloc]; omega); have c20 := fcell (hf.out.2.trans (((below_one wr _).mono hsz).trans hbg)); have c21 := c20.2.1; have c22 := c20.2.2.1; have c23 := c20.2.2.2; have c20 := c20.1))
      refine bodyPost_ret (v := .tuple #[v', .agg #[.int .i64 0, .int .i64 0]]) (by simp [results, Try.results11, go_sem, c20, c21]) rfl ?_
      obtain ⟨r1, r2, r3⟩ := HFIN.out
      refine ⟨v', by rw [r2, r3]; rfl, (fun _ => by rw [r1]; exact ((hown.setCell (by simp) _).setCell (by simp) _).mono (by omega)), (fun h => absurd r2 h), ?_⟩
      refine Below.setCell ?_ (by simp) _
      refine Below.setCell ?_ (by simp) _
      exact ((below_one w _).trans (hf.out.2.mono (by omega))).trans (((below_one wr _).mono (by omega)).trans (hbg.mono (by omega)))
end Go.Proofs.Yticdihfjnmjkmaa
