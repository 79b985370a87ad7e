/- Lists of words that the reference makes: a word put at the end; whether a word is in. -/
import Derived.Test.YtoiinikbbkmjoaaCards
namespace Go.Proofs.Ytoiinikbbkmjoaa
open Go.RowKit
/-- A list of words: its row from rb on, its words from base on. -/
def MadeR (rb base : Nat) (v : Value) (L : List (List Int)) (w : World) : Prop := ∃ vs, Row w rb v vs ∧ WordsB w base vs L
theorem MadeR.go {rb base : Nat} {v : Value} {L : List (List Int)} {w w' : World} (h : MadeR rb base v L w) (k : Grow w w') : MadeR rb base v L w' := by
  obtain ⟨vs, h1, h2⟩ := h
  exact ⟨vs, h1.keep (fun _ hk => k.block _ (row_ge h1 hk).1), h2.keep (fun _ _ hk => k.block _ (lt_of_block hk))⟩
theorem row_mono {w : World} {b b' : Nat} {v : Value} {vs : List Value} (h : Row w b v vs) (hb : b' ≤ b) : Row w b' v vs := by
  obtain ⟨h1, h2⟩ := h
  refine ⟨h1, ?_⟩
  rcases h2 with h2 | ⟨g, cap, cur, rfl, hg, r⟩
  · exact .inl h2
  · exact .inr ⟨g, cap, cur, rfl, Nat.le_trans hb hg, r⟩
theorem MadeR.made {rb base : Nat} {v : Value} {L : List (List Int)} {w : World} (h : MadeR rb base v L w) (hb : base ≤ rb) : Made base v L w := by
  obtain ⟨vs, h1, h2⟩ := h
  exact ⟨vs, row_mono h1 hb, h2⟩
theorem Made.r {base : Nat} {v : Value} {L : List (List Int)} {w : World} (h : Made base v L w) : MadeR base base v L w := h
theorem Made.mono {b b' : Nat} {v : Value} {L : List (List Int)} {w : World} (h : Made b v L w) (hb : b' ≤ b) : Made b' v L w := by
  obtain ⟨vs, h1, h2⟩ := h
  exact ⟨vs, row_mono h1 hb, h2.1, fun i h1 h3 => own_mono (h2.2 i h1 h3) hb⟩
/-- What a turning of blocks below base leaves of a list from base on. -/
theorem Made.kept {S : Nat → Prop} {base : Nat} {v : Value} {L : List (List Int)} {w w' : World} (h : Made base v L w) (k : Kept S w w') (hS : ∀ i, base ≤ i → ¬ S i) : Made base v L w' := by
  obtain ⟨vs, h1, h2⟩ := h
  refine ⟨vs, h1.keep (fun i hk => k.block _ (row_ge h1 hk).1 (hS i (row_ge h1 hk).2.1)), h2.1, fun i h3 h4 => (h2.2 i h3 h4).kept (fun g hg => k.block g ((h2.2 i h3 h4).lt hg).1 (hS g ((h2.2 i h3 h4).lt hg).2))⟩
theorem Made.lit {base : Nat} {v : Value} {L : List (List Int)} {w : World} (h : Made base v L w) : ∃ a c, v = .slice a L.length c := by
  obtain ⟨a, c, e, _⟩ := h.lsts
  exact ⟨a, c, e⟩
theorem Made.l {base : Nat} {a : Option Addr} {n c : Nat} {L : List (List Int)} {w : World} (h : Made base (.slice a n c) L w) : Lsts w a L := by
  obtain ⟨a, c, e, h, _⟩ := h.lsts
  injection e with e1 _ _
  subst e1
  exact h
theorem Made.at {base : Nat} {a : Option Addr} {n c : Nat} {L : List (List Int)} {w : World} (h : Made base (.slice a n c) L w) {i : Nat} (hi : i < L.length) :
    ∃ g ai di, a = some ⟨g, 0, none⟩ ∧ w.cell? ⟨g, i, none⟩ = some (.slice ai L[i].length di) ∧ Own w base (.slice ai L[i].length di) L[i] ∧ Lst w ai L[i] := by
  obtain ⟨vs, hrow, hw⟩ := h
  have hl := hw.1
  have hiv : i < vs.length := by omega
  obtain ⟨g, c2, hlv⟩ : ∃ g c2, Value.slice a n c = .slice (some ⟨g, 0, none⟩) vs.length c2 := by
    rcases hrow.2 with ⟨_, h0⟩ | ⟨g, cap, cur, h1, _⟩
    · omega
    · exact ⟨_, _, h1⟩
  rw [hlv] at hrow
  injection hlv with e1 _ _
  obtain ⟨_, _, _, cur, _, _, hcell⟩ := row_cells hrow
  have ho := hw.2 i hiv hi
  obtain ⟨ai, di, hv, hn, hin, _, hle⟩ := ho.shape
  rw [hv] at ho
  have := hcell i _ (List.getElem?_eq_getElem hiv)
  rw [hv, Nat.zero_add] at this
  exact ⟨g, ai, di, e1, this, ho, hin⟩
theorem madeR_new (w : World) (base : Nat) : MadeR w.heap.size base (.slice (some ⟨w.heap.size, 0, none⟩) 0 0) [] (w.alloc (.cells #[] 22)) :=
  ⟨[], ⟨rfl, .inr ⟨w.heap.size, 0, #[], rfl, Nat.le_refl _, heap_alloc_this _ _, Nat.le_refl _, Nat.zero_le _, rfl, rfl⟩⟩, rfl, fun i h => by simp at h⟩
theorem append_word {w : World} {ops : Array Oper} {rest : List Oper} {o : Oper} {a : Act} {Q : Exit → Act → World → Prop} (hgd : o.guard = none) (s x : Operand)
    (ho : o.op = .call { callee := .builtin .append, args := #[s, x], argTypes := #[29, 29] })
    (rb base : Nat) (v : Value) (hs : a.eval s = v) (L : List (List Int)) (hm : MadeR rb base v L w) (y : List Int) (u : Value) (hu : Own w base u y) (B : Nat) (hx : a.eval x = .slice (some ⟨B, 0, none⟩) 1 1)
    (hB : w.heap[B]? = some (.cells #[u] 22 (0, 0))) (hl : L.length ≤ 1000000) (hbase : rb ≤ w.heap.size)
    (h : ∀ g cap w', MadeR rb base (.slice (some ⟨g, 0, none⟩) (L.length + 1) cap) (L ++ [y]) w' → Below rb w w' → wpList Try.prog ops Q rest (a.put o.dst (.slice (some ⟨g, 0, none⟩) (L.length + 1) cap)) w') : wpList Try.prog ops Q (o :: rest) a w := by
  obtain ⟨i0, hi0, hz0, hz1, hz2⟩ := info_parts info22
  obtain ⟨vs, hrow, hwd⟩ := hm
  have hvl := hwd.1
  obtain ⟨ua, uc, hue, _⟩ := hu.shape
  refine wpList_append_lies w hgd s x 29 ho rb 22 i0 _ 1 24 Try.underlying29 hi0 hz0 hz1 hz2 rfl (by omega) v vs.length vs hs hrow ⟨B, 0, none⟩ 1 1 [u] hx rfl (World.news_of_block (cs := #[u]) (t := 22) (fr := (0, 0)) hB) (by rw [hue]; simp [Value.oneCell']) (by omega) (by simp only [maxLen]; omega) (by omega) hbase w.heap.size rfl ?_
  intro g cap w' hown hgrow _ _
  rw [hvl] at hown
  rw [hvl]
  refine h g cap w' ⟨vs ++ [u], ?_, words_snoc (hwd.keep (fun _ _ hk => grown3 hrow hgrow hk)) (own_grown3 hrow hgrow hu)⟩ ⟨hgrow.os, hgrow.tape, hgrow.output, hgrow.size, fun k hk => hgrow.block k (by omega) (fun e => by have := (row_ge hrow e.symm).2.1; omega)⟩
  show World.ownsRow _ _ _ _ _ _ _
  rw [List.length_append, hvl]
  exact hown
set_option maxHeartbeats 1000000 in
theorem rhas_any {a b : Option Addr} {ca cb : Nat} {L : List (List Int)} {x : List Int} {w : World} (h : Lsts w a L) (hx : Lst w b x) (hL : Short L) (hxl : x.length ≤ 10000) (hn : L.length ≤ 100000) :
    Calls Try.prog 26 #[.slice a L.length ca, .slice b x.length cb] w fun e w' => e = .returned (.bool (decide (x ∈ L))) ∧ ∃ n, w' = w.drewN n := by
  have HA := Lib.hid h
  have HX := Lib.hid hx
  clear h hx
  go_enter Try.func26, Try.ntmps26
  go_wp2
  go_loopw [5] (fun i wr => ∃ k : Nat, k ≤ L.length ∧ i = .int .i64 k ∧ Hid (x ∉ L.take k) ∧ ∃ n, wr = w.drewN n) (fun i _ => L.length - (intOf i).toNat)
  case atStart => exact ⟨0, by omega, rfl, Lib.hid (by simp), 0, rfl⟩
  case round =>
    obtain ⟨k, hk, rfl, hf, n, rfl⟩ := hrel
    by_cases hlt : k < L.length
    · have hki : (k : Int) < L.length := by omega
      have hk0 : (0 : Int) ≤ k := by omega
      obtain ⟨b1, o1, a1, d1, rfl, hb1, hc1, hx1, -, -⟩ := HA.out k hlt
      have h1 := hL _ (List.getElem_mem hlt)
      have HS := Lib.hid (same_any (ca := d1) (cb := cb) (w := w.drewN n) (lst_drewN hx1 n) (lst_drewN HX.out n) (by omega) (by omega))
      clear hx1
      by_cases he : L[k] = x
      · have HN : Hid (decide (x ∈ L) = true) := Lib.hid (decide_eq_true (he ▸ List.getElem_mem hlt))
        rw [decide_eq_true he] at HS
        clear he
        generalize L[k] = y at *
        go_wp2_with fail
        refine HS.out.mono ?_
        rintro e w1 ⟨rfl, m, rfl⟩
        go_wp2
        go_ret
        exact ⟨by rw [HN.out]; rfl, _, rfl⟩
      · have HT : Hid (x ∉ L.take (k + 1)) := Lib.hid (by
          rw [List.take_succ_eq_append_getElem hlt, List.mem_append]
          rintro (h | h)
          · exact hf.out h
          · exact he (List.mem_singleton.1 h).symm)
        rw [decide_eq_false he] at HS
        clear he
        generalize L[k] = y at *
        go_wp2_with fail
        refine HS.out.mono ?_
        rintro e w1 ⟨rfl, m, rfl⟩
        go_wp2
        go_roundw
        case rel => exact ⟨k + 1, by omega, by go_num, HT, _, rfl⟩
        case measure => simp [intOf]; omega
    · have hki : ¬ (k : Int) < L.length := by omega
      have HN : Hid (decide (x ∈ L) = false) := Lib.hid (decide_eq_false (by
        have h := hf.out
        rwa [List.take_of_length_le (by omega)] at h))
      go_wp2
      go_ret
      exact ⟨by rw [HN.out]; rfl, _, rfl⟩
end Go.Proofs.Ytoiinikbbkmjoaa
