/- The document's example of definitions. -/
import Derived.Test.YticdihfjnmjkmaaRd5
namespace Go.Proofs.Yticdihfjnmjkmaa
open Go.RowKit
def psF : Nat → Ph → Nat → List Tok → Option Out
  | 0, _, _, _ => none
  | n + 1, .alts, d, l => match psF n .alt d l with
    | some (.ok a l1) => (psF n .more d l1).map (·.pres a)
    | some (.err e p) => some (.err e p)
    | none => none
  | n + 1, .more, d, l => match l with
    | [] => none
    | t :: r => if sgnB t [124] = true then match psF n .alt d r with
        | some (.ok a l1) => (psF n .more d l1).map (·.pres a)
        | some (.err e p) => some (.err e p)
        | none => none
      else some (.ok [] (t :: r))
  | n + 1, .alt, d, l => match l with
    | [] => none
    | t :: r => (psF n .items d (if t.kind = 3 then r else t :: r)).map (·.alt t)
  | n + 1, .items, d, l => match l with
    | [] => none
    | t :: r => if startB t = true then match psF n .item d (t :: r) with
        | some (.ok a l1) => (psF n .items d l1).map (·.pres a)
        | some (.err e p) => some (.err e p)
        | none => none
      else some (.ok [] (t :: r))
  | n + 1, .item, d, l => match l with
    | [] => none
    | t :: r => if t.kind = 1 ∨ t.kind = 2 then some (.ok [wordN t (opP r).1] (opP r).2)
      else if sgnB t [40] = true then if d = 16 then some (.err 6 t.pos) else match psF n .alts (d + 1) r with
        | some (.err e p) => some (.err e p)
        | some (.ok ks (u :: r')) => if sgnB u [41] = true then some (.ok [groupN t (opP r').1 ks] (opP r').2) else some (.err 5 u.pos)
        | some (.ok _ []) => none
        | none => none
      else none
theorem psF_ok : ∀ (n : Nat) (ph : Ph) (d : Nat) (l : List Tok) (o : Out), psF n ph d l = some o → Ps ph d l o
  | 0, _, _, _, _, h => by cases h
  | n + 1, .alts, d, l, o, h => by
    simp only [psF] at h
    split at h
    · rename_i a l1 h1
      obtain ⟨o1, h2, rfl⟩ := Option.map_eq_some_iff.1 h
      exact .alts (psF_ok n _ _ _ _ h1) (psF_ok n _ _ _ _ h2)
    · rename_i e p h1
      cases h
      exact .alts_err (psF_ok n _ _ _ _ h1)
    · cases h
  | n + 1, .more, d, l, o, h => by
    cases l with
    | nil => simp only [psF] at h; cases h
    | cons t r =>
      simp only [psF] at h
      split at h
      · rename_i hs
        split at h
        · rename_i a l1 h1
          obtain ⟨o1, h2, rfl⟩ := Option.map_eq_some_iff.1 h
          exact .more hs (psF_ok n _ _ _ _ h1) (psF_ok n _ _ _ _ h2)
        · rename_i e p h1
          cases h
          exact .more_err hs (psF_ok n _ _ _ _ h1)
        · cases h
      · rename_i hs
        cases h
        exact .more_nil (by simpa using hs)
  | n + 1, .alt, d, l, o, h => by
    cases l with
    | nil => simp only [psF] at h; cases h
    | cons t r =>
      simp only [psF] at h
      obtain ⟨o1, h2, rfl⟩ := Option.map_eq_some_iff.1 h
      exact .alt (psF_ok n _ _ _ _ h2)
  | n + 1, .items, d, l, o, h => by
    cases l with
    | nil => simp only [psF] at h; cases h
    | cons t r =>
      simp only [psF] at h
      split at h
      · rename_i hs
        split at h
        · rename_i a l1 h1
          obtain ⟨o1, h2, rfl⟩ := Option.map_eq_some_iff.1 h
          exact .items hs (psF_ok n _ _ _ _ h1) (psF_ok n _ _ _ _ h2)
        · rename_i e p h1
          cases h
          exact .items_err hs (psF_ok n _ _ _ _ h1)
        · cases h
      · rename_i hs
        cases h
        exact .items_nil (by simpa using hs)
  | n + 1, .item, d, l, o, h => by
    cases l with
    | nil => simp only [psF] at h; cases h
    | cons t r =>
      simp only [psF] at h
      split at h
      · rename_i hk
        cases h
        exact .word hk
      · split at h
        · rename_i hg
          split at h
          · rename_i hd
            cases h
            exact .deep hg hd
          · rename_i hd
            split at h
            · rename_i e p h1
              cases h
              exact .group_err hg hd (psF_ok n _ _ _ _ h1)
            · rename_i ks u r' h1
              split at h
              · rename_i hc
                cases h
                exact .group hg hd (psF_ok n _ _ _ _ h1) hc
              · rename_i hc
                cases h
                exact .close hg hd (psF_ok n _ _ _ _ h1) (by simpa using hc)
            · cases h
            · cases h
        · cases h
def pdF (n : Nat) (l : List Tok) : Option Out := match l with
  | t :: u :: r => if t.kind = 1 then if sgnB u [61] = true then match psF n .alts 0 r with
      | some (.err e p) => some (.err e p)
      | some (.ok ks (x :: r2)) => if sgnB x [59] = true then some (.ok [defN t ks] r2) else some (.err 5 x.pos)
      | some (.ok _ []) => none
      | none => none
    else some (.err 5 u.pos) else some (.err 5 t.pos)
  | [t] => if t.kind = 1 then none else some (.err 5 t.pos)
  | [] => none
theorem pdF_ok {n : Nat} {l : List Tok} {o : Out} (h : pdF n l = some o) : Pd l o := by
  unfold pdF at h
  split at h
  · split at h
    · rename_i hk
      split at h
      · rename_i hu
        split at h
        · rename_i h1; cases h; exact .alts_err hk hu (psF_ok _ _ _ _ _ h1)
        · rename_i h1
          split at h
          · rename_i hx; cases h; exact .ok hk hu (psF_ok _ _ _ _ _ h1) hx
          · rename_i hx; cases h; exact .nosemi hk hu (psF_ok _ _ _ _ _ h1) (by simpa using hx)
        · cases h
        · cases h
      · rename_i hu; cases h; exact .noeq hk (by simpa using hu)
    · rename_i hk; cases h; exact .bad hk
  · split at h
    · cases h
    · rename_i hk; cases h; exact .bad hk
  · cases h
def pdsF (f : Nat) : Nat → Bool → List Tok → Option Out
  | 0, _, _ => none
  | n + 1, m, l => match l with
    | [] => none
    | t :: r => if m = true ∨ t.kind ≠ 0 then match pdF f (t :: r) with
        | some (.ok a r1) => (pdsF f n false r1).map (·.pres a)
        | some (.err e p) => some (.err e p)
        | none => none
      else some (.ok [] (t :: r))
theorem pdsF_ok {f : Nat} : ∀ (n : Nat) (m : Bool) (l : List Tok) (o : Out), pdsF f n m l = some o → Pds m l o
  | 0, _, _, _, h => by cases h
  | n + 1, m, l, o, h => by
    cases l with
    | nil => simp only [pdsF] at h; cases h
    | cons t r =>
      simp only [pdsF] at h
      split at h
      · rename_i hc
        split at h
        · rename_i a r1 h1
          obtain ⟨o1, h2, rfl⟩ := Option.map_eq_some_iff.1 h
          exact .one hc (pdF_ok h1) (pdsF_ok n _ _ _ h2)
        · rename_i e p h1
          cases h
          exact .err hc (pdF_ok h1)
        · cases h
      · rename_i hc
        cases h
        have hm : m = false := by cases m <;> simp_all
        subst hm
        exact .nil (by simp at hc; exact hc)
theorem read_two : readL [50] = some 4611686018427387904 := by kernel_rfl
end Go.Proofs.Yticdihfjnmjkmaa
namespace Go.Proofs.Yticdihfjnmjkmaa
open Go.RowKit
theorem LexL.ends {p : Nat} {l : List UInt8} {ts : List Tok} {e : Int} {a : Nat} (h : LexL p l ts e a) : e = 0 → Ends ts := by
  induction h with
  | fin p => exact fun _ => ⟨[], _, rfl, rfl⟩
  | err p l h1 h2 => exact fun h => absurd h h2
  | tok p l ts e a h1 h2 _ ih =>
    intro he
    obtain ⟨m, t, rfl, ht⟩ := ih he
    exact ⟨_ :: m, t, rfl, ht⟩
/-- What a text of definitions reads as. -/
def ParseT (s : ByteArray) (o : Out) : Prop := (s.size ≤ 65536 ∧ ((∃ ts, LexT s.data.toList ts 0 0 ∧ Pds true ts o) ∨ ∃ ts er a, er ≠ 0 ∧ LexT s.data.toList ts er a ∧ o = .err er a)) ∨ (65536 < s.size ∧ o = .err 1 0)
theorem parse_any {s : ByteArray} {o : Out} (h : ParseT s o) (w : World) : Calls Try.prog 20 #[.string s] w (ParsePost o w) := by
  rcases h with ⟨hs, ⟨ts, hl, hp⟩ | ⟨ts, er, a, he, hl, rfl⟩⟩ | ⟨hs, rfl⟩
  · have hlen := hl.len
    rw [size_len] at hlen
    exact parse_ok hs hl (LexL.ends hl rfl) (by omega) hp w
  · refine parse_lex (ts := []) (fun w => (pall_no hs hl he w).mono ?_) he w
    rintro e w' ⟨rfl, hb⟩
    exact ⟨none, 0, rfl, toksAt_nil _ _ _, hb⟩
  · refine parse_lex (ts := []) (a := 0) (fun w => (pall_long s hs w).mono ?_) (by decide) w
    rintro e w' ⟨v, rfl, _, h1, hb⟩
    obtain rfl := h1 (by decide)
    exact ⟨none, 0, rfl, toksAt_nil _ _ _, hb⟩
theorem parse_total (s : ByteArray) : ∃ o, ParseT s o := by
  by_cases hs : s.size ≤ 65536
  · obtain ⟨ts, er, a, h⟩ : ∃ ts er a, LexT s.data.toList ts er a := lex_total _ _ _ (Nat.le_refl _)
    by_cases he : er = 0
    · subst he
      obtain rfl := LexL.zero h rfl
      obtain ⟨o, ho⟩ := pds_total (ts.length + 1) true ts (LexL.ends h rfl) (by omega)
      exact ⟨o, .inl ⟨hs, .inl ⟨ts, h, ho⟩⟩⟩
    · exact ⟨_, .inl ⟨hs, .inr ⟨ts, er, a, he, h, rfl⟩⟩⟩
  · exact ⟨_, .inr ⟨by omega, rfl⟩⟩
/-- The cells of a row. -/
theorem row_cells {w : World} {lo : Nat} {e : TypeId} {sz : Nat} {v : Value} {n : Nat} {xs : List Value} (h : w.ownsRow lo e sz v n xs) (hn : 0 < n) :
    ∃ g cap, v = .slice (some ⟨g, 0, none⟩) n cap ∧ lo ≤ g ∧ g < w.heap.size ∧ n ≤ cap ∧ ∀ j, j < xs.length → w.cell? ⟨g, j, none⟩ = xs[j]? := by
  obtain ⟨h1, h2⟩ := h
  rcases h2 with ⟨_, h0⟩ | ⟨g, cap, cur, rfl, hg, hh, hcap, _, _, ht⟩
  · omega
  · refine ⟨g, cap, rfl, hg, lt_of_block hh, hcap, fun j hj => ?_⟩
    rw [cell_of_block hh, ← ht, List.getElem?_take_of_lt (by omega)]
    simp
theorem row_shape {w : World} {lo : Nat} {e : TypeId} {sz : Nat} {v : Value} {n : Nat} {xs : List Value} (h : w.ownsRow lo e sz v n xs) : ∃ a c, v = .slice a n c := by
  rcases h.2 with ⟨rfl, h0⟩ | ⟨g, cap, cur, rfl, _⟩
  · rw [h0]; exact ⟨_, _, rfl⟩
  · exact ⟨_, _, rfl⟩
theorem pn_inv {m : MN} {a b : List Value} {ks : List PN} (h : m.pn = .node a b ks) : ∃ v kids, m = .node a b v kids ∧ kids.map MN.pn = ks := by
  obtain ⟨a', b', v, kids⟩ := m
  simp only [MN.pn, PN.node.injEq, MN.pnL_map] at h
  obtain ⟨rfl, rfl, rfl⟩ := h
  exact ⟨v, kids, rfl, rfl⟩
def t5a : List UInt8 := [101, 32, 61, 32, 37, 50, 32, 39, 97, 39, 32, 40, 101, 32, 124, 32, 41, 42, 32, 59, 32, 102, 32, 61, 32, 59]
def t5b : List UInt8 := [101, 32, 61, 32, 40, 32, 59]
def two : Nat := 4611686018427387904
def k5a : List Tok := [⟨1, 0, [101], 0⟩, ⟨4, 2, [61], 0⟩, ⟨3, 4, [50], two⟩, ⟨2, 7, [97], 0⟩, ⟨4, 11, [40], 0⟩, ⟨1, 12, [101], 0⟩, ⟨4, 14, [124], 0⟩, ⟨4, 16, [41], 0⟩, ⟨4, 17, [42], 0⟩, ⟨4, 19, [59], 0⟩, ⟨1, 21, [102], 0⟩, ⟨4, 23, [61], 0⟩, ⟨4, 25, [59], 0⟩, ⟨0, 26, [], 0⟩]
def k5b : List Tok := [⟨1, 0, [101], 0⟩, ⟨4, 2, [61], 0⟩, ⟨4, 4, [40], 0⟩, ⟨4, 6, [59], 0⟩, ⟨0, 7, [], 0⟩]
theorem lex5a : LexT t5a k5a 0 0 := by
  have h := lexF_ok 40 0 t5a (by decide)
  have e : lexF 40 0 t5a = (k5a, 0, 0) := by kernel_rfl
  rw [e] at h
  exact h
theorem lex5b : LexT t5b k5b 0 0 := by
  have h := lexF_ok 40 0 t5b (by decide)
  have e : lexF 40 0 t5b = (k5b, 0, 0) := by kernel_rfl
  rw [e] at h
  exact h
def d5a : List PN :=
  [.node [.int .i64 0, .string ⟨#[101]⟩] [] [.node [.int .i64 4, .float .f64 two] [] [.node [.int .i64 7, .int .i64 1, .string ⟨#[97]⟩] [.int .u8 0] [],
      .node [.int .i64 11, .int .i64 2, .string ⟨#[]⟩] [.int .u8 42] [.node [.int .i64 12, .float .f64 0] [] [.node [.int .i64 12, .int .i64 0, .string ⟨#[101]⟩] [.int .u8 0] []], .node [.int .i64 16, .float .f64 0] [] []]]],
    .node [.int .i64 21, .string ⟨#[102]⟩] [] [.node [.int .i64 25, .float .f64 0] [] []]]
theorem read5a : ParseT ⟨t5a.toArray⟩ (.ok d5a [⟨0, 26, [], 0⟩]) :=
  .inl ⟨by decide, .inl ⟨k5a, lex5a, pdsF_ok (f := 60) 5 true k5a _ (by kernel_rfl)⟩⟩
theorem read5b : ParseT ⟨t5b.toArray⟩ (.err 5 6) :=
  .inl ⟨by decide, .inl ⟨k5b, lex5b, pdsF_ok (f := 60) 5 true k5b _ (by kernel_rfl)⟩⟩
theorem al5b (w : World) : Calls Try.prog 20 #[.string ⟨#[101, 32, 61, 32, 40, 32, 59]⟩] w fun e w' => e = .returned (.tuple #[.slice none 0 0, .agg #[.int .i64 5, .int .i64 6]]) ∧ Below w.heap.size w w' := parse_any read5b w
def Ex5 (w : World) (e : Ending) (w' : World) : Prop :=
  ∃ g0 c0 g1 c1 g2 c2 g3 c3 a4 c4 a5 c5, e = .returned (.tuple #[.slice (some ⟨g0, 0, none⟩) 2 c0, .agg #[.int .i64 0, .int .i64 0]]) ∧ Below w.heap.size w w' ∧ g0 < w'.heap.size ∧ g1 < w'.heap.size ∧ g2 < w'.heap.size ∧ g3 < w'.heap.size ∧ 2 ≤ c0 ∧ 1 ≤ c1 ∧ 2 ≤ c2 ∧ 2 ≤ c3 ∧
    w'.cell? ⟨g0, 0, none⟩ = some (.int .i64 0) ∧ w'.cell? ⟨g0, 1, none⟩ = some (.string ⟨#[101]⟩) ∧ w'.cell? ⟨g0, 2, none⟩ = some (.slice (some ⟨g1, 0, none⟩) 1 c1) ∧ w'.cell? ⟨g0, 3, none⟩ = some (.int .i64 21) ∧ w'.cell? ⟨g0, 5, none⟩ = some (.slice a5 1 c5) ∧
    w'.cell? ⟨g1, 1, none⟩ = some (.float .f64 two) ∧ w'.cell? ⟨g1, 2, none⟩ = some (.slice (some ⟨g2, 0, none⟩) 2 c2) ∧
    w'.cell? ⟨g2, 5, none⟩ = some (.int .i64 11) ∧ w'.cell? ⟨g2, 6, none⟩ = some (.int .i64 2) ∧ w'.cell? ⟨g2, 7, none⟩ = some (.string ⟨#[]⟩) ∧ w'.cell? ⟨g2, 8, none⟩ = some (.slice (some ⟨g3, 0, none⟩) 2 c3) ∧ w'.cell? ⟨g2, 9, none⟩ = some (.int .u8 42) ∧
    w'.cell? ⟨g3, 5, none⟩ = some (.slice a4 0 c4)
theorem map2 {ms : List MN} {a b : PN} (h : ms.map MN.pn = [a, b]) : ∃ x y, ms = [x, y] ∧ x.pn = a ∧ y.pn = b := by
  match ms, h with
  | [x, y], h => simp at h; exact ⟨x, y, rfl, h.1, h.2⟩
theorem map1 {ms : List MN} {a : PN} (h : ms.map MN.pn = [a]) : ∃ x, ms = [x] ∧ x.pn = a := by
  match ms, h with
  | [x], h => simp at h; exact ⟨x, rfl, h⟩
theorem map0 {ms : List MN} (h : ms.map MN.pn = []) : ms = [] := by simpa using h
theorem al5a (w : World) : Calls Try.prog 20 #[.string ⟨#[101, 32, 61, 32, 37, 50, 32, 39, 97, 39, 32, 40, 101, 32, 124, 32, 41, 42, 32, 59, 32, 102, 32, 61, 32, 59]⟩] w (Ex5 w) := by
  refine (parse_any read5a w).mono ?_
  rintro e w' ⟨a, c, ms, rfl, hms, hrow, hb⟩
  unfold d5a at hms
  obtain ⟨x, y, rfl, hx, hy⟩ := map2 hms
  obtain ⟨v1, k1, rfl, h1⟩ := pn_inv hx
  obtain ⟨v2, k2, rfl, h2⟩ := pn_inv hy
  obtain ⟨z, rfl, hz⟩ := map1 h1
  obtain ⟨v3, k3, rfl, h3⟩ := pn_inv hz
  obtain ⟨p, q, rfl, hp, hq⟩ := map2 h3
  obtain ⟨v4, k4, rfl, h4⟩ := pn_inv hp
  obtain ⟨v5, k5, rfl, h5⟩ := pn_inv hq
  obtain ⟨r, s, rfl, hr, hs⟩ := map2 h5
  obtain ⟨v6, k6, rfl, h6⟩ := pn_inv hr
  obtain ⟨v7, k7, rfl, h7⟩ := pn_inv hs
  obtain rfl := map0 h7
  obtain ⟨u, rfl, hu⟩ := map1 h2
  have r0 := hrow.row
  have l1 := hrow.lies _ List.mem_cons_self
  have l2 := hrow.lies _ (List.mem_cons_of_mem _ List.mem_cons_self)
  obtain ⟨m1, _, m2⟩ := l1
  obtain ⟨n1, _, _⟩ := l2
  have m3 := MN.atL_iff.1 m2 _ List.mem_cons_self
  obtain ⟨m4, _, m5⟩ := m3
  have m6 := MN.atL_iff.1 m5 _ (List.mem_cons_of_mem _ List.mem_cons_self)
  obtain ⟨m7, _, m8⟩ := m6
  have m9 := MN.atL_iff.1 m8 _ (List.mem_cons_of_mem _ List.mem_cons_self)
  obtain ⟨m10, _, _⟩ := m9
  obtain ⟨a7, c7, rfl⟩ := row_shape m10
  obtain ⟨g3, c3, rfl, _, hg3, hc3, f3⟩ := row_cells m7 (by simp)
  obtain ⟨g2, c2, rfl, _, hg2, hc2, f2⟩ := row_cells m4 (by simp)
  obtain ⟨g1, c1, rfl, _, hg1, hc1, f1⟩ := row_cells m1 (by simp)
  obtain ⟨a5, c5, rfl⟩ := row_shape n1
  obtain ⟨g0, c0, hv, _, hg0, hc0, f0⟩ := row_cells r0 (by simp)
  obtain ⟨rfl, rfl⟩ : a = some ⟨g0, 0, none⟩ ∧ c = c0 := by simpa using hv
  exact ⟨g0, c, g1, c1, g2, c2, g3, c3, a7, c7, a5, c5, rfl, hb, hg0, hg1, hg2, hg3, by simpa using hc0, by simpa using hc1, by simpa using hc2, by simpa using hc3,
    f0 0 (by simp [rowC, MN.cells]), f0 1 (by simp [rowC, MN.cells]), f0 2 (by simp [rowC, MN.cells]), f0 3 (by simp [rowC, MN.cells]), f0 5 (by simp [rowC, MN.cells]), f1 1 (by simp [rowC, MN.cells]), f1 2 (by simp [rowC, MN.cells]),
    f2 5 (by simp [rowC, MN.cells]), f2 6 (by simp [rowC, MN.cells]), f2 7 (by simp [rowC, MN.cells]), f2 8 (by simp [rowC, MN.cells]), f2 9 (by simp [rowC, MN.cells]), f3 5 (by simp [rowC, MN.cells])⟩
end Go.Proofs.Yticdihfjnmjkmaa
namespace Go.Proofs.Yticdihfjnmjkmaa
open Go.RowKit
attribute [local go_sem] run_store_float
set_option maxRecDepth 100000 in
set_option maxHeartbeats 2000000 in
theorem alive5_any (w : World) : Calls Try.prog 19 #[] w fun e w' => e = .returned (.bool true) ∧ Below w.heap.size w w' := by
  go_enter Try.func19, Try.ntmps19
  go_wp2_with fail
  refine (al5a _).mono ?_
  rintro e w1 ⟨g0, c0, g1, c1, g2, c2, g3, c3, a4, c4, a5, c5, rfl, hb1, hg0, hg1, hg2, hg3, hc0, hc1, hc2, hc3, d0, d1, d2, d3, d4, d5, d6, d7, d8, d9, d10, d11, d12⟩
  go_wp2_with fail
  refine (al5b _).mono ?_
  rintro e w2 ⟨rfl, hb2⟩
  have hs1 := hb1.size
  have hs2 := hb2.size
  simp only [World.size_alloc] at hs2
  have hc : ∀ b o v, b < w1.heap.size → w1.cell? ⟨b, o, none⟩ = some v → w2.cell? ⟨b, o, none⟩ = some v := fun b o v hb h => (below_cell hb2 (by simp only [World.size_alloc]; omega)).trans (cell_alloc_keep hb h)
  have E0 := hc _ _ _ hg0 d0
  have E1 := hc _ _ _ hg0 d1
  have E2 := hc _ _ _ hg0 d2
  have E3 := hc _ _ _ hg0 d3
  have E4 := hc _ _ _ hg0 d4
  have E5 := hc _ _ _ hg1 d5
  have E6 := hc _ _ _ hg1 d6
  have E7 := hc _ _ _ hg2 d7
  have E8 := hc _ _ _ hg2 d8
  have E9 := hc _ _ _ hg2 d9
  have E10 := hc _ _ _ hg2 d10
  have E11 := hc _ _ _ hg2 d11
  have E12 := hc _ _ _ hg3 d12
  have q0 := (below_cell (b := w1.heap.size) (off := 0) hb2 (by simp)).trans (cell_of_block (off := 0) (heap_alloc_this w1 (.cells #[.int .i64 0, .int .i64 0] 26)))
  have q1 := (below_cell (b := w1.heap.size) (off := 1) hb2 (by simp)).trans (cell_of_block (off := 1) (heap_alloc_this w1 (.cells #[.int .i64 0, .int .i64 0] 26)))
  simp only [List.getElem?_toArray, List.getElem?_cons_succ, List.getElem?_cons_zero] at q0 q1
  have hl0 : g0 < w2.heap.size := by omega
  have hl1 : g1 < w2.heap.size := by omega
  have hl2 : g2 < w2.heap.size := by omega
  have hl3 : g3 < w2.heap.size := by omega
  have hl4 : w1.heap.size < w2.heap.size := by omega
  have n00 : g0 ≠ w2.heap.size := by omega
  have n01 : g0 ≠ w2.heap.size + 1 := by omega
  have n02 : g0 ≠ w2.heap.size + 1 + 1 := by omega
  have n30 : g3 ≠ w2.heap.size := by omega
  have n31 : g3 ≠ w2.heap.size + 1 := by omega
  have n32 : g3 ≠ w2.heap.size + 1 + 1 := by omega
  have m0 : g0 < w2.heap.size + 1 + 1 := by omega
  have m3 : g3 < w2.heap.size + 1 + 1 := by omega
  have hord : FloatKind.f64.format.order two 4611686018427387904 = some Ordering.eq := by kernel_rfl
  have HB := Lib.hid ((hb1.trans ((below_one w1 (.cells #[.int .i64 0, .int .i64 0] 26)).mono hs1)).trans (hb2.mono (by simp only [World.size_alloc]; omega)))
  clear hc d0 d1 d2 d3 d4 d5 d6 d7 d8 d9 d10 d11 d12 hb1 hb2
  go_wp2_with fail
  go_ret
  exact ⟨rfl, ((HB.out.alloc (by omega) _).alloc (by simp only [World.size_alloc]; omega) _).alloc (by simp only [World.size_alloc]; omega) _⟩
end Go.Proofs.Yticdihfjnmjkmaa
