/- The document's example of words holds. -/
import Derived.Test.YticdihfjnmjkmaaLexF
import Derived.Test.YticdihfjnmjkmaaPName
namespace Go.Proofs.Yticdihfjnmjkmaa
open Go.RowKit
def txt1 : List UInt8 := [101, 32, 61, 32, 37, 45, 48, 32, 39, 97, 39, 32, 101, 63, 32, 59, 32, 35, 32, 116, 119, 111, 10]
def txt2 : List UInt8 := [101, 32, 61, 32, 39, 97]
def toks1 (f : Nat) : List Tok := [⟨1, 0, [101], 0⟩, ⟨4, 2, [61], 0⟩, ⟨3, 4, [45, 48], f⟩, ⟨2, 8, [97], 0⟩, ⟨1, 12, [101], 0⟩, ⟨4, 13, [63], 0⟩, ⟨4, 15, [59], 0⟩, ⟨0, 23, [], 0⟩]
theorem lex1 : ∃ f, LexT txt1 (toks1 f) 0 0 := by
  refine ⟨(readL [45, 48]).getD 0, ?_⟩
  have h := lexF_ok 24 0 txt1 (by decide)
  have e : lexF 24 0 txt1 = (toks1 ((readL [45, 48]).getD 0), 0, 0) := by kernel_rfl
  rw [e] at h
  exact h
theorem lex2 : ∃ ts, LexT txt2 ts 3 4 := by
  have h := lexF_ok 24 0 txt2 (by decide)
  have e : (lexF 24 0 txt2).2 = (3, 4) := by kernel_rfl
  rw [e] at h
  exact ⟨_, h⟩
theorem nm1 : nameB ⟨#[97, 95, 49]⟩ = true := by decide
theorem nm2 : nameB ⟨#[49, 97]⟩ = false := by decide
theorem qt1 : quoteB ⟨#[43, 32]⟩ = true := by decide
theorem qt2 : quoteB ⟨#[]⟩ = false := by decide
theorem toks_cell {f : Nat} {w : World} {g : Nat} (h : ∀ o, o < (toks1 f).length * 4 → w.cell? ⟨g, o, none⟩ = (toksC (toks1 f))[o]?) :
    w.cell? ⟨g, 0, none⟩ = some (.int .i64 1) ∧ w.cell? ⟨g, 1, none⟩ = some (.int .i64 0) ∧ w.cell? ⟨g, 2, none⟩ = some (.string ⟨#[101]⟩) ∧ w.cell? ⟨g, 3, none⟩ = some (.float .f64 0) ∧
    w.cell? ⟨g, 12, none⟩ = some (.int .i64 2) ∧ w.cell? ⟨g, 13, none⟩ = some (.int .i64 8) ∧ w.cell? ⟨g, 14, none⟩ = some (.string ⟨#[97]⟩) ∧ w.cell? ⟨g, 15, none⟩ = some (.float .f64 0) ∧
    w.cell? ⟨g, 28, none⟩ = some (.int .i64 0) ∧ w.cell? ⟨g, 29, none⟩ = some (.int .i64 23) :=
  ⟨h 0 (by simp [toks1]), h 1 (by simp [toks1]), h 2 (by simp [toks1]), h 3 (by simp [toks1]), h 12 (by simp [toks1]), h 13 (by simp [toks1]), h 14 (by simp [toks1]), h 15 (by simp [toks1]), h 28 (by simp [toks1]), h 29 (by simp [toks1])⟩
theorem al1 (w : World) : Calls Try.prog 11 #[.string ⟨#[101, 32, 61, 32, 37, 45, 48, 32, 39, 97, 39, 32, 101, 63, 32, 59, 32, 35, 32, 116, 119, 111, 10]⟩] w fun e w' =>
    ∃ g cap, e = .returned (.tuple #[.slice (some ⟨g, 0, none⟩) 8 cap, .agg #[.int .i64 0, .int .i64 0]]) ∧ g < w'.heap.size ∧ 8 ≤ cap ∧ Below w.heap.size w w' ∧
    w'.cell? ⟨g, 0, none⟩ = some (.int .i64 1) ∧ w'.cell? ⟨g, 1, none⟩ = some (.int .i64 0) ∧ w'.cell? ⟨g, 2, none⟩ = some (.string ⟨#[101]⟩) ∧ w'.cell? ⟨g, 3, none⟩ = some (.float .f64 0) ∧
    w'.cell? ⟨g, 12, none⟩ = some (.int .i64 2) ∧ w'.cell? ⟨g, 13, none⟩ = some (.int .i64 8) ∧ w'.cell? ⟨g, 14, none⟩ = some (.string ⟨#[97]⟩) ∧ w'.cell? ⟨g, 15, none⟩ = some (.float .f64 0) ∧
    w'.cell? ⟨g, 28, none⟩ = some (.int .i64 0) ∧ w'.cell? ⟨g, 29, none⟩ = some (.int .i64 23) := by
  obtain ⟨f, hf⟩ := lex1
  refine (pall_any ⟨#[101, 32, 61, 32, 37, 45, 48, 32, 39, 97, 39, 32, 101, 63, 32, 59, 32, 35, 32, 116, 119, 111, 10]⟩ (by decide) (toks1 f) 0 0 hf w).mono ?_
  rintro e w' ⟨v, rfl, ho, _, hb⟩
  obtain ⟨g, cap, rfl, _, hg, hc, hcell⟩ := (ho rfl).row (by simp [toks1])
  exact ⟨g, cap, rfl, hg, hc, hb, toks_cell hcell⟩
theorem al2 (w : World) : Calls Try.prog 11 #[.string ⟨#[101, 32, 61, 32, 39, 97]⟩] w fun e w' => e = .returned (.tuple #[.slice none 0 0, .agg #[.int .i64 3, .int .i64 4]]) ∧ Below w.heap.size w w' := by
  obtain ⟨ts, hts⟩ := lex2
  refine (pall_any ⟨#[101, 32, 61, 32, 39, 97]⟩ (by decide) ts 3 4 hts w).mono ?_
  rintro e w' ⟨v, rfl, _, ho, hb⟩
  obtain rfl := ho (by decide)
  exact ⟨rfl, hb⟩
theorem run_equalIn_float (d : Nat) (a b : Nat) (w : World) : (Op.equalIn (d + 1) 34 (.float .f64 a) (.float .f64 b)).run Try.prog w = .ok (Op.floatEq .f64 a b) w := by
  simp [Op.equalIn, run_underlying Try.underlying34]
theorem feq0 : Op.floatEq .f64 0 0 = true := by kernel_rfl
theorem run_eqf0 (w : World) : (Op.equalIn 9999 34 (.float .f64 0) (.float .f64 0)).run Try.prog w = .ok true w := (run_equalIn_float 9998 0 0 w).trans (by rw [feq0])
attribute [local go_sem] run_eqf0
set_option maxRecDepth 100000 in
set_option maxHeartbeats 1000000 in
theorem alive_any (w : World) : Calls Try.prog 10 #[] w fun e w' => e = .returned (.bool true) ∧ Below w.heap.size w w' := by
  have HN := fun s W h => Lib.hid (pname_any s h W)
  have HQ := fun s W h => Lib.hid (pquote_any s h W)
  go_enter Try.func10, Try.ntmps10
  go_wp2_with fail
  refine (al1 _).mono ?_
  rintro e w1 ⟨g, cap, rfl, hg, hcap, hb1, c0, c1, c2, c3, c4, c5, c6, c7, c8, c9⟩
  go_wp2_with fail
  refine (al2 _).mono ?_
  rintro e w2 ⟨rfl, hb2⟩
  have hB : Below w1.heap.size w1 w2 := (below_one _ _).trans (hb2.mono (by simp))
  obtain ⟨f0, f1, f2, f3⟩ := fcell (hb2.mono (by simp))
  have d0 := (hB.cell (p := ⟨g, 0, none⟩) hg).trans c0
  have d1 := (hB.cell (p := ⟨g, 1, none⟩) hg).trans c1
  have d2 := (hB.cell (p := ⟨g, 2, none⟩) hg).trans c2
  have d3 := (hB.cell (p := ⟨g, 3, none⟩) hg).trans c3
  have d4 := (hB.cell (p := ⟨g, 12, none⟩) hg).trans c4
  have d5 := (hB.cell (p := ⟨g, 13, none⟩) hg).trans c5
  have d6 := (hB.cell (p := ⟨g, 14, none⟩) hg).trans c6
  have d7 := (hB.cell (p := ⟨g, 15, none⟩) hg).trans c7
  have d8 := (hB.cell (p := ⟨g, 28, none⟩) hg).trans c8
  have d9 := (hB.cell (p := ⟨g, 29, none⟩) hg).trans c9
  have hw2 := hB.size
  have hBB := Lib.hid (hb1.trans (hB.mono hb1.size))
  have hgl : g < w2.heap.size := by omega
  have hwl : w1.heap.size < w2.heap.size := by have := hb2.size; simp only [World.size_alloc] at this; omega
  have hne : g ≠ w2.heap.size := by omega
  have hne2 : w1.heap.size ≠ w2.heap.size := by omega
  clear hb1 hb2 hB c0 c1 c2 c3 c4 c5 c6 c7 c8 c9
  go_wp2_with (first
    | (go_at_call 14; refine (HN _ _ (by decide)).out.mono ?_; rintro e w' ⟨rfl, rfl⟩; simp only [nm1, nm2])
    | (go_at_call 16; refine (HQ _ _ (by decide)).out.mono ?_; rintro e w' ⟨rfl, rfl⟩; simp only [qt1, qt2]))
  go_ret
  exact ⟨rfl, hBB.out.alloc hBB.out.size _⟩
end Go.Proofs.Yticdihfjnmjkmaa
