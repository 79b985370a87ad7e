/- The word at the head of a text. Plain. -/
import Derived.Test.YticdihfjnmjkmaaRSkip
import Derived.Laws.Entries
namespace Go.Proofs.Yticdihfjnmjkmaa
open Go.RowKit
structure WordR where
  err : Int
  kind : Int
  text : List UInt8
  wt : Nat
  n : Nat
def badW (e : Int) : WordR := ⟨e, 0, [], 0, 0⟩
def nameW (c : UInt8) (r : List UInt8) : WordR := if 24 < runL innerB r + 1 then badW 1 else ⟨0, 1, c :: r.take (runL innerB r), 0, runL innerB r + 1⟩
def quotW (r : List UInt8) : WordR :=
  if runL quotableB r = r.length ∨ r[runL quotableB r]? ≠ some 39 ∨ runL quotableB r = 0 then badW 3 else
  if 16 < runL quotableB r then badW 1 else ⟨0, 2, r.take (runL quotableB r), 0, runL quotableB r + 2⟩
def wghtW (r : List UInt8) : WordR :=
  if (readL (r.take (runL weightB r))).isSome = true then ⟨0, 3, r.take (runL weightB r), (readL (r.take (runL weightB r))).getD 0, runL weightB r + 1⟩ else badW 4
def wordL : List UInt8 → WordR
  | [] => badW 2
  | c :: r =>
    if letterB (c.toNat : Int) = true then nameW c r else
    if (c.toNat : Int) = 39 then quotW r else
    if (c.toNat : Int) = 37 then wghtW r else
    if signB (c.toNat : Int) = true then ⟨0, 4, [c], 0, 1⟩ else badW 2
def wordA (s : ByteArray) (p : Nat) : WordR := wordL (tailL s p)
theorem cutS_bOf (s : ByteArray) (p n : Nat) : cutS s p n = bOf ((tailL s p).take n) := rfl
theorem ext_bOf (s : ByteArray) (p n : Nat) : s.extract p (p + n) = bOf ((tailL s p).take n) := by
  rw [extract_cutS, cutS_bOf, show p + n - p = n by omega]
theorem wordA_name {s : ByteArray} {p : Nat} (h : p < s.size) (hl : letterB (s[p].toNat : Int) = true) : wordA s p = if 24 < runA innerB s p then badW 1 else ⟨0, 1, (tailL s p).take (runA innerB s p), 0, runA innerB s p⟩ := by
  have hi : innerB (s[p].toNat : Int) = true := by unfold innerB; rw [hl]; rfl
  have e : runA innerB s p = runL innerB (tailL s (p + 1)) + 1 := runA_yes h hi
  unfold wordA
  rw [e, tailL_cons h]
  show (if letterB _ = true then _ else _) = _
  rw [if_pos hl]
  rfl
theorem wordA_quot {s : ByteArray} {p : Nat} (h : p < s.size) (hl : letterB (s[p].toNat : Int) = false) (hq : (s[p].toNat : Int) = 39) : wordA s p =
    if p + 1 + runA quotableB s (p + 1) = s.size ∨ (s[p + 1 + runA quotableB s (p + 1)]?.map fun c => (c.toNat : Int)) ≠ some 39 ∨ runA quotableB s (p + 1) = 0 then badW 3 else
    if 16 < runA quotableB s (p + 1) then badW 1 else ⟨0, 2, (tailL s (p + 1)).take (runA quotableB s (p + 1)), 0, runA quotableB s (p + 1) + 2⟩ := by
  unfold wordA
  rw [tailL_cons h]
  show (if letterB _ = true then _ else _) = _
  rw [if_neg (by rw [hl]; decide), if_pos hq]
  unfold quotW
  have e : runL quotableB (tailL s (p + 1)) = runA quotableB s (p + 1) := rfl
  rw [e]
  have hle := runA_le quotableB s (p + 1)
  generalize runA quotableB s (p + 1) = n at *
  have e1 : (n = (tailL s (p + 1)).length) = (p + 1 + n = s.size) := by
    rw [tailL_len]
    exact propext ⟨fun h => by omega, fun h => by omega⟩
  have e2 : ((tailL s (p + 1))[n]? ≠ some 39) = ((s[p + 1 + n]?.map fun c => (c.toNat : Int)) ≠ some 39) := by
    unfold tailL
    rw [List.getElem?_drop]
    by_cases h2 : p + 1 + n < s.size
    · rw [getElem?_pos s _ h2, byte_at s _ h2]
      simp [← UInt8.toNat_inj]
      constructor
      · intro h1 h2; exact h1 (by omega)
      · intro h1 h2; exact h1 (by omega)
    · rw [getElem?_neg s _ h2, List.getElem?_eq_none (by rw [size_len]; omega)]
      simp
  simp only [e1, e2]
theorem wordA_wght {s : ByteArray} {p : Nat} (h : p < s.size) (hl : letterB (s[p].toNat : Int) = false) (hq : (s[p].toNat : Int) = 37) : wordA s p =
    if (readL ((tailL s (p + 1)).take (runA weightB s (p + 1)))).isSome = true then ⟨0, 3, (tailL s (p + 1)).take (runA weightB s (p + 1)), (readL ((tailL s (p + 1)).take (runA weightB s (p + 1)))).getD 0, runA weightB s (p + 1) + 1⟩ else badW 4 := by
  unfold wordA
  rw [tailL_cons h]
  show (if letterB _ = true then _ else _) = _
  rw [if_neg (by rw [hl]; decide), if_neg (by omega), if_pos hq]
  rfl
theorem wordA_sign {s : ByteArray} {p : Nat} (h : p < s.size) (hl : letterB (s[p].toNat : Int) = false) (h1 : (s[p].toNat : Int) ≠ 39) (h2 : (s[p].toNat : Int) ≠ 37) : wordA s p = if signB (s[p].toNat : Int) = true then ⟨0, 4, (tailL s p).take 1, 0, 1⟩ else badW 2 := by
  unfold wordA
  rw [tailL_cons h]
  show (if letterB _ = true then _ else _) = _
  rw [if_neg (by rw [hl]; decide), if_neg h1, if_neg h2]
  rfl
/-- A word as a value: at a place. -/
def tokV (r : WordR) (p : Int) : Value := .agg #[.int .i64 r.kind, .int .i64 p, .string (bOf r.text), .float .f64 r.wt]
/-- What looking at a place answers. -/
def WordPost (s : ByteArray) (p : Nat) (w : World) (e : Ending) (w' : World) : Prop :=
  ∃ (v : Value) (n : Int), e = .returned (.tuple #[v, .int .i64 n, .int .i64 (wordA s p).err]) ∧ ((wordA s p).err = 0 → v = tokV (wordA s p) p ∧ n = (p : Int) + (wordA s p).n) ∧ (∃ (k a : Int) (t : ByteArray) (f : Nat), v = .agg #[.int .i64 k, .int .i64 a, .string t, .float .f64 f]) ∧ Below w.heap.size w w'
theorem word_good {s : ByteArray} {p : Nat} {w w' : World} {k : Int} {t : ByteArray} {l : List UInt8} {f n : Nat} {m : Int} (h : wordA s p = ⟨0, k, l, f, n⟩) (ht : t = bOf l) (hm : m = (p : Int) + n) (hb : Below w.heap.size w w') :
    WordPost s p w (.returned (.tuple #[.agg #[.int .i64 k, .int .i64 p, .string t, .float .f64 f], .int .i64 m, .int .i64 0])) w' := by
  refine ⟨.agg #[.int .i64 k, .int .i64 p, .string t, .float .f64 f], m, ?_, fun _ => ⟨?_, ?_⟩, ⟨k, p, t, f, rfl⟩, hb⟩
  · rw [h]
  · rw [h, ht]; rfl
  · rw [h, hm]
theorem word_bad {s : ByteArray} {p : Nat} {w w' : World} {k a : Int} {t : ByteArray} {f : Nat} {m : Int} {er : Int} (h : wordA s p = badW er) (h0 : er ≠ 0) (hb : Below w.heap.size w w') :
    WordPost s p w (.returned (.tuple #[.agg #[.int .i64 k, .int .i64 a, .string t, .float .f64 f], .int .i64 m, .int .i64 er])) w' := by
  refine ⟨.agg #[.int .i64 k, .int .i64 a, .string t, .float .f64 f], m, ?_, ?_, ⟨k, a, t, f, rfl⟩, hb⟩
  · rw [h]; rfl
  · rw [h]; exact fun x => absurd x h0
theorem slice_str (W : World) (s : ByteArray) (l h : Int) (h0 : 0 ≤ l) (h1 : l ≤ h) (h2 : h ≤ s.size) :
    (Instr.slice 9 (.string s) (some (.int .i64 l)) (some (.int .i64 h)) none).run Try.prog W = .ok (.string (s.extract l.toNat h.toNat)) W := by
  have eh : (h.toNat : Int) = h := Int.toNat_of_nonneg (by omega)
  simp [Instr.slice, run_underlying Try.underlying9, Instr.sliceBounds, run_sliceBound, *, (by omega : 0 ≤ h)]
theorem run_store_float (P : Program) (w : World) (a : Addr) (m : Mode) (k : FloatKind) (b : Nat) : (store a (.float k b) m).run P w = stored P w a (.float k b) m := run_store P w a _ m rfl
end Go.Proofs.Yticdihfjnmjkmaa
