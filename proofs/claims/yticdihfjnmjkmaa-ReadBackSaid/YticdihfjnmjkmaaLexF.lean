/- The words of a text, computed; how the program's lists of them read. -/
import Derived.Test.YticdihfjnmjkmaaRAllL
namespace Go.Proofs.Yticdihfjnmjkmaa
open Go.RowKit
def lexF : Nat → Nat → List UInt8 → List Tok × Int × Nat
  | 0, _, _ => ([], 0, 0)
  | n + 1, p, l => if l.isEmpty = true then ([endTok p], 0, 0) else if (wordL l).err = 0 then (tokAt (wordL l) p :: (lexF n (p + stepL l) (l.drop (stepL l))).1, (lexF n (p + stepL l) (l.drop (stepL l))).2) else ([], (wordL l).err, p)
theorem lexF_ok : ∀ (n p : Nat) (l : List UInt8), l.length < n → LexL p l (lexF n p l).1 (lexF n p l).2.1 (lexF n p l).2.2
  | 0, _, _, h => by omega
  | n + 1, p, [], _ => .fin p
  | n + 1, p, c :: r, h => by
    unfold lexF
    rw [if_neg (by simp)]
    split
    · rename_i he
      obtain ⟨h2, h3⟩ := stepL_le he
      exact .tok p _ _ _ _ (by simp) he (lexF_ok n _ _ (by rw [List.length_drop]; omega))
    · rename_i he
      exact .err p _ (by simp) he
theorem OwnT.row {ty : TypeId} {w : World} {base : Nat} {v : Value} {ts : List Tok} (h : OwnT ty w base v ts) (hn : ts ≠ []) :
    ∃ g cap, v = .slice (some ⟨g, 0, none⟩) ts.length cap ∧ base ≤ g ∧ g < w.heap.size ∧ ts.length ≤ cap ∧ ∀ o, o < ts.length * 4 → w.cell? ⟨g, o, none⟩ = (toksC ts)[o]? := by
  obtain ⟨h1, h2⟩ := h
  rcases h2 with ⟨rfl, h0⟩ | ⟨g, cap, cur, rfl, hg, hh, hn, hc, hsz, htk⟩
  · exact absurd (List.length_eq_zero_iff.1 h0) hn
  · refine ⟨g, cap, rfl, hg, lt_of_block hh, hn, fun o ho => ?_⟩
    have hcc : w.cell? ⟨g, o, none⟩ = cur[o]? := cell_of_block hh
    have h3 : (cur.toList.take (ts.length * 4))[o]? = (toksC ts)[o]? := by rw [htk]
    rw [List.getElem?_take, if_pos ho] at h3
    rw [hcc]
    simpa using h3
theorem ToksAt.cells {w wr : World} {B : Nat} {a : Option Addr} {ts : List Tok} (h : ToksAt w B a ts) (hb : Below B w wr) {k : Nat} (hk : k < ts.length) :
    ∃ b o, a = some ⟨b, o, none⟩ ∧ b < B ∧ wr.cell? ⟨b, o + k * 4, none⟩ = some (.int .i64 (ts[k]).kind) ∧ wr.cell? ⟨b, o + k * 4 + 1, none⟩ = some (.int .i64 (ts[k]).pos) ∧
      wr.cell? ⟨b, o + k * 4 + 2, none⟩ = some (.string (bOf (ts[k]).text)) ∧ wr.cell? ⟨b, o + k * 4 + 3, none⟩ = some (.float .f64 (ts[k]).wt) := by
  obtain ⟨b, o, rfl, hB, hc⟩ := h k hk
  have e : ∀ j, j < 4 → wr.cell? ⟨b, o + (k * 4 + j), none⟩ = (ts[k]).cells[j]? := fun j hj => (hb.cell (p := ⟨b, o + (k * 4 + j), none⟩) hB).trans (hc j hj)
  refine ⟨b, o, rfl, hB, e 0 (by decide), ?_, ?_, ?_⟩
  · rw [Nat.add_assoc]; exact e 1 (by decide)
  · rw [Nat.add_assoc]; exact e 2 (by decide)
  · rw [Nat.add_assoc]; exact e 3 (by decide)
theorem ToksAt.go {w wr : World} {B : Nat} {a : Option Addr} {ts : List Tok} (h : ToksAt w B a ts) (hb : Below B w wr) {B' : Nat} (hB : B ≤ B') : ToksAt wr B' a ts := fun i hi => by
  obtain ⟨b, o, rfl, hB2, hc⟩ := h i hi
  exact ⟨b, o, rfl, by omega, fun j hj => (hb.cell (p := ⟨b, o + (i * 4 + j), none⟩) hB2).trans (hc j hj)⟩
end Go.Proofs.Yticdihfjnmjkmaa
