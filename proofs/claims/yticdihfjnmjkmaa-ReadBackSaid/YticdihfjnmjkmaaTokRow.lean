/- Lists of words that the call itself makes: append; how they read. -/
import Derived.Test.YticdihfjnmjkmaaLexP
import Derived.Laws.AppendOwnNone
import Derived.Laws.OwnMore
namespace Go.Proofs.Yticdihfjnmjkmaa
open Go.RowKit
def Tok.cells (t : Tok) : List Value := [.int .i64 t.kind, .int .i64 t.pos, .string (bOf t.text), .float .f64 t.wt]
def toksC (ts : List Tok) : List Value := ts.flatMap Tok.cells
theorem toksC_append (a b : List Tok) : toksC (a ++ b) = toksC a ++ toksC b := by simp [toksC]
theorem toksC_len (ts : List Tok) : (toksC ts).length = ts.length * 4 := by
  induction ts with
  | nil => rfl
  | cons t r ih =>
    show (Tok.cells t ++ toksC r).length = _
    rw [List.length_append, ih]
    simp [Tok.cells]; omega
/-- The slice value v owns the words ts, in a block from base on. -/
def OwnT (ty : TypeId) (w : World) (base : Nat) (v : Value) (ts : List Tok) : Prop := w.ownsRow base ty 4 v ts.length (toksC ts)
theorem ownT_nil (ty : TypeId) (w : World) (base : Nat) : OwnT ty w base (.slice none 0 0) [] := World.ownsRow_nil _ _ _ _
theorem ownT_empty (ty : TypeId) (w : World) {base : Nat} (h : base ≤ w.heap.size) : OwnT ty (w.alloc (.cells #[] ty)) base (.slice (some ⟨w.heap.size, 0, none⟩) 0 0) [] :=
  ⟨rfl, .inr ⟨w.heap.size, 0, #[], rfl, h, heap_alloc_this _ _, Nat.le_refl _, Nat.zero_le _, rfl, rfl⟩⟩
theorem OwnT.kept {ty : TypeId} {w w' : World} {base : Nat} {v : Value} {ts : List Tok} (h : OwnT ty w base v ts) (hk : ∀ g, v.ownBlock = some g → w'.heap[g]? = w.heap[g]?) : OwnT ty w' base v ts := by
  obtain ⟨h1, h2⟩ := h
  refine ⟨h1, ?_⟩
  rcases h2 with h2 | ⟨g, cap, cur, rfl, hg, hh, r⟩
  · exact .inl h2
  · exact .inr ⟨g, cap, cur, rfl, hg, by rw [hk g rfl]; exact hh, r⟩
theorem OwnT.lt {ty : TypeId} {w : World} {base : Nat} {v : Value} {ts : List Tok} (h : OwnT ty w base v ts) {g : Nat} (hg : v.ownBlock = some g) : g < w.heap.size ∧ base ≤ g := by
  obtain ⟨h1, h2⟩ := h
  rcases h2 with ⟨rfl, _⟩ | ⟨g', cap, cur, rfl, hg', hh, r⟩
  · simp [Value.ownBlock] at hg
  · simp [Value.ownBlock] at hg
    subst hg
    exact ⟨lt_of_block hh, hg'⟩
theorem OwnT.below {ty : TypeId} {w w' : World} {base : Nat} {v : Value} {ts : List Tok} (h : OwnT ty w base v ts) (hk : Below w.heap.size w w') : OwnT ty w' base v ts :=
  h.kept (fun _ hg => hk.block _ (h.lt hg).1)
theorem below_grownT {ty : TypeId} {w w' : World} {base : Nat} {v : Value} {ts : List Tok} (h : OwnT ty w base v ts) (hg : w.grownBy w' v.ownBlock) (hb : base ≤ w.heap.size) : Below base w w' :=
  (Below.refl _ _).grown hg hb (fun _ hk => (h.lt hk).2)
theorem append_tok {P : Program} {w : World} {ops : Array Oper} {rest : List Oper} {o : Oper} {a : Act} {Q : Exit → Act → World → Prop} (hgd : o.guard = none) (s x : Operand) (t ty : TypeId)
    (ho : o.op = .call { callee := .builtin .append, args := #[s, x], argTypes := #[t, t] }) (ht : P.underlying t = some (.slice ty))
    (z : Value) (hz4 : z.cells.size = 4) (hinfo : (P.info? ty).map (fun i => (i.zero, i.size, i.bytes)) = some (some z, 4, 40))
    (base : Nat) (v : Value) (ts : List Tok) (hs : a.eval s = v) (hown : OwnT ty w base v ts) (b : Nat) (tk : Tok) (hx : a.eval x = .slice (some ⟨b, 0, none⟩) 1 1)
    (hc : ∀ j, j < 4 → w.cell? ⟨b, j, none⟩ = tk.cells[j]?) (hb : (ts.length + 1) * 40 ≤ 140737488355328) (hbase : base ≤ w.heap.size)
    (h : ∀ v' w', OwnT ty w' base v' (ts ++ [tk]) → w.grownBy w' v.ownBlock → wpList P ops Q rest (a.put o.dst v') w') : wpList P ops Q (o :: rest) a w := by
  obtain ⟨i0, hi, hz0, hz1, hz2⟩ := info_parts hinfo
  refine wpList_append_own w hgd s x t ho base ty i0 z 4 40 ht hi hz0 hz1 hz2 hz4 (by decide) v ts.length _ hs hown ⟨b, 0, none⟩ 1 1 tk.cells hx (by simp [Tok.cells]) ?_ ?_ ?_ hb hbase ?_
  · intro j u hj
    have hj4 : j < 4 := by
      rcases Nat.lt_or_ge j 4 with h | h
      · exact h
      · rw [List.getElem?_eq_none (by simpa [Tok.cells] using h)] at hj; cases hj
    rw [addr_add, Nat.zero_add, hc j hj4]
    exact hj
  · intro u hu
    simp only [Tok.cells, List.mem_cons, List.not_mem_nil, or_false] at hu
    rcases hu with rfl | rfl | rfl | rfl <;> rfl
  · unfold maxLen; omega
  · intro v' w' h1 h2 _
    refine h v' w' ?_ h2
    unfold OwnT
    rw [List.length_append, toksC_append]
    have e : toksC [tk] = tk.cells := by simp [toksC]
    rw [e]
    exact h1
/-- How the words read, wherever they lie. -/
def ToksAt (w : World) (B : Nat) (a : Option Addr) (ts : List Tok) : Prop :=
  ∀ i (h : i < ts.length), ∃ b off, a = some ⟨b, off, none⟩ ∧ b < B ∧ ∀ j, j < 4 → w.cell? ⟨b, off + (i * 4 + j), none⟩ = (ts[i]).cells[j]?
theorem toksC_at : ∀ (ts : List Tok) (i j : Nat) (h : i < ts.length), j < 4 → (toksC ts)[i * 4 + j]? = (ts[i]).cells[j]?
  | [], i, _, h, _ => by simp at h
  | t :: r, 0, j, _, hj => by
    show (Tok.cells t ++ toksC r)[0 * 4 + j]? = _
    rw [List.getElem?_append_left (by simp [Tok.cells]; omega)]
    simp
  | t :: r, i + 1, j, h, hj => by
    show (Tok.cells t ++ toksC r)[(i + 1) * 4 + j]? = _
    rw [List.getElem?_append_right (by simp [Tok.cells]; omega)]
    have h4 : (Tok.cells t).length = 4 := rfl
    rw [h4, show (i + 1) * 4 + j - 4 = i * 4 + j by omega]
    exact toksC_at r i j (by simpa using h) hj
theorem OwnT.shape {ty : TypeId} {w : World} {base : Nat} {v : Value} {ts : List Tok} (h : OwnT ty w base v ts) : ∃ a cap, v = .slice a ts.length cap ∧ (a = none → cap = 0 ∧ ts = []) ∧ ToksAt w w.heap.size a ts ∧ cap ≤ maxLen ∧ ts.length ≤ cap := by
  obtain ⟨h1, h2⟩ := h
  rcases h2 with ⟨rfl, h0⟩ | ⟨g, cap, cur, rfl, hg, hh, hn, hc, hsz, htk⟩
  · have : ts = [] := List.length_eq_zero_iff.1 h0
    subst this
    exact ⟨none, 0, rfl, fun _ => ⟨rfl, rfl⟩, fun i hi => by simp at hi, by simp, by simp⟩
  · refine ⟨some ⟨g, 0, none⟩, cap, rfl, (fun h => by cases h), (fun i hi => ⟨g, 0, rfl, lt_of_block hh, fun j hj => ?_⟩), hc, hn⟩
    have hcc : w.cell? ⟨g, 0 + (i * 4 + j), none⟩ = cur[0 + (i * 4 + j)]? := cell_of_block hh
    rw [hcc, Nat.zero_add]
    have h3 : (cur.toList.take (ts.length * 4))[i * 4 + j]? = (toksC ts)[i * 4 + j]? := by rw [htk]
    rw [List.getElem?_take, if_pos (by omega), toksC_at ts i j hi hj] at h3
    simpa using h3
end Go.Proofs.Yticdihfjnmjkmaa
