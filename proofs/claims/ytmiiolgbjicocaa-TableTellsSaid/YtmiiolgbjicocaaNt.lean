/- ^s. -/
import Derived.Test.YtmiiolgbjicocaaProg
import Derived.Test.YtmiiolgbjicocaaLib
namespace Go.Proofs.Ytmiiolgbjicocaa
open Go.RowKit
def nt (s : Int) : Int := bits .xor .i64 (-1) s
theorem nt_run (s : Int) (w : World) : (Op.unary .xor (.int .i64 s)).run Try.prog w = .ok (.int .i64 (nt s)) w := rfl
/-- What a right grammar's rule is. -/
def RuleOk (nv nw : Nat) (rules : List RuleD) (k : Nat) (left : Int) (xs : List Int) : Prop :=
  (0 ≤ left ∧ left < nv) ∧ (∀ j (h : j < xs.length), xs[j] < nv ∧ (xs[j] < 0 → nt xs[j] < nw)) ∧ (∀ l (h : l < rules.length), l < k → rules[l].left = left → rules[l].right ≠ xs) ∧ ∀ l (h : l < rules.length), l + 1 = k → rules[l].left ≤ left
def GramOk (g : GramD) : Prop := 0 < g.vars.length ∧ ∀ k (h : k < g.rules.length), RuleOk g.vars.length g.terms.length g.rules k g.rules[k].left g.rules[k].right
def OkB (P : Prop) (w : World) (e : Ending) (w' : World) : Prop := ∃ b : Bool, e = .returned (.bool b) ∧ Below w.heap.size w w' ∧ (b = true → P)
end Go.Proofs.Ytmiiolgbjicocaa
