/- A step: the program's and the reference's. -/
import Derived.Test.YtfiafmhnmafnbaaLead
import Derived.Test.YtfiafmhnmafnbaaRight
namespace Go.Proofs.Ytfiafmhnmafnbaa
open Go.RowKit
def stepS (g : GramD) (form : List Int) (rule : Int) : List Int × Int :=
  if rule < 0 ∨ (g.rules.length : Int) ≤ rule then ([], 12)
  else if h : firstV form < form.length ∧ rule.toNat < g.rules.length then
    if form[firstV form]'h.1 = (g.rules[rule.toNat]'h.2).left then (form.take (firstV form) ++ (g.rules[rule.toNat]'h.2).right ++ form.drop (firstV form + 1), 0) else ([], 14)
  else ([], 13)
def StepPost (base : World) (r : List Int × Int) (e : Ending) (w' : World) : Prop :=
  ∃ v, e = .returned (.tuple #[v, .int .i64 r.2]) ∧ OwnI w' base.heap.size v r.1 ∧ Below base.heap.size base w'
theorem stepPost_err {w w' : World} {r : List Int × Int} {n : Int} (h : r = ([], n)) (hb : Below w.heap.size w w') : StepPost w r (.returned (.tuple #[.slice none 0 0, .int .i64 n])) w' := by
  subst h
  exact ⟨_, rfl, own_nil _ _, hb⟩
end Go.Proofs.Ytfiafmhnmafnbaa
