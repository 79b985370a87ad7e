/- In a round of a loop over an iterator: a region that draws its order, walked as one outside. -/
import Derived.Test.YtfiafmhnmafnbaaWalk
import Derived.RangeFuncCalls
import Derived.Deep.AppendLies
namespace Go.Proofs.Ytfiafmhnmafnbaa
open Go.RowKit Go.Shelf
theorem uponIn_of_wide {l n : Nat} {P : Program} {o : Oper} {a : Act} {K : Act → World → Prop} {Q : Exit → Act → World → Prop} {r : Result Next}
    (h : o.upon P a K Q r) : o.uponIn (Fence.wide.inRound l) n P a K Q r := by
  cases r with
  | ok x w =>
    cases x with
    | value v => exact h
    | skip => exact h
    | defer d => exact h
    | enter f args => exact ⟨(fun h => by cases h), CallsIn.inRound l (callsIn_wide.2 h)⟩
    | row row args => exact ⟨(fun h => by cases h), fun c cs _ => let ⟨v, w', r, s⟩ := h c cs; ⟨v, w', r, stepsIn_wide.2 s⟩⟩
    | round => exact h.elim
    | _ => exact h.elim
  | halt x w =>
    cases x <;> exact h
theorem operIn_of_wide {l n : Nat} {P : Program} {o : Oper} {a : Act} {w : World} {K : Act → World → Prop} {Q : Exit → Act → World → Prop} (hnd : ∀ c, o.op ≠ .defer c)
    (h : o.wp P a w K Q) : o.wpIn (Fence.wide.inRound l) n P a w K Q := by
  refine ⟨fun _ _ => trivial, ?_⟩
  rw [show (Fence.wide.inRound l).round = some l from rfl, Oper.semAt_some l _ _ hnd]
  exact uponIn_of_wide h
theorem stepIn_of_wide {l n : Nat} {P : Program} {ops : Array Oper} {o : Oper} {a : Act} {w : World} {K : Act → World → Prop} {Q : Exit → Act → World → Prop} {E : Prop} (hgd : o.guard = none) (hnd : ∀ c, o.op ≠ .defer c)
    (h : o.wp P a w K Q) : if Region.wanted o (yielded ops a.tmps) = true then o.wpIn (Fence.wide.inRound l) n P a w K Q else E := by
  rw [if_pos (by simp [Region.wanted, hgd])]
  exact operIn_of_wide hnd h
end Go.Proofs.Ytfiafmhnmafnbaa
