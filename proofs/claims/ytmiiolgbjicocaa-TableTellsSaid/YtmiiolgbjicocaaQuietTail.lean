/- A region that draws its order: its first n operations only read; behind them the rest goes in one order. It speaks of no program. -/
import Derived.StillTail
import Derived.BigQuiet
namespace Go
section
variable {P : Program} {ops : Array Oper}
theorem still_of_quiet {o : Oper} {a : Act} {w1 : World} {K K' : Act → Prop} (hK : ∀ a, K a → K' a) (h : o.quiet P a (fun w' => w' = w1) K) : o.still P a w1 K' := by
  obtain ⟨v, h1, h2⟩ := h
  have h3 := h1 w1 rfl
  unfold Oper.quietAt Oper.quietUpon at h3
  unfold Oper.still Oper.stillUpon
  generalize (execOp a.eval o).run P w1 = r at h3
  split at h3
  · obtain ⟨h4, rfl⟩ := h3; exact ⟨h4, hK _ h2⟩
  · obtain ⟨h4, rfl⟩ := h3; exact ⟨h4, hK _ h2⟩
  · exact ⟨h3.1, v, h3.2, hK _ h2⟩
  · exact h3.elim
theorem wpStill_of_quiet {w1 : World} {Q : Act → Prop} : ∀ (l : List Oper) (a : Act), wpQuiet P ops (fun w' => w' = w1) Q l a → wpStill P ops w1 Q l a
  | [], _, h => h
  | o :: rest, a, h => by
    unfold wpQuiet at h
    unfold wpStill
    split
    · rename_i hw
      rw [if_pos hw] at h
      exact still_of_quiet (wpStill_of_quiet rest) h
    · rename_i hw
      rw [if_neg hw] at h
      exact wpStill_of_quiet rest _ h
theorem wp_region_quiet_tail {id : Nat} {Q : Exit → Act → World → Prop} {a : Act} {w : World} {l : List Oper} (n : Nat) (hm : P.follows .mixedOrders = true) (hB : Region.lexTailB .any l.toArray n = true)
    (h : ∀ w1 : World, w1 = w.drew → wpQuiet P l.toArray (fun w' => w' = w1) (fun a' => wpList P l.toArray Q (l.drop n) a' w1) (l.take n) a) : (Code.region id l.toArray true).wp P Q a w :=
  wp_region_still_tail n hm hB (wpStill_of_quiet _ _ (h _ rfl))
theorem quiet_add {f : FuncId} {args : Array Value} {w : World} {a n : Nat} {v : Value}
    (h : Calls P f args (w.drewN (a + n)) fun e w' => e = .returned v ∧ ∃ m, w' = (w.drewN (a + n)).drewN m) :
    Calls P f args (w.drewN (a + n)) fun e w'' => e = .returned v ∧ ∃ m, w'' = w.drewN (a + m) :=
  h.mono fun _ _ ⟨he, m, hm⟩ => ⟨he, n + m, by rw [hm, World.drewN_drewN, Nat.add_assoc]⟩
end
end Go
