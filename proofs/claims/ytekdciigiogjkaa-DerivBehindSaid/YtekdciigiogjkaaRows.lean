/-
  No cell of these rows narrows 'for every input' (looked for: loops, veiled, ifaces, maps, wideKeys, modest, calm, conditions, laid).
  DERIVED. THE GIVEN ROWS OF THIS SEAT. 5 by the template 'for every input the law returns true; each argument reads behind the call as it read before'; 0 by the template 'total and deterministic' (their statements: YtekdciigiogjkaaTotals.lean).
  GIVEN WITH THE SEED: the statements are not yours to turn. If you find one false, say at which input.
  Laid BY PROGRAM, IN A SANDBOX (cutbox-rows.mjs): the forced cells as the released guide's own fill.sh prints them over the translation 0a5e07d9ea886841… (all of the seat's roots in one cut). By AI agents, Wed Nov 11 2026. No macro, syntax, notation, axiom, sorry.
-/
import Derived.Test.YtekdciigiogjkaaChecked
import GoSem.Claim
import GoSem.ClaimJoined
import GoSem.ClaimMapViews
import Derived.JoinedTies
import Derived.KernelRfl
namespace Go.Proofs.Ytekdciigiogjkaa
/- THE CELL 'sum', in the pinned program and in every row, IS THE sha256 OF THE DUMP (.gsa) THAT YtekdciigiogjkaaProg.lean LOADS. Nothing in Lean hashes anything: it is a label: what it is worth is what the hold of that sum in a sandbox is worth. -/
noncomputable def Try.pinned : Pinned := { name := "ytekdciigiogjkaa", sum := "0a5e07d9ea8868413520154456c35bc580f103d1d6979e92e90d0e606a0016c5", checked := Try.checked }
namespace Rows
def none {H : Type} : Left H := { results := [], args := [] }

/-- 'accidencelaw07.DerivSteps': WHATEVER THE INPUT: true; the input reads as it did. -/
def derivStepsSpec : ChangeSpec := { name := "derivSteps", fn := fun _ => fun
  | [d1, d2, d3] => { results := [.lit (.bool true)], args := [d1, d2, d3] }
  | _ => none }
def derivStepsRow : OpenClaim := { program := "ytekdciigiogjkaa", sum := "0a5e07d9ea8868413520154456c35bc580f103d1d6979e92e90d0e606a0016c5", func := "accidence/accidencelaw07.DerivSteps", spec := "derivSteps", inPlace := ["math.Float64frombits", "math.Float64bits"], apart := false }
def DerivStepsSaid : Prop := derivStepsRow.holds Try.pinned (OpenSpec.ofChange derivStepsSpec)

/-- ITS FALSE NEIGHBOUR: 'it returns false'. Refute it at one input. -/
def derivStepsWrong : ChangeSpec := { name := "derivSteps", fn := fun _ => fun
  | [d1, d2, d3] => { results := [.lit (.bool false)], args := [d1, d2, d3] }
  | _ => none }
def DerivStepsWrongFalsely : Prop := derivStepsRow.holds Try.pinned (OpenSpec.ofChange derivStepsWrong)

/-- 'accidencelaw07.DerivReplays': WHATEVER THE INPUT: true; the input reads as it did. -/
def derivReplaysSpec : ChangeSpec := { name := "derivReplays", fn := fun _ => fun
  | [d1, d2, d3] => { results := [.lit (.bool true)], args := [d1, d2, d3] }
  | _ => none }
def derivReplaysRow : OpenClaim := { program := "ytekdciigiogjkaa", sum := "0a5e07d9ea8868413520154456c35bc580f103d1d6979e92e90d0e606a0016c5", func := "accidence/accidencelaw07.DerivReplays", spec := "derivReplays", inPlace := ["math.Float64frombits", "math.Float64bits"], apart := false }
def DerivReplaysSaid : Prop := derivReplaysRow.holds Try.pinned (OpenSpec.ofChange derivReplaysSpec)

/-- ITS FALSE NEIGHBOUR: 'it returns false'. Refute it at one input. -/
def derivReplaysWrong : ChangeSpec := { name := "derivReplays", fn := fun _ => fun
  | [d1, d2, d3] => { results := [.lit (.bool false)], args := [d1, d2, d3] }
  | _ => none }
def DerivReplaysWrongFalsely : Prop := derivReplaysRow.holds Try.pinned (OpenSpec.ofChange derivReplaysWrong)

/-- 'accidencelaw07.DerivParts': WHATEVER THE INPUT: true; the input reads as it did. -/
def derivPartsSpec : ChangeSpec := { name := "derivParts", fn := fun _ => fun
  | [d1, d2, d3, d4] => { results := [.lit (.bool true)], args := [d1, d2, d3, d4] }
  | _ => none }
def derivPartsRow : OpenClaim := { program := "ytekdciigiogjkaa", sum := "0a5e07d9ea8868413520154456c35bc580f103d1d6979e92e90d0e606a0016c5", func := "accidence/accidencelaw07.DerivParts", spec := "derivParts", inPlace := ["math.Float64frombits", "math.Float64bits"], apart := false }
def DerivPartsSaid : Prop := derivPartsRow.holds Try.pinned (OpenSpec.ofChange derivPartsSpec)

/-- ITS FALSE NEIGHBOUR: 'it returns false'. Refute it at one input. -/
def derivPartsWrong : ChangeSpec := { name := "derivParts", fn := fun _ => fun
  | [d1, d2, d3, d4] => { results := [.lit (.bool false)], args := [d1, d2, d3, d4] }
  | _ => none }
def DerivPartsWrongFalsely : Prop := derivPartsRow.holds Try.pinned (OpenSpec.ofChange derivPartsWrong)

/-- 'accidencelaw07.DerivBehind': WHATEVER THE INPUT: true; the input reads as it did. -/
def derivBehindSpec : ChangeSpec := { name := "derivBehind", fn := fun _ => fun
  | [d1, d2, d3, d4] => { results := [.lit (.bool true)], args := [d1, d2, d3, d4] }
  | _ => none }
def derivBehindRow : OpenClaim := { program := "ytekdciigiogjkaa", sum := "0a5e07d9ea8868413520154456c35bc580f103d1d6979e92e90d0e606a0016c5", func := "accidence/accidencelaw07.DerivBehind", spec := "derivBehind", inPlace := ["math.Float64frombits", "math.Float64bits"], apart := false }
def DerivBehindSaid : Prop := derivBehindRow.holds Try.pinned (OpenSpec.ofChange derivBehindSpec)

/-- ITS FALSE NEIGHBOUR: 'it returns false'. Refute it at one input. -/
def derivBehindWrong : ChangeSpec := { name := "derivBehind", fn := fun _ => fun
  | [d1, d2, d3, d4] => { results := [.lit (.bool false)], args := [d1, d2, d3, d4] }
  | _ => none }
def DerivBehindWrongFalsely : Prop := derivBehindRow.holds Try.pinned (OpenSpec.ofChange derivBehindWrong)

/-- 'accidencelaw07.DerivCounts': WHATEVER THE INPUT: true; the input reads as it did. -/
def derivCountsSpec : ChangeSpec := { name := "derivCounts", fn := fun _ => fun
  | [d1, d2, d3] => { results := [.lit (.bool true)], args := [d1, d2, d3] }
  | _ => none }
def derivCountsRow : OpenClaim := { program := "ytekdciigiogjkaa", sum := "0a5e07d9ea8868413520154456c35bc580f103d1d6979e92e90d0e606a0016c5", func := "accidence/accidencelaw07.DerivCounts", spec := "derivCounts", inPlace := ["math.Float64frombits", "math.Float64bits"], apart := false }
def DerivCountsSaid : Prop := derivCountsRow.holds Try.pinned (OpenSpec.ofChange derivCountsSpec)

/-- ITS FALSE NEIGHBOUR: 'it returns false'. Refute it at one input. -/
def derivCountsWrong : ChangeSpec := { name := "derivCounts", fn := fun _ => fun
  | [d1, d2, d3] => { results := [.lit (.bool false)], args := [d1, d2, d3] }
  | _ => none }
def DerivCountsWrongFalsely : Prop := derivCountsRow.holds Try.pinned (OpenSpec.ofChange derivCountsWrong)

/- THE SECOND FORM. 'bulk': how many values and letters a reading holds, each counted each time it is reached (what is shared counts as often as it is met; a slice's spare places count too). A statement '..UptoSaid' is the law's where the arguments, and the package variables that the reading takes, are together of bulk at most 1048576: NARROWER than '..Said'. Prove '..Said' where nothing that the law and all that it calls make is longer than what came in: it says more and counts as full. Else prove '..UptoSaid'. A law counts once. -/
mutual
def uptoBulk {H : Type} : DataW H → Nat
  | .lit (.string bytes) => bytes.length + 1
  | .lit _ => 1
  | .nil => 1
  | .ptr d => uptoBulk d + 1
  | .slice elems spare => uptoBulkAll elems + uptoBulkAll spare + 1
  | .agg parts => uptoBulkAll parts + 1
  | .iface _ d => uptoBulk d + 1
  | .map entries => uptoBulkEntries entries + 1
  | .held _ => 1
def uptoBulkAll {H : Type} : List (DataW H) → Nat
  | [] => 0
  | d :: r => uptoBulk d + uptoBulkAll r
def uptoBulkEntries {H : Type} : List (Lit × DataW H) → Nat
  | [] => 0
  | x :: r => uptoBulkEntry x + uptoBulkEntries r
def uptoBulkEntry {H : Type} : Lit × DataW H → Nat
  | (.string bytes, d) => bytes.length + uptoBulk d + 1
  | (_, d) => uptoBulk d + 1
 end
def uptoSmall : (H : Type) → List (DataW H) → Bool := fun _ ds => decide (uptoBulkAll ds ≤ 1048576)
def OpenSpec.upto (s : _root_.Go.ChangeSpec) : _root_.Go.OpenSpec := { _root_.Go.OpenSpec.ofChange s with cond := some uptoSmall }

/-- 'accidencelaw07.DerivSteps', WHERE WHAT IT READS IS OF BULK AT MOST 1048576: true; the input reads as it did. -/
def derivStepsUptoRow : OpenClaim := { program := "ytekdciigiogjkaa", sum := "0a5e07d9ea8868413520154456c35bc580f103d1d6979e92e90d0e606a0016c5", func := "accidence/accidencelaw07.DerivSteps", spec := "derivSteps", inPlace := ["math.Float64frombits", "math.Float64bits"], apart := false, narrowed := true }
def DerivStepsUptoSaid : Prop := derivStepsUptoRow.holds Try.pinned (OpenSpec.upto derivStepsSpec)

/-- 'accidencelaw07.DerivReplays', WHERE WHAT IT READS IS OF BULK AT MOST 1048576: true; the input reads as it did. -/
def derivReplaysUptoRow : OpenClaim := { program := "ytekdciigiogjkaa", sum := "0a5e07d9ea8868413520154456c35bc580f103d1d6979e92e90d0e606a0016c5", func := "accidence/accidencelaw07.DerivReplays", spec := "derivReplays", inPlace := ["math.Float64frombits", "math.Float64bits"], apart := false, narrowed := true }
def DerivReplaysUptoSaid : Prop := derivReplaysUptoRow.holds Try.pinned (OpenSpec.upto derivReplaysSpec)

/-- 'accidencelaw07.DerivParts', WHERE WHAT IT READS IS OF BULK AT MOST 1048576: true; the input reads as it did. -/
def derivPartsUptoRow : OpenClaim := { program := "ytekdciigiogjkaa", sum := "0a5e07d9ea8868413520154456c35bc580f103d1d6979e92e90d0e606a0016c5", func := "accidence/accidencelaw07.DerivParts", spec := "derivParts", inPlace := ["math.Float64frombits", "math.Float64bits"], apart := false, narrowed := true }
def DerivPartsUptoSaid : Prop := derivPartsUptoRow.holds Try.pinned (OpenSpec.upto derivPartsSpec)

/-- 'accidencelaw07.DerivBehind', WHERE WHAT IT READS IS OF BULK AT MOST 1048576: true; the input reads as it did. -/
def derivBehindUptoRow : OpenClaim := { program := "ytekdciigiogjkaa", sum := "0a5e07d9ea8868413520154456c35bc580f103d1d6979e92e90d0e606a0016c5", func := "accidence/accidencelaw07.DerivBehind", spec := "derivBehind", inPlace := ["math.Float64frombits", "math.Float64bits"], apart := false, narrowed := true }
def DerivBehindUptoSaid : Prop := derivBehindUptoRow.holds Try.pinned (OpenSpec.upto derivBehindSpec)

/-- 'accidencelaw07.DerivCounts', WHERE WHAT IT READS IS OF BULK AT MOST 1048576: true; the input reads as it did. -/
def derivCountsUptoRow : OpenClaim := { program := "ytekdciigiogjkaa", sum := "0a5e07d9ea8868413520154456c35bc580f103d1d6979e92e90d0e606a0016c5", func := "accidence/accidencelaw07.DerivCounts", spec := "derivCounts", inPlace := ["math.Float64frombits", "math.Float64bits"], apart := false, narrowed := true }
def DerivCountsUptoSaid : Prop := derivCountsUptoRow.holds Try.pinned (OpenSpec.upto derivCountsSpec)

end Rows
end Go.Proofs.Ytekdciigiogjkaa
