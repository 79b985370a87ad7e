/-
  No cell of these rows narrows 'for every input' (looked for: loops, veiled, ifaces, maps, wideKeys, modest, calm, conditions, laid).
  DERIVED. THE GIVEN ROWS OF THIS SEAT. 4 by the template 'for every input the law returns true; each argument reads behind the call as it read before'; 0 by the template 'total and deterministic' (their statements: YtfiafmhnmafnbaaTotals.lean).
  GIVEN WITH THE SEED: the statements are not yours to turn. If you find one false, say at which input.
  Laid BY PROGRAM, IN A SANDBOX (cutbox-rows.mjs): the forced cells as the released guide's own fill.sh prints them over the translation 1ff80398404673c8… (all of the seat's roots in one cut). By AI agents, Wed Nov 11 2026. No macro, syntax, notation, axiom, sorry.
-/
import Derived.Test.YtfiafmhnmafnbaaChecked
import GoSem.Claim
import GoSem.ClaimJoined
import GoSem.ClaimMapViews
import Derived.JoinedTies
import Derived.KernelRfl
namespace Go.Proofs.Ytfiafmhnmafnbaa
/- THE CELL 'sum', in the pinned program and in every row, IS THE sha256 OF THE DUMP (.gsa) THAT YtfiafmhnmafnbaaProg.lean LOADS. Nothing in Lean hashes anything: it is a label: what it is worth is what the hold of that sum in a sandbox is worth. -/
noncomputable def Try.pinned : Pinned := { name := "ytfiafmhnmafnbaa", sum := "1ff80398404673c81f7aab143f9fb79306c2a8ec5389a1343ee387cec9c91281", checked := Try.checked }
namespace Rows
def none {H : Type} : Left H := { results := [], args := [] }

/-- 'accidencelaw08.TreeBuilds': WHATEVER THE INPUT: true; the input reads as it did. -/
def treeBuildsSpec : ChangeSpec := { name := "treeBuilds", fn := fun _ => fun
  | [d1, d2, d3] => { results := [.lit (.bool true)], args := [d1, d2, d3] }
  | _ => none }
def treeBuildsRow : OpenClaim := { program := "ytfiafmhnmafnbaa", sum := "1ff80398404673c81f7aab143f9fb79306c2a8ec5389a1343ee387cec9c91281", func := "accidence/accidencelaw08.TreeBuilds", spec := "treeBuilds", inPlace := ["internal/abi.NoEscape", "internal/bytealg.MakeNoZero", "math.Float64frombits", "math.Float64bits"], unfollowed := true, recurses := true, apart := false }
def TreeBuildsSaid : Prop := treeBuildsRow.holds Try.pinned (OpenSpec.ofChange treeBuildsSpec)

/-- ITS FALSE NEIGHBOUR: 'it returns false'. Refute it at one input. -/
def treeBuildsWrong : ChangeSpec := { name := "treeBuilds", fn := fun _ => fun
  | [d1, d2, d3] => { results := [.lit (.bool false)], args := [d1, d2, d3] }
  | _ => none }
def TreeBuildsWrongFalsely : Prop := treeBuildsRow.holds Try.pinned (OpenSpec.ofChange treeBuildsWrong)

/-- 'accidencelaw08.TreeSames': WHATEVER THE INPUT: true; the input reads as it did. -/
def treeSamesSpec : ChangeSpec := { name := "treeSames", fn := fun _ => fun
  | [d1, d2, d3, d4] => { results := [.lit (.bool true)], args := [d1, d2, d3, d4] }
  | _ => none }
def treeSamesRow : OpenClaim := { program := "ytfiafmhnmafnbaa", sum := "1ff80398404673c81f7aab143f9fb79306c2a8ec5389a1343ee387cec9c91281", func := "accidence/accidencelaw08.TreeSames", spec := "treeSames", inPlace := ["internal/abi.NoEscape", "internal/bytealg.MakeNoZero", "math.Float64frombits", "math.Float64bits"], unfollowed := true, recurses := true, apart := false }
def TreeSamesSaid : Prop := treeSamesRow.holds Try.pinned (OpenSpec.ofChange treeSamesSpec)

/-- ITS FALSE NEIGHBOUR: 'it returns false'. Refute it at one input. -/
def treeSamesWrong : ChangeSpec := { name := "treeSames", fn := fun _ => fun
  | [d1, d2, d3, d4] => { results := [.lit (.bool false)], args := [d1, d2, d3, d4] }
  | _ => none }
def TreeSamesWrongFalsely : Prop := treeSamesRow.holds Try.pinned (OpenSpec.ofChange treeSamesWrong)

/-- 'accidencelaw08.TreeBends': WHATEVER THE INPUT: true; the input reads as it did. -/
def treeBendsSpec : ChangeSpec := { name := "treeBends", fn := fun _ => fun
  | [d1, d2, d3, d4, d5] => { results := [.lit (.bool true)], args := [d1, d2, d3, d4, d5] }
  | _ => none }
def treeBendsRow : OpenClaim := { program := "ytfiafmhnmafnbaa", sum := "1ff80398404673c81f7aab143f9fb79306c2a8ec5389a1343ee387cec9c91281", func := "accidence/accidencelaw08.TreeBends", spec := "treeBends", inPlace := ["internal/abi.NoEscape", "internal/bytealg.MakeNoZero", "math.Float64frombits", "math.Float64bits"], unfollowed := true, recurses := true, apart := false }
def TreeBendsSaid : Prop := treeBendsRow.holds Try.pinned (OpenSpec.ofChange treeBendsSpec)

/-- ITS FALSE NEIGHBOUR: 'it returns false'. Refute it at one input. -/
def treeBendsWrong : ChangeSpec := { name := "treeBends", fn := fun _ => fun
  | [d1, d2, d3, d4, d5] => { results := [.lit (.bool false)], args := [d1, d2, d3, d4, d5] }
  | _ => none }
def TreeBendsWrongFalsely : Prop := treeBendsRow.holds Try.pinned (OpenSpec.ofChange treeBendsWrong)

/-- 'accidencelaw08.TreeSpans': WHATEVER THE INPUT: true; the input reads as it did. -/
def treeSpansSpec : ChangeSpec := { name := "treeSpans", fn := fun _ => fun
  | [d1, d2, d3] => { results := [.lit (.bool true)], args := [d1, d2, d3] }
  | _ => none }
def treeSpansRow : OpenClaim := { program := "ytfiafmhnmafnbaa", sum := "1ff80398404673c81f7aab143f9fb79306c2a8ec5389a1343ee387cec9c91281", func := "accidence/accidencelaw08.TreeSpans", spec := "treeSpans", inPlace := ["internal/abi.NoEscape", "internal/bytealg.MakeNoZero", "math.Float64frombits", "math.Float64bits"], unfollowed := true, recurses := true, apart := false }
def TreeSpansSaid : Prop := treeSpansRow.holds Try.pinned (OpenSpec.ofChange treeSpansSpec)

/-- ITS FALSE NEIGHBOUR: 'it returns false'. Refute it at one input. -/
def treeSpansWrong : ChangeSpec := { name := "treeSpans", fn := fun _ => fun
  | [d1, d2, d3] => { results := [.lit (.bool false)], args := [d1, d2, d3] }
  | _ => none }
def TreeSpansWrongFalsely : Prop := treeSpansRow.holds Try.pinned (OpenSpec.ofChange treeSpansWrong)

/- THE SECOND FORM. 'bulk': how many values and letters a reading holds, each counted each time it is reached (what is shared counts as often as it is met; a slice's spare places count too). A statement '..UptoSaid' is the law's where the arguments, and the package variables that the reading takes, are together of bulk at most 1048576: NARROWER than '..Said'. Prove '..Said' where nothing that the law and all that it calls make is longer than what came in: it says more and counts as full. Else prove '..UptoSaid'. A law counts once. -/
mutual
def uptoBulk {H : Type} : DataW H → Nat
  | .lit (.string bytes) => bytes.length + 1
  | .lit _ => 1
  | .nil => 1
  | .ptr d => uptoBulk d + 1
  | .slice elems spare => uptoBulkAll elems + uptoBulkAll spare + 1
  | .agg parts => uptoBulkAll parts + 1
  | .iface _ d => uptoBulk d + 1
  | .map entries => uptoBulkEntries entries + 1
  | .held _ => 1
def uptoBulkAll {H : Type} : List (DataW H) → Nat
  | [] => 0
  | d :: r => uptoBulk d + uptoBulkAll r
def uptoBulkEntries {H : Type} : List (Lit × DataW H) → Nat
  | [] => 0
  | x :: r => uptoBulkEntry x + uptoBulkEntries r
def uptoBulkEntry {H : Type} : Lit × DataW H → Nat
  | (.string bytes, d) => bytes.length + uptoBulk d + 1
  | (_, d) => uptoBulk d + 1
 end
def uptoSmall : (H : Type) → List (DataW H) → Bool := fun _ ds => decide (uptoBulkAll ds ≤ 1048576)
def OpenSpec.upto (s : _root_.Go.ChangeSpec) : _root_.Go.OpenSpec := { _root_.Go.OpenSpec.ofChange s with cond := some uptoSmall }

/-- 'accidencelaw08.TreeBuilds', WHERE WHAT IT READS IS OF BULK AT MOST 1048576: true; the input reads as it did. -/
def treeBuildsUptoRow : OpenClaim := { program := "ytfiafmhnmafnbaa", sum := "1ff80398404673c81f7aab143f9fb79306c2a8ec5389a1343ee387cec9c91281", func := "accidence/accidencelaw08.TreeBuilds", spec := "treeBuilds", inPlace := ["internal/abi.NoEscape", "internal/bytealg.MakeNoZero", "math.Float64frombits", "math.Float64bits"], unfollowed := true, recurses := true, apart := false, narrowed := true }
def TreeBuildsUptoSaid : Prop := treeBuildsUptoRow.holds Try.pinned (OpenSpec.upto treeBuildsSpec)

/-- 'accidencelaw08.TreeSames', WHERE WHAT IT READS IS OF BULK AT MOST 1048576: true; the input reads as it did. -/
def treeSamesUptoRow : OpenClaim := { program := "ytfiafmhnmafnbaa", sum := "1ff80398404673c81f7aab143f9fb79306c2a8ec5389a1343ee387cec9c91281", func := "accidence/accidencelaw08.TreeSames", spec := "treeSames", inPlace := ["internal/abi.NoEscape", "internal/bytealg.MakeNoZero", "math.Float64frombits", "math.Float64bits"], unfollowed := true, recurses := true, apart := false, narrowed := true }
def TreeSamesUptoSaid : Prop := treeSamesUptoRow.holds Try.pinned (OpenSpec.upto treeSamesSpec)

/-- 'accidencelaw08.TreeBends', WHERE WHAT IT READS IS OF BULK AT MOST 1048576: true; the input reads as it did. -/
def treeBendsUptoRow : OpenClaim := { program := "ytfiafmhnmafnbaa", sum := "1ff80398404673c81f7aab143f9fb79306c2a8ec5389a1343ee387cec9c91281", func := "accidence/accidencelaw08.TreeBends", spec := "treeBends", inPlace := ["internal/abi.NoEscape", "internal/bytealg.MakeNoZero", "math.Float64frombits", "math.Float64bits"], unfollowed := true, recurses := true, apart := false, narrowed := true }
def TreeBendsUptoSaid : Prop := treeBendsUptoRow.holds Try.pinned (OpenSpec.upto treeBendsSpec)

/-- 'accidencelaw08.TreeSpans', WHERE WHAT IT READS IS OF BULK AT MOST 1048576: true; the input reads as it did. -/
def treeSpansUptoRow : OpenClaim := { program := "ytfiafmhnmafnbaa", sum := "1ff80398404673c81f7aab143f9fb79306c2a8ec5389a1343ee387cec9c91281", func := "accidence/accidencelaw08.TreeSpans", spec := "treeSpans", inPlace := ["internal/abi.NoEscape", "internal/bytealg.MakeNoZero", "math.Float64frombits", "math.Float64bits"], unfollowed := true, recurses := true, apart := false, narrowed := true }
def TreeSpansUptoSaid : Prop := treeSpansUptoRow.holds Try.pinned (OpenSpec.upto treeSpansSpec)

end Rows
end Go.Proofs.Ytfiafmhnmafnbaa
