/-
  No cell of these rows narrows 'for every input' (looked for: loops, veiled, ifaces, maps, wideKeys, modest, calm, conditions, laid).
  DERIVED. THE GIVEN ROWS OF THIS SEAT. 4 by the template 'for every input the law returns true; each argument reads behind the call as it read before'; 0 by the template 'total and deterministic' (their statements: YtmiiolgbjicocaaTotals.lean).
  GIVEN WITH THE SEED: the statements are not yours to turn. If you find one false, say at which input.
  Laid BY PROGRAM, IN A SANDBOX (cutbox-rows.mjs): the forced cells as the released guide's own fill.sh prints them over the translation 9f5d096de5fd0aa1… (all of the seat's roots in one cut). By AI agents, Wed Nov 11 2026. No macro, syntax, notation, axiom, sorry.
-/
import Derived.Test.YtmiiolgbjicocaaChecked
import GoSem.Claim
import GoSem.ClaimJoined
import GoSem.ClaimMapViews
import Derived.JoinedTies
import Derived.KernelRfl
namespace Go.Proofs.Ytmiiolgbjicocaa
/- THE CELL 'sum', in the pinned program and in every row, IS THE sha256 OF THE DUMP (.gsa) THAT YtmiiolgbjicocaaProg.lean LOADS. Nothing in Lean hashes anything: it is a label: what it is worth is what the hold of that sum in a sandbox is worth. -/
noncomputable def Try.pinned : Pinned := { name := "ytmiiolgbjicocaa", sum := "9f5d096de5fd0aa10fc7d45b528a2e9776c63f565868729b4d7568989b2030c7", checked := Try.checked }
namespace Rows
def none {H : Type} : Left H := { results := [], args := [] }

/-- 'accidencelaw12.TableTells': WHATEVER THE INPUT: true; the input reads as it did. -/
def tableTellsSpec : ChangeSpec := { name := "tableTells", fn := fun _ => fun
  | [d1, d2, d3, d4] => { results := [.lit (.bool true)], args := [d1, d2, d3, d4] }
  | _ => none }
def tableTellsRow : OpenClaim := { program := "ytmiiolgbjicocaa", sum := "9f5d096de5fd0aa10fc7d45b528a2e9776c63f565868729b4d7568989b2030c7", func := "accidence/accidencelaw12.TableTells", spec := "tableTells", inPlace := ["slices.overlaps[[]int]", "math.Float64frombits", "math.Float64bits"], unfollowed := true, recurses := true, apart := false }
def TableTellsSaid : Prop := tableTellsRow.holds Try.pinned (OpenSpec.ofChange tableTellsSpec)

/-- ITS FALSE NEIGHBOUR: 'it returns false'. Refute it at one input. -/
def tableTellsWrong : ChangeSpec := { name := "tableTells", fn := fun _ => fun
  | [d1, d2, d3, d4] => { results := [.lit (.bool false)], args := [d1, d2, d3, d4] }
  | _ => none }
def TableTellsWrongFalsely : Prop := tableTellsRow.holds Try.pinned (OpenSpec.ofChange tableTellsWrong)

/-- 'accidencelaw12.TableClashes': WHATEVER THE INPUT: true; the input reads as it did. -/
def tableClashesSpec : ChangeSpec := { name := "tableClashes", fn := fun _ => fun
  | [d1, d2] => { results := [.lit (.bool true)], args := [d1, d2] }
  | _ => none }
def tableClashesRow : OpenClaim := { program := "ytmiiolgbjicocaa", sum := "9f5d096de5fd0aa10fc7d45b528a2e9776c63f565868729b4d7568989b2030c7", func := "accidence/accidencelaw12.TableClashes", spec := "tableClashes", inPlace := ["slices.overlaps[[]int]", "math.Float64frombits", "math.Float64bits"], unfollowed := true, recurses := true, apart := false }
def TableClashesSaid : Prop := tableClashesRow.holds Try.pinned (OpenSpec.ofChange tableClashesSpec)

/-- ITS FALSE NEIGHBOUR: 'it returns false'. Refute it at one input. -/
def tableClashesWrong : ChangeSpec := { name := "tableClashes", fn := fun _ => fun
  | [d1, d2] => { results := [.lit (.bool false)], args := [d1, d2] }
  | _ => none }
def TableClashesWrongFalsely : Prop := tableClashesRow.holds Try.pinned (OpenSpec.ofChange tableClashesWrong)

/-- 'accidencelaw12.TableMore': WHATEVER THE INPUT: true; the input reads as it did. -/
def tableMoreSpec : ChangeSpec := { name := "tableMore", fn := fun _ => fun
  | [d] => { results := [.lit (.bool true)], args := [d] }
  | _ => none }
def tableMoreRow : OpenClaim := { program := "ytmiiolgbjicocaa", sum := "9f5d096de5fd0aa10fc7d45b528a2e9776c63f565868729b4d7568989b2030c7", func := "accidence/accidencelaw12.TableMore", spec := "tableMore", inPlace := ["slices.overlaps[[]int]", "math.Float64frombits", "math.Float64bits"], unfollowed := true, recurses := true, apart := false }
def TableMoreSaid : Prop := tableMoreRow.holds Try.pinned (OpenSpec.ofChange tableMoreSpec)

/-- ITS FALSE NEIGHBOUR: 'it returns false'. Refute it at one input. -/
def tableMoreWrong : ChangeSpec := { name := "tableMore", fn := fun _ => fun
  | [d] => { results := [.lit (.bool false)], args := [d] }
  | _ => none }
def TableMoreWrongFalsely : Prop := tableMoreRow.holds Try.pinned (OpenSpec.ofChange tableMoreWrong)

/-- 'accidencelaw12.TableMeans': WHATEVER THE INPUT: true; the input reads as it did. -/
def tableMeansSpec : ChangeSpec := { name := "tableMeans", fn := fun _ => fun
  | [d1, d2, d3] => { results := [.lit (.bool true)], args := [d1, d2, d3] }
  | _ => none }
def tableMeansRow : OpenClaim := { program := "ytmiiolgbjicocaa", sum := "9f5d096de5fd0aa10fc7d45b528a2e9776c63f565868729b4d7568989b2030c7", func := "accidence/accidencelaw12.TableMeans", spec := "tableMeans", inPlace := ["slices.overlaps[[]int]", "math.Float64frombits", "math.Float64bits"], unfollowed := true, recurses := true, apart := false }
def TableMeansSaid : Prop := tableMeansRow.holds Try.pinned (OpenSpec.ofChange tableMeansSpec)

/-- ITS FALSE NEIGHBOUR: 'it returns false'. Refute it at one input. -/
def tableMeansWrong : ChangeSpec := { name := "tableMeans", fn := fun _ => fun
  | [d1, d2, d3] => { results := [.lit (.bool false)], args := [d1, d2, d3] }
  | _ => none }
def TableMeansWrongFalsely : Prop := tableMeansRow.holds Try.pinned (OpenSpec.ofChange tableMeansWrong)

/- THE SECOND FORM. 'bulk': how many values and letters a reading holds, each counted each time it is reached (what is shared counts as often as it is met; a slice's spare places count too). A statement '..UptoSaid' is the law's where the arguments, and the package variables that the reading takes, are together of bulk at most 1048576: NARROWER than '..Said'. Prove '..Said' where nothing that the law and all that it calls make is longer than what came in: it says more and counts as full. Else prove '..UptoSaid'. A law counts once. -/
mutual
def uptoBulk {H : Type} : DataW H → Nat
  | .lit (.string bytes) => bytes.length + 1
  | .lit _ => 1
  | .nil => 1
  | .ptr d => uptoBulk d + 1
  | .slice elems spare => uptoBulkAll elems + uptoBulkAll spare + 1
  | .agg parts => uptoBulkAll parts + 1
  | .iface _ d => uptoBulk d + 1
  | .map entries => uptoBulkEntries entries + 1
  | .held _ => 1
def uptoBulkAll {H : Type} : List (DataW H) → Nat
  | [] => 0
  | d :: r => uptoBulk d + uptoBulkAll r
def uptoBulkEntries {H : Type} : List (Lit × DataW H) → Nat
  | [] => 0
  | x :: r => uptoBulkEntry x + uptoBulkEntries r
def uptoBulkEntry {H : Type} : Lit × DataW H → Nat
  | (.string bytes, d) => bytes.length + uptoBulk d + 1
  | (_, d) => uptoBulk d + 1
 end
def uptoSmall : (H : Type) → List (DataW H) → Bool := fun _ ds => decide (uptoBulkAll ds ≤ 1048576)
def OpenSpec.upto (s : _root_.Go.ChangeSpec) : _root_.Go.OpenSpec := { _root_.Go.OpenSpec.ofChange s with cond := some uptoSmall }

/-- 'accidencelaw12.TableTells', WHERE WHAT IT READS IS OF BULK AT MOST 1048576: true; the input reads as it did. -/
def tableTellsUptoRow : OpenClaim := { program := "ytmiiolgbjicocaa", sum := "9f5d096de5fd0aa10fc7d45b528a2e9776c63f565868729b4d7568989b2030c7", func := "accidence/accidencelaw12.TableTells", spec := "tableTells", inPlace := ["slices.overlaps[[]int]", "math.Float64frombits", "math.Float64bits"], unfollowed := true, recurses := true, apart := false, narrowed := true }
def TableTellsUptoSaid : Prop := tableTellsUptoRow.holds Try.pinned (OpenSpec.upto tableTellsSpec)

/-- 'accidencelaw12.TableClashes', WHERE WHAT IT READS IS OF BULK AT MOST 1048576: true; the input reads as it did. -/
def tableClashesUptoRow : OpenClaim := { program := "ytmiiolgbjicocaa", sum := "9f5d096de5fd0aa10fc7d45b528a2e9776c63f565868729b4d7568989b2030c7", func := "accidence/accidencelaw12.TableClashes", spec := "tableClashes", inPlace := ["slices.overlaps[[]int]", "math.Float64frombits", "math.Float64bits"], unfollowed := true, recurses := true, apart := false, narrowed := true }
def TableClashesUptoSaid : Prop := tableClashesUptoRow.holds Try.pinned (OpenSpec.upto tableClashesSpec)

/-- 'accidencelaw12.TableMore', WHERE WHAT IT READS IS OF BULK AT MOST 1048576: true; the input reads as it did. -/
def tableMoreUptoRow : OpenClaim := { program := "ytmiiolgbjicocaa", sum := "9f5d096de5fd0aa10fc7d45b528a2e9776c63f565868729b4d7568989b2030c7", func := "accidence/accidencelaw12.TableMore", spec := "tableMore", inPlace := ["slices.overlaps[[]int]", "math.Float64frombits", "math.Float64bits"], unfollowed := true, recurses := true, apart := false, narrowed := true }
def TableMoreUptoSaid : Prop := tableMoreUptoRow.holds Try.pinned (OpenSpec.upto tableMoreSpec)

/-- 'accidencelaw12.TableMeans', WHERE WHAT IT READS IS OF BULK AT MOST 1048576: true; the input reads as it did. -/
def tableMeansUptoRow : OpenClaim := { program := "ytmiiolgbjicocaa", sum := "9f5d096de5fd0aa10fc7d45b528a2e9776c63f565868729b4d7568989b2030c7", func := "accidence/accidencelaw12.TableMeans", spec := "tableMeans", inPlace := ["slices.overlaps[[]int]", "math.Float64frombits", "math.Float64bits"], unfollowed := true, recurses := true, apart := false, narrowed := true }
def TableMeansUptoSaid : Prop := tableMeansUptoRow.holds Try.pinned (OpenSpec.upto tableMeansSpec)

end Rows
end Go.Proofs.Ytmiiolgbjicocaa
