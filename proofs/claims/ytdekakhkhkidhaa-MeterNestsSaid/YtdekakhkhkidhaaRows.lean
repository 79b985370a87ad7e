/-
  No cell of these rows narrows 'for every input' (looked for: loops, veiled, ifaces, maps, wideKeys, modest, calm, conditions, laid).
  DERIVED. THE GIVEN ROWS OF THIS SEAT. 4 by the template 'for every input the law returns true; each argument reads behind the call as it read before'; 0 by the template 'total and deterministic' (their statements: YtdekakhkhkidhaaTotals.lean).
  GIVEN WITH THE SEED: the statements are not yours to turn. If you find one false, say at which input.
  Laid BY PROGRAM, IN A SANDBOX (cutbox-rows.mjs): the forced cells as the released guide's own fill.sh prints them over the translation 76ec31222fb91ab0… (all of the seat's roots in one cut). By AI agents, Wed Nov 11 2026. No macro, syntax, notation, axiom, sorry.
-/
import Derived.Test.YtdekakhkhkidhaaChecked
import GoSem.Claim
import GoSem.ClaimJoined
import GoSem.ClaimMapViews
import Derived.JoinedTies
import Derived.KernelRfl
namespace Go.Proofs.Ytdekakhkhkidhaa
/- THE CELL 'sum', in the pinned program and in every row, IS THE sha256 OF THE DUMP (.gsa) THAT YtdekakhkhkidhaaProg.lean LOADS. Nothing in Lean hashes anything: it is a label: what it is worth is what the hold of that sum in a sandbox is worth. -/
noncomputable def Try.pinned : Pinned := { name := "ytdekakhkhkidhaa", sum := "76ec31222fb91ab09a55a5e1b40ff678ba6afad5515eb5a2d7786083dd597bc3", checked := Try.checked }
namespace Rows
def none {H : Type} : Left H := { results := [], args := [] }

/-- 'accidencelaw03.MeterSpends': WHATEVER THE INPUT: true; the input reads as it did. -/
def meterSpendsSpec : ChangeSpec := { name := "meterSpends", fn := fun _ => fun
  | [d1, d2] => { results := [.lit (.bool true)], args := [d1, d2] }
  | _ => none }
def meterSpendsRow : OpenClaim := { program := "ytdekakhkhkidhaa", sum := "76ec31222fb91ab09a55a5e1b40ff678ba6afad5515eb5a2d7786083dd597bc3", func := "accidence/accidencelaw03.MeterSpends", spec := "meterSpends", unfollowed := true, recurses := true, apart := false }
def MeterSpendsSaid : Prop := meterSpendsRow.holds Try.pinned (OpenSpec.ofChange meterSpendsSpec)

/-- ITS FALSE NEIGHBOUR: 'it returns false'. Refute it at one input. -/
def meterSpendsWrong : ChangeSpec := { name := "meterSpends", fn := fun _ => fun
  | [d1, d2] => { results := [.lit (.bool false)], args := [d1, d2] }
  | _ => none }
def MeterSpendsWrongFalsely : Prop := meterSpendsRow.holds Try.pinned (OpenSpec.ofChange meterSpendsWrong)

/-- 'accidencelaw03.MeterAgain': WHATEVER THE INPUT: true; the input reads as it did. -/
def meterAgainSpec : ChangeSpec := { name := "meterAgain", fn := fun _ => fun
  | [d1, d2, d3] => { results := [.lit (.bool true)], args := [d1, d2, d3] }
  | _ => none }
def meterAgainRow : OpenClaim := { program := "ytdekakhkhkidhaa", sum := "76ec31222fb91ab09a55a5e1b40ff678ba6afad5515eb5a2d7786083dd597bc3", func := "accidence/accidencelaw03.MeterAgain", spec := "meterAgain", unfollowed := true, recurses := true, apart := false }
def MeterAgainSaid : Prop := meterAgainRow.holds Try.pinned (OpenSpec.ofChange meterAgainSpec)

/-- ITS FALSE NEIGHBOUR: 'it returns false'. Refute it at one input. -/
def meterAgainWrong : ChangeSpec := { name := "meterAgain", fn := fun _ => fun
  | [d1, d2, d3] => { results := [.lit (.bool false)], args := [d1, d2, d3] }
  | _ => none }
def MeterAgainWrongFalsely : Prop := meterAgainRow.holds Try.pinned (OpenSpec.ofChange meterAgainWrong)

/-- 'accidencelaw03.MeterNests': WHATEVER THE INPUT: true; the input reads as it did. -/
def meterNestsSpec : ChangeSpec := { name := "meterNests", fn := fun _ => fun
  | [d1, d2, d3, d4] => { results := [.lit (.bool true)], args := [d1, d2, d3, d4] }
  | _ => none }
def meterNestsRow : OpenClaim := { program := "ytdekakhkhkidhaa", sum := "76ec31222fb91ab09a55a5e1b40ff678ba6afad5515eb5a2d7786083dd597bc3", func := "accidence/accidencelaw03.MeterNests", spec := "meterNests", unfollowed := true, recurses := true, apart := false }
def MeterNestsSaid : Prop := meterNestsRow.holds Try.pinned (OpenSpec.ofChange meterNestsSpec)

/-- ITS FALSE NEIGHBOUR: 'it returns false'. Refute it at one input. -/
def meterNestsWrong : ChangeSpec := { name := "meterNests", fn := fun _ => fun
  | [d1, d2, d3, d4] => { results := [.lit (.bool false)], args := [d1, d2, d3, d4] }
  | _ => none }
def MeterNestsWrongFalsely : Prop := meterNestsRow.holds Try.pinned (OpenSpec.ofChange meterNestsWrong)

/-- 'accidencelaw03.MeterTries': WHATEVER THE INPUT: true; the input reads as it did. -/
def meterTriesSpec : ChangeSpec := { name := "meterTries", fn := fun _ => fun
  | [d1, d2] => { results := [.lit (.bool true)], args := [d1, d2] }
  | _ => none }
def meterTriesRow : OpenClaim := { program := "ytdekakhkhkidhaa", sum := "76ec31222fb91ab09a55a5e1b40ff678ba6afad5515eb5a2d7786083dd597bc3", func := "accidence/accidencelaw03.MeterTries", spec := "meterTries", unfollowed := true, recurses := true, apart := false }
def MeterTriesSaid : Prop := meterTriesRow.holds Try.pinned (OpenSpec.ofChange meterTriesSpec)

/-- ITS FALSE NEIGHBOUR: 'it returns false'. Refute it at one input. -/
def meterTriesWrong : ChangeSpec := { name := "meterTries", fn := fun _ => fun
  | [d1, d2] => { results := [.lit (.bool false)], args := [d1, d2] }
  | _ => none }
def MeterTriesWrongFalsely : Prop := meterTriesRow.holds Try.pinned (OpenSpec.ofChange meterTriesWrong)

/- THE SECOND FORM. 'bulk': how many values and letters a reading holds, each counted each time it is reached (what is shared counts as often as it is met; a slice's spare places count too). A statement '..UptoSaid' is the law's where the arguments, and the package variables that the reading takes, are together of bulk at most 1048576: NARROWER than '..Said'. Prove '..Said' where nothing that the law and all that it calls make is longer than what came in: it says more and counts as full. Else prove '..UptoSaid'. A law counts once. -/
mutual
def uptoBulk {H : Type} : DataW H → Nat
  | .lit (.string bytes) => bytes.length + 1
  | .lit _ => 1
  | .nil => 1
  | .ptr d => uptoBulk d + 1
  | .slice elems spare => uptoBulkAll elems + uptoBulkAll spare + 1
  | .agg parts => uptoBulkAll parts + 1
  | .iface _ d => uptoBulk d + 1
  | .map entries => uptoBulkEntries entries + 1
  | .held _ => 1
def uptoBulkAll {H : Type} : List (DataW H) → Nat
  | [] => 0
  | d :: r => uptoBulk d + uptoBulkAll r
def uptoBulkEntries {H : Type} : List (Lit × DataW H) → Nat
  | [] => 0
  | x :: r => uptoBulkEntry x + uptoBulkEntries r
def uptoBulkEntry {H : Type} : Lit × DataW H → Nat
  | (.string bytes, d) => bytes.length + uptoBulk d + 1
  | (_, d) => uptoBulk d + 1
 end
def uptoSmall : (H : Type) → List (DataW H) → Bool := fun _ ds => decide (uptoBulkAll ds ≤ 1048576)
def OpenSpec.upto (s : _root_.Go.ChangeSpec) : _root_.Go.OpenSpec := { _root_.Go.OpenSpec.ofChange s with cond := some uptoSmall }

/-- 'accidencelaw03.MeterSpends', WHERE WHAT IT READS IS OF BULK AT MOST 1048576: true; the input reads as it did. -/
def meterSpendsUptoRow : OpenClaim := { program := "ytdekakhkhkidhaa", sum := "76ec31222fb91ab09a55a5e1b40ff678ba6afad5515eb5a2d7786083dd597bc3", func := "accidence/accidencelaw03.MeterSpends", spec := "meterSpends", unfollowed := true, recurses := true, apart := false, narrowed := true }
def MeterSpendsUptoSaid : Prop := meterSpendsUptoRow.holds Try.pinned (OpenSpec.upto meterSpendsSpec)

/-- 'accidencelaw03.MeterAgain', WHERE WHAT IT READS IS OF BULK AT MOST 1048576: true; the input reads as it did. -/
def meterAgainUptoRow : OpenClaim := { program := "ytdekakhkhkidhaa", sum := "76ec31222fb91ab09a55a5e1b40ff678ba6afad5515eb5a2d7786083dd597bc3", func := "accidence/accidencelaw03.MeterAgain", spec := "meterAgain", unfollowed := true, recurses := true, apart := false, narrowed := true }
def MeterAgainUptoSaid : Prop := meterAgainUptoRow.holds Try.pinned (OpenSpec.upto meterAgainSpec)

/-- 'accidencelaw03.MeterNests', WHERE WHAT IT READS IS OF BULK AT MOST 1048576: true; the input reads as it did. -/
def meterNestsUptoRow : OpenClaim := { program := "ytdekakhkhkidhaa", sum := "76ec31222fb91ab09a55a5e1b40ff678ba6afad5515eb5a2d7786083dd597bc3", func := "accidence/accidencelaw03.MeterNests", spec := "meterNests", unfollowed := true, recurses := true, apart := false, narrowed := true }
def MeterNestsUptoSaid : Prop := meterNestsUptoRow.holds Try.pinned (OpenSpec.upto meterNestsSpec)

/-- 'accidencelaw03.MeterTries', WHERE WHAT IT READS IS OF BULK AT MOST 1048576: true; the input reads as it did. -/
def meterTriesUptoRow : OpenClaim := { program := "ytdekakhkhkidhaa", sum := "76ec31222fb91ab09a55a5e1b40ff678ba6afad5515eb5a2d7786083dd597bc3", func := "accidence/accidencelaw03.MeterTries", spec := "meterTries", unfollowed := true, recurses := true, apart := false, narrowed := true }
def MeterTriesUptoSaid : Prop := meterTriesUptoRow.holds Try.pinned (OpenSpec.upto meterTriesSpec)

end Rows
end Go.Proofs.Ytdekakhkhkidhaa
