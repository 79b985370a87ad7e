/-
  No cell of these rows narrows 'for every input' (looked for: loops, veiled, ifaces, maps, wideKeys, modest, calm, conditions, laid).
  DERIVED. THE GIVEN ROWS OF THIS SEAT. 7 by the template 'for every input the law returns true; each argument reads behind the call as it read before'; 0 by the template 'total and deterministic' (their statements: YticdihfjnmjkmaaTotals.lean).
  GIVEN WITH THE SEED: the statements are not yours to turn. If you find one false, say at which input.
  Laid BY PROGRAM, IN A SANDBOX (cutbox-rows.mjs): the forced cells as the released guide's own fill.sh prints them over the translation 36dcac0e2da15714… (all of the seat's roots in one cut). By AI agents, Wed Nov 11 2026. No macro, syntax, notation, axiom, sorry.
-/
import Derived.Test.YticdihfjnmjkmaaChecked
import GoSem.Claim
import GoSem.ClaimJoined
import GoSem.ClaimMapViews
import Derived.JoinedTies
import Derived.KernelRfl
namespace Go.Proofs.Yticdihfjnmjkmaa
/- THE CELL 'sum', in the pinned program and in every row, IS THE sha256 OF THE DUMP (.gsa) THAT YticdihfjnmjkmaaProg.lean LOADS. Nothing in Lean hashes anything: it is a label: what it is worth is what the hold of that sum in a sandbox is worth. -/
noncomputable def Try.pinned : Pinned := { name := "yticdihfjnmjkmaa", sum := "36dcac0e2da1571440714839791c3f4764c732ff7e1b0eb5ef62334c4f99b3e1", checked := Try.checked }
namespace Rows
def none {H : Type} : Left H := { results := [], args := [] }

/-- 'accidencelaw04.LexAlls': WHATEVER THE INPUT: true; the input reads as it did. -/
def lexAllsSpec : ChangeSpec := { name := "lexAlls", fn := fun _ => fun
  | [d] => { results := [.lit (.bool true)], args := [d] }
  | _ => none }
def lexAllsRow : OpenClaim := { program := "yticdihfjnmjkmaa", sum := "36dcac0e2da1571440714839791c3f4764c732ff7e1b0eb5ef62334c4f99b3e1", func := "accidence/accidencelaw04.LexAlls", spec := "lexAlls", inPlace := ["math.Float64frombits", "internal/bytealg.IndexByteString", "internal/bytealg.IndexString", "internal/abi.NoEscape", "internal/bytealg.MakeNoZero", "math.Float64bits"], unfollowed := true, recurses := true, named := ["internal/bytealg.MaxLen"], apart := false }
def LexAllsSaid : Prop := lexAllsRow.holds Try.pinned (OpenSpec.ofChange lexAllsSpec)

/-- ITS FALSE NEIGHBOUR: 'it returns false'. Refute it at one input. -/
def lexAllsWrong : ChangeSpec := { name := "lexAlls", fn := fun _ => fun
  | [d] => { results := [.lit (.bool false)], args := [d] }
  | _ => none }
def LexAllsWrongFalsely : Prop := lexAllsRow.holds Try.pinned (OpenSpec.ofChange lexAllsWrong)

/-- 'accidencelaw04.LexNames': WHATEVER THE INPUT: true; the input reads as it did. -/
def lexNamesSpec : ChangeSpec := { name := "lexNames", fn := fun _ => fun
  | [d] => { results := [.lit (.bool true)], args := [d] }
  | _ => none }
def lexNamesRow : OpenClaim := { program := "yticdihfjnmjkmaa", sum := "36dcac0e2da1571440714839791c3f4764c732ff7e1b0eb5ef62334c4f99b3e1", func := "accidence/accidencelaw04.LexNames", spec := "lexNames", inPlace := ["math.Float64frombits", "internal/bytealg.IndexByteString", "internal/bytealg.IndexString", "internal/abi.NoEscape", "internal/bytealg.MakeNoZero", "math.Float64bits"], unfollowed := true, recurses := true, named := ["internal/bytealg.MaxLen"], apart := false }
def LexNamesSaid : Prop := lexNamesRow.holds Try.pinned (OpenSpec.ofChange lexNamesSpec)

/-- ITS FALSE NEIGHBOUR: 'it returns false'. Refute it at one input. -/
def lexNamesWrong : ChangeSpec := { name := "lexNames", fn := fun _ => fun
  | [d] => { results := [.lit (.bool false)], args := [d] }
  | _ => none }
def LexNamesWrongFalsely : Prop := lexNamesRow.holds Try.pinned (OpenSpec.ofChange lexNamesWrong)

/-- 'accidencelaw04.LexBlanks': WHATEVER THE INPUT: true; the input reads as it did. -/
def lexBlanksSpec : ChangeSpec := { name := "lexBlanks", fn := fun _ => fun
  | [d1, d2] => { results := [.lit (.bool true)], args := [d1, d2] }
  | _ => none }
def lexBlanksRow : OpenClaim := { program := "yticdihfjnmjkmaa", sum := "36dcac0e2da1571440714839791c3f4764c732ff7e1b0eb5ef62334c4f99b3e1", func := "accidence/accidencelaw04.LexBlanks", spec := "lexBlanks", inPlace := ["math.Float64frombits", "internal/bytealg.IndexByteString", "internal/bytealg.IndexString", "internal/abi.NoEscape", "internal/bytealg.MakeNoZero", "math.Float64bits"], unfollowed := true, recurses := true, named := ["internal/bytealg.MaxLen"], apart := false }
def LexBlanksSaid : Prop := lexBlanksRow.holds Try.pinned (OpenSpec.ofChange lexBlanksSpec)

/-- ITS FALSE NEIGHBOUR: 'it returns false'. Refute it at one input. -/
def lexBlanksWrong : ChangeSpec := { name := "lexBlanks", fn := fun _ => fun
  | [d1, d2] => { results := [.lit (.bool false)], args := [d1, d2] }
  | _ => none }
def LexBlanksWrongFalsely : Prop := lexBlanksRow.holds Try.pinned (OpenSpec.ofChange lexBlanksWrong)

/-- 'accidencelaw04.LexJoins': WHATEVER THE INPUT: true; the input reads as it did. -/
def lexJoinsSpec : ChangeSpec := { name := "lexJoins", fn := fun _ => fun
  | [d1, d2] => { results := [.lit (.bool true)], args := [d1, d2] }
  | _ => none }
def lexJoinsRow : OpenClaim := { program := "yticdihfjnmjkmaa", sum := "36dcac0e2da1571440714839791c3f4764c732ff7e1b0eb5ef62334c4f99b3e1", func := "accidence/accidencelaw04.LexJoins", spec := "lexJoins", inPlace := ["math.Float64frombits", "internal/bytealg.IndexByteString", "internal/bytealg.IndexString", "internal/abi.NoEscape", "internal/bytealg.MakeNoZero", "math.Float64bits"], unfollowed := true, recurses := true, named := ["internal/bytealg.MaxLen"], apart := false }
def LexJoinsSaid : Prop := lexJoinsRow.holds Try.pinned (OpenSpec.ofChange lexJoinsSpec)

/-- ITS FALSE NEIGHBOUR: 'it returns false'. Refute it at one input. -/
def lexJoinsWrong : ChangeSpec := { name := "lexJoins", fn := fun _ => fun
  | [d1, d2] => { results := [.lit (.bool false)], args := [d1, d2] }
  | _ => none }
def LexJoinsWrongFalsely : Prop := lexJoinsRow.holds Try.pinned (OpenSpec.ofChange lexJoinsWrong)

/-- 'accidencelaw05.ReadParses': WHATEVER THE INPUT: true; the input reads as it did. -/
def readParsesSpec : ChangeSpec := { name := "readParses", fn := fun _ => fun
  | [d] => { results := [.lit (.bool true)], args := [d] }
  | _ => none }
def readParsesRow : OpenClaim := { program := "yticdihfjnmjkmaa", sum := "36dcac0e2da1571440714839791c3f4764c732ff7e1b0eb5ef62334c4f99b3e1", func := "accidence/accidencelaw05.ReadParses", spec := "readParses", inPlace := ["math.Float64frombits", "internal/bytealg.IndexByteString", "internal/bytealg.IndexString", "internal/abi.NoEscape", "internal/bytealg.MakeNoZero", "math.Float64bits"], unfollowed := true, recurses := true, named := ["internal/bytealg.MaxLen"], apart := false }
def ReadParsesSaid : Prop := readParsesRow.holds Try.pinned (OpenSpec.ofChange readParsesSpec)

/-- ITS FALSE NEIGHBOUR: 'it returns false'. Refute it at one input. -/
def readParsesWrong : ChangeSpec := { name := "readParses", fn := fun _ => fun
  | [d] => { results := [.lit (.bool false)], args := [d] }
  | _ => none }
def ReadParsesWrongFalsely : Prop := readParsesRow.holds Try.pinned (OpenSpec.ofChange readParsesWrong)

/-- 'accidencelaw05.ReadParts': WHATEVER THE INPUT: true; the input reads as it did. -/
def readPartsSpec : ChangeSpec := { name := "readParts", fn := fun _ => fun
  | [d1, d2] => { results := [.lit (.bool true)], args := [d1, d2] }
  | _ => none }
def readPartsRow : OpenClaim := { program := "yticdihfjnmjkmaa", sum := "36dcac0e2da1571440714839791c3f4764c732ff7e1b0eb5ef62334c4f99b3e1", func := "accidence/accidencelaw05.ReadParts", spec := "readParts", inPlace := ["math.Float64frombits", "internal/bytealg.IndexByteString", "internal/bytealg.IndexString", "internal/abi.NoEscape", "internal/bytealg.MakeNoZero", "math.Float64bits"], unfollowed := true, recurses := true, named := ["internal/bytealg.MaxLen"], apart := false }
def ReadPartsSaid : Prop := readPartsRow.holds Try.pinned (OpenSpec.ofChange readPartsSpec)

/-- ITS FALSE NEIGHBOUR: 'it returns false'. Refute it at one input. -/
def readPartsWrong : ChangeSpec := { name := "readParts", fn := fun _ => fun
  | [d1, d2] => { results := [.lit (.bool false)], args := [d1, d2] }
  | _ => none }
def ReadPartsWrongFalsely : Prop := readPartsRow.holds Try.pinned (OpenSpec.ofChange readPartsWrong)

/-- 'accidencelaw05.ReadBack': WHATEVER THE INPUT: true; the input reads as it did. -/
def readBackSpec : ChangeSpec := { name := "readBack", fn := fun _ => fun
  | [d] => { results := [.lit (.bool true)], args := [d] }
  | _ => none }
def readBackRow : OpenClaim := { program := "yticdihfjnmjkmaa", sum := "36dcac0e2da1571440714839791c3f4764c732ff7e1b0eb5ef62334c4f99b3e1", func := "accidence/accidencelaw05.ReadBack", spec := "readBack", inPlace := ["math.Float64frombits", "internal/bytealg.IndexByteString", "internal/bytealg.IndexString", "internal/abi.NoEscape", "internal/bytealg.MakeNoZero", "math.Float64bits"], unfollowed := true, recurses := true, named := ["internal/bytealg.MaxLen"], apart := false }
def ReadBackSaid : Prop := readBackRow.holds Try.pinned (OpenSpec.ofChange readBackSpec)

/-- ITS FALSE NEIGHBOUR: 'it returns false'. Refute it at one input. -/
def readBackWrong : ChangeSpec := { name := "readBack", fn := fun _ => fun
  | [d] => { results := [.lit (.bool false)], args := [d] }
  | _ => none }
def ReadBackWrongFalsely : Prop := readBackRow.holds Try.pinned (OpenSpec.ofChange readBackWrong)

/- THE SECOND FORM. 'bulk': how many values and letters a reading holds, each counted each time it is reached (what is shared counts as often as it is met; a slice's spare places count too). A statement '..UptoSaid' is the law's where the arguments, and the package variables that the reading takes, are together of bulk at most 1048576: NARROWER than '..Said'. Prove '..Said' where nothing that the law and all that it calls make is longer than what came in: it says more and counts as full. Else prove '..UptoSaid'. A law counts once. -/
mutual
def uptoBulk {H : Type} : DataW H → Nat
  | .lit (.string bytes) => bytes.length + 1
  | .lit _ => 1
  | .nil => 1
  | .ptr d => uptoBulk d + 1
  | .slice elems spare => uptoBulkAll elems + uptoBulkAll spare + 1
  | .agg parts => uptoBulkAll parts + 1
  | .iface _ d => uptoBulk d + 1
  | .map entries => uptoBulkEntries entries + 1
  | .held _ => 1
def uptoBulkAll {H : Type} : List (DataW H) → Nat
  | [] => 0
  | d :: r => uptoBulk d + uptoBulkAll r
def uptoBulkEntries {H : Type} : List (Lit × DataW H) → Nat
  | [] => 0
  | x :: r => uptoBulkEntry x + uptoBulkEntries r
def uptoBulkEntry {H : Type} : Lit × DataW H → Nat
  | (.string bytes, d) => bytes.length + uptoBulk d + 1
  | (_, d) => uptoBulk d + 1
 end
def uptoSmall : (H : Type) → List (DataW H) → Bool := fun _ ds => decide (uptoBulkAll ds ≤ 1048576)
def OpenSpec.upto (s : _root_.Go.ChangeSpec) : _root_.Go.OpenSpec := { _root_.Go.OpenSpec.ofChange s with cond := some uptoSmall }

/-- 'accidencelaw04.LexAlls', WHERE WHAT IT READS IS OF BULK AT MOST 1048576: true; the input reads as it did. -/
def lexAllsUptoRow : OpenClaim := { program := "yticdihfjnmjkmaa", sum := "36dcac0e2da1571440714839791c3f4764c732ff7e1b0eb5ef62334c4f99b3e1", func := "accidence/accidencelaw04.LexAlls", spec := "lexAlls", inPlace := ["math.Float64frombits", "internal/bytealg.IndexByteString", "internal/bytealg.IndexString", "internal/abi.NoEscape", "internal/bytealg.MakeNoZero", "math.Float64bits"], unfollowed := true, recurses := true, named := ["internal/bytealg.MaxLen"], apart := false, narrowed := true }
def LexAllsUptoSaid : Prop := lexAllsUptoRow.holds Try.pinned (OpenSpec.upto lexAllsSpec)

/-- 'accidencelaw04.LexNames', WHERE WHAT IT READS IS OF BULK AT MOST 1048576: true; the input reads as it did. -/
def lexNamesUptoRow : OpenClaim := { program := "yticdihfjnmjkmaa", sum := "36dcac0e2da1571440714839791c3f4764c732ff7e1b0eb5ef62334c4f99b3e1", func := "accidence/accidencelaw04.LexNames", spec := "lexNames", inPlace := ["math.Float64frombits", "internal/bytealg.IndexByteString", "internal/bytealg.IndexString", "internal/abi.NoEscape", "internal/bytealg.MakeNoZero", "math.Float64bits"], unfollowed := true, recurses := true, named := ["internal/bytealg.MaxLen"], apart := false, narrowed := true }
def LexNamesUptoSaid : Prop := lexNamesUptoRow.holds Try.pinned (OpenSpec.upto lexNamesSpec)

/-- 'accidencelaw04.LexBlanks', WHERE WHAT IT READS IS OF BULK AT MOST 1048576: true; the input reads as it did. -/
def lexBlanksUptoRow : OpenClaim := { program := "yticdihfjnmjkmaa", sum := "36dcac0e2da1571440714839791c3f4764c732ff7e1b0eb5ef62334c4f99b3e1", func := "accidence/accidencelaw04.LexBlanks", spec := "lexBlanks", inPlace := ["math.Float64frombits", "internal/bytealg.IndexByteString", "internal/bytealg.IndexString", "internal/abi.NoEscape", "internal/bytealg.MakeNoZero", "math.Float64bits"], unfollowed := true, recurses := true, named := ["internal/bytealg.MaxLen"], apart := false, narrowed := true }
def LexBlanksUptoSaid : Prop := lexBlanksUptoRow.holds Try.pinned (OpenSpec.upto lexBlanksSpec)

/-- 'accidencelaw04.LexJoins', WHERE WHAT IT READS IS OF BULK AT MOST 1048576: true; the input reads as it did. -/
def lexJoinsUptoRow : OpenClaim := { program := "yticdihfjnmjkmaa", sum := "36dcac0e2da1571440714839791c3f4764c732ff7e1b0eb5ef62334c4f99b3e1", func := "accidence/accidencelaw04.LexJoins", spec := "lexJoins", inPlace := ["math.Float64frombits", "internal/bytealg.IndexByteString", "internal/bytealg.IndexString", "internal/abi.NoEscape", "internal/bytealg.MakeNoZero", "math.Float64bits"], unfollowed := true, recurses := true, named := ["internal/bytealg.MaxLen"], apart := false, narrowed := true }
def LexJoinsUptoSaid : Prop := lexJoinsUptoRow.holds Try.pinned (OpenSpec.upto lexJoinsSpec)

/-- 'accidencelaw05.ReadParses', WHERE WHAT IT READS IS OF BULK AT MOST 1048576: true; the input reads as it did. -/
def readParsesUptoRow : OpenClaim := { program := "yticdihfjnmjkmaa", sum := "36dcac0e2da1571440714839791c3f4764c732ff7e1b0eb5ef62334c4f99b3e1", func := "accidence/accidencelaw05.ReadParses", spec := "readParses", inPlace := ["math.Float64frombits", "internal/bytealg.IndexByteString", "internal/bytealg.IndexString", "internal/abi.NoEscape", "internal/bytealg.MakeNoZero", "math.Float64bits"], unfollowed := true, recurses := true, named := ["internal/bytealg.MaxLen"], apart := false, narrowed := true }
def ReadParsesUptoSaid : Prop := readParsesUptoRow.holds Try.pinned (OpenSpec.upto readParsesSpec)

/-- 'accidencelaw05.ReadParts', WHERE WHAT IT READS IS OF BULK AT MOST 1048576: true; the input reads as it did. -/
def readPartsUptoRow : OpenClaim := { program := "yticdihfjnmjkmaa", sum := "36dcac0e2da1571440714839791c3f4764c732ff7e1b0eb5ef62334c4f99b3e1", func := "accidence/accidencelaw05.ReadParts", spec := "readParts", inPlace := ["math.Float64frombits", "internal/bytealg.IndexByteString", "internal/bytealg.IndexString", "internal/abi.NoEscape", "internal/bytealg.MakeNoZero", "math.Float64bits"], unfollowed := true, recurses := true, named := ["internal/bytealg.MaxLen"], apart := false, narrowed := true }
def ReadPartsUptoSaid : Prop := readPartsUptoRow.holds Try.pinned (OpenSpec.upto readPartsSpec)

/-- 'accidencelaw05.ReadBack', WHERE WHAT IT READS IS OF BULK AT MOST 1048576: true; the input reads as it did. -/
def readBackUptoRow : OpenClaim := { program := "yticdihfjnmjkmaa", sum := "36dcac0e2da1571440714839791c3f4764c732ff7e1b0eb5ef62334c4f99b3e1", func := "accidence/accidencelaw05.ReadBack", spec := "readBack", inPlace := ["math.Float64frombits", "internal/bytealg.IndexByteString", "internal/bytealg.IndexString", "internal/abi.NoEscape", "internal/bytealg.MakeNoZero", "math.Float64bits"], unfollowed := true, recurses := true, named := ["internal/bytealg.MaxLen"], apart := false, narrowed := true }
def ReadBackUptoSaid : Prop := readBackUptoRow.holds Try.pinned (OpenSpec.upto readBackSpec)

end Rows
end Go.Proofs.Yticdihfjnmjkmaa
