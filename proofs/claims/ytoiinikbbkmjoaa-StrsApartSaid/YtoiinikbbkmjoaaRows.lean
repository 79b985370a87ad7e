/-
  No cell of these rows narrows 'for every input' (looked for: loops, veiled, ifaces, maps, wideKeys, modest, calm, conditions, laid).
  DERIVED. THE GIVEN ROWS OF THIS SEAT. 5 by the template 'for every input the law returns true; each argument reads behind the call as it read before'; 0 by the template 'total and deterministic' (their statements: YtoiinikbbkmjoaaTotals.lean).
  GIVEN WITH THE SEED: the statements are not yours to turn. If you find one false, say at which input.
  Laid BY PROGRAM, IN A SANDBOX (cutbox-rows.mjs): the forced cells as the released guide's own fill.sh prints them over the translation 18826ffc2c647907… (all of the seat's roots in one cut). By AI agents, Wed Nov 11 2026. No macro, syntax, notation, axiom, sorry.
-/
import Derived.Test.YtoiinikbbkmjoaaChecked
import GoSem.Claim
import GoSem.ClaimJoined
import GoSem.ClaimMapViews
import Derived.JoinedTies
import Derived.KernelRfl
namespace Go.Proofs.Ytoiinikbbkmjoaa
/- THE CELL 'sum', in the pinned program and in every row, IS THE sha256 OF THE DUMP (.gsa) THAT YtoiinikbbkmjoaaProg.lean LOADS. Nothing in Lean hashes anything: it is a label: what it is worth is what the hold of that sum in a sandbox is worth. -/
noncomputable def Try.pinned : Pinned := { name := "ytoiinikbbkmjoaa", sum := "18826ffc2c6479074e2852593838056b773f58be2e85925f45f1e356f8caa2ec", checked := Try.checked }
namespace Rows
def none {H : Type} : Left H := { results := [], args := [] }

/-- 'accidencelaw02.StrsWords': WHATEVER THE INPUT: true; the input reads as it did. -/
def strsWordsSpec : ChangeSpec := { name := "strsWords", fn := fun _ => fun
  | [d1, d2, d3] => { results := [.lit (.bool true)], args := [d1, d2, d3] }
  | _ => none }
def strsWordsRow : OpenClaim := { program := "ytoiinikbbkmjoaa", sum := "18826ffc2c6479074e2852593838056b773f58be2e85925f45f1e356f8caa2ec", func := "accidence/accidencelaw02.StrsWords", spec := "strsWords", inPlace := ["slices.overlaps[[]int]"], unfollowed := true, recurses := true, apart := false }
def StrsWordsSaid : Prop := strsWordsRow.holds Try.pinned (OpenSpec.ofChange strsWordsSpec)

/-- ITS FALSE NEIGHBOUR: 'it returns false'. Refute it at one input. -/
def strsWordsWrong : ChangeSpec := { name := "strsWords", fn := fun _ => fun
  | [d1, d2, d3] => { results := [.lit (.bool false)], args := [d1, d2, d3] }
  | _ => none }
def StrsWordsWrongFalsely : Prop := strsWordsRow.holds Try.pinned (OpenSpec.ofChange strsWordsWrong)

/-- 'accidencelaw02.StrsApart': WHATEVER THE INPUT: true; the input reads as it did. -/
def strsApartSpec : ChangeSpec := { name := "strsApart", fn := fun _ => fun
  | [d1, d2] => { results := [.lit (.bool true)], args := [d1, d2] }
  | _ => none }
def strsApartRow : OpenClaim := { program := "ytoiinikbbkmjoaa", sum := "18826ffc2c6479074e2852593838056b773f58be2e85925f45f1e356f8caa2ec", func := "accidence/accidencelaw02.StrsApart", spec := "strsApart", inPlace := ["slices.overlaps[[]int]"], unfollowed := true, recurses := true, apart := false }
def StrsApartSaid : Prop := strsApartRow.holds Try.pinned (OpenSpec.ofChange strsApartSpec)

/-- ITS FALSE NEIGHBOUR: 'it returns false'. Refute it at one input. -/
def strsApartWrong : ChangeSpec := { name := "strsApart", fn := fun _ => fun
  | [d1, d2] => { results := [.lit (.bool false)], args := [d1, d2] }
  | _ => none }
def StrsApartWrongFalsely : Prop := strsApartRow.holds Try.pinned (OpenSpec.ofChange strsApartWrong)

/-- 'accidencelaw02.StrsTimes': WHATEVER THE INPUT: true; the input reads as it did. -/
def strsTimesSpec : ChangeSpec := { name := "strsTimes", fn := fun _ => fun
  | [d1, d2, d3, d4] => { results := [.lit (.bool true)], args := [d1, d2, d3, d4] }
  | _ => none }
def strsTimesRow : OpenClaim := { program := "ytoiinikbbkmjoaa", sum := "18826ffc2c6479074e2852593838056b773f58be2e85925f45f1e356f8caa2ec", func := "accidence/accidencelaw02.StrsTimes", spec := "strsTimes", inPlace := ["slices.overlaps[[]int]"], unfollowed := true, recurses := true, apart := false }
def StrsTimesSaid : Prop := strsTimesRow.holds Try.pinned (OpenSpec.ofChange strsTimesSpec)

/-- ITS FALSE NEIGHBOUR: 'it returns false'. Refute it at one input. -/
def strsTimesWrong : ChangeSpec := { name := "strsTimes", fn := fun _ => fun
  | [d1, d2, d3, d4] => { results := [.lit (.bool false)], args := [d1, d2, d3, d4] }
  | _ => none }
def StrsTimesWrongFalsely : Prop := strsTimesRow.holds Try.pinned (OpenSpec.ofChange strsTimesWrong)

/-- 'accidencelaw02.StrsSets': WHATEVER THE INPUT: true; the input reads as it did. -/
def strsSetsSpec : ChangeSpec := { name := "strsSets", fn := fun _ => fun
  | [d1, d2, d3, d4] => { results := [.lit (.bool true)], args := [d1, d2, d3, d4] }
  | _ => none }
def strsSetsRow : OpenClaim := { program := "ytoiinikbbkmjoaa", sum := "18826ffc2c6479074e2852593838056b773f58be2e85925f45f1e356f8caa2ec", func := "accidence/accidencelaw02.StrsSets", spec := "strsSets", inPlace := ["slices.overlaps[[]int]"], unfollowed := true, recurses := true, apart := false }
def StrsSetsSaid : Prop := strsSetsRow.holds Try.pinned (OpenSpec.ofChange strsSetsSpec)

/-- ITS FALSE NEIGHBOUR: 'it returns false'. Refute it at one input. -/
def strsSetsWrong : ChangeSpec := { name := "strsSets", fn := fun _ => fun
  | [d1, d2, d3, d4] => { results := [.lit (.bool false)], args := [d1, d2, d3, d4] }
  | _ => none }
def StrsSetsWrongFalsely : Prop := strsSetsRow.holds Try.pinned (OpenSpec.ofChange strsSetsWrong)

/-- 'accidencelaw02.StrsMeets': WHATEVER THE INPUT: true; the input reads as it did. -/
def strsMeetsSpec : ChangeSpec := { name := "strsMeets", fn := fun _ => fun
  | [d1, d2, d3] => { results := [.lit (.bool true)], args := [d1, d2, d3] }
  | _ => none }
def strsMeetsRow : OpenClaim := { program := "ytoiinikbbkmjoaa", sum := "18826ffc2c6479074e2852593838056b773f58be2e85925f45f1e356f8caa2ec", func := "accidence/accidencelaw02.StrsMeets", spec := "strsMeets", inPlace := ["slices.overlaps[[]int]"], unfollowed := true, recurses := true, apart := false }
def StrsMeetsSaid : Prop := strsMeetsRow.holds Try.pinned (OpenSpec.ofChange strsMeetsSpec)

/-- ITS FALSE NEIGHBOUR: 'it returns false'. Refute it at one input. -/
def strsMeetsWrong : ChangeSpec := { name := "strsMeets", fn := fun _ => fun
  | [d1, d2, d3] => { results := [.lit (.bool false)], args := [d1, d2, d3] }
  | _ => none }
def StrsMeetsWrongFalsely : Prop := strsMeetsRow.holds Try.pinned (OpenSpec.ofChange strsMeetsWrong)

/- THE SECOND FORM. 'bulk': how many values and letters a reading holds, each counted each time it is reached (what is shared counts as often as it is met; a slice's spare places count too). A statement '..UptoSaid' is the law's where the arguments, and the package variables that the reading takes, are together of bulk at most 1048576: NARROWER than '..Said'. Prove '..Said' where nothing that the law and all that it calls make is longer than what came in: it says more and counts as full. Else prove '..UptoSaid'. A law counts once. -/
mutual
def uptoBulk {H : Type} : DataW H → Nat
  | .lit (.string bytes) => bytes.length + 1
  | .lit _ => 1
  | .nil => 1
  | .ptr d => uptoBulk d + 1
  | .slice elems spare => uptoBulkAll elems + uptoBulkAll spare + 1
  | .agg parts => uptoBulkAll parts + 1
  | .iface _ d => uptoBulk d + 1
  | .map entries => uptoBulkEntries entries + 1
  | .held _ => 1
def uptoBulkAll {H : Type} : List (DataW H) → Nat
  | [] => 0
  | d :: r => uptoBulk d + uptoBulkAll r
def uptoBulkEntries {H : Type} : List (Lit × DataW H) → Nat
  | [] => 0
  | x :: r => uptoBulkEntry x + uptoBulkEntries r
def uptoBulkEntry {H : Type} : Lit × DataW H → Nat
  | (.string bytes, d) => bytes.length + uptoBulk d + 1
  | (_, d) => uptoBulk d + 1
 end
def uptoSmall : (H : Type) → List (DataW H) → Bool := fun _ ds => decide (uptoBulkAll ds ≤ 1048576)
def OpenSpec.upto (s : _root_.Go.ChangeSpec) : _root_.Go.OpenSpec := { _root_.Go.OpenSpec.ofChange s with cond := some uptoSmall }

/-- 'accidencelaw02.StrsWords', WHERE WHAT IT READS IS OF BULK AT MOST 1048576: true; the input reads as it did. -/
def strsWordsUptoRow : OpenClaim := { program := "ytoiinikbbkmjoaa", sum := "18826ffc2c6479074e2852593838056b773f58be2e85925f45f1e356f8caa2ec", func := "accidence/accidencelaw02.StrsWords", spec := "strsWords", inPlace := ["slices.overlaps[[]int]"], unfollowed := true, recurses := true, apart := false, narrowed := true }
def StrsWordsUptoSaid : Prop := strsWordsUptoRow.holds Try.pinned (OpenSpec.upto strsWordsSpec)

/-- 'accidencelaw02.StrsApart', WHERE WHAT IT READS IS OF BULK AT MOST 1048576: true; the input reads as it did. -/
def strsApartUptoRow : OpenClaim := { program := "ytoiinikbbkmjoaa", sum := "18826ffc2c6479074e2852593838056b773f58be2e85925f45f1e356f8caa2ec", func := "accidence/accidencelaw02.StrsApart", spec := "strsApart", inPlace := ["slices.overlaps[[]int]"], unfollowed := true, recurses := true, apart := false, narrowed := true }
def StrsApartUptoSaid : Prop := strsApartUptoRow.holds Try.pinned (OpenSpec.upto strsApartSpec)

/-- 'accidencelaw02.StrsTimes', WHERE WHAT IT READS IS OF BULK AT MOST 1048576: true; the input reads as it did. -/
def strsTimesUptoRow : OpenClaim := { program := "ytoiinikbbkmjoaa", sum := "18826ffc2c6479074e2852593838056b773f58be2e85925f45f1e356f8caa2ec", func := "accidence/accidencelaw02.StrsTimes", spec := "strsTimes", inPlace := ["slices.overlaps[[]int]"], unfollowed := true, recurses := true, apart := false, narrowed := true }
def StrsTimesUptoSaid : Prop := strsTimesUptoRow.holds Try.pinned (OpenSpec.upto strsTimesSpec)

/-- 'accidencelaw02.StrsSets', WHERE WHAT IT READS IS OF BULK AT MOST 1048576: true; the input reads as it did. -/
def strsSetsUptoRow : OpenClaim := { program := "ytoiinikbbkmjoaa", sum := "18826ffc2c6479074e2852593838056b773f58be2e85925f45f1e356f8caa2ec", func := "accidence/accidencelaw02.StrsSets", spec := "strsSets", inPlace := ["slices.overlaps[[]int]"], unfollowed := true, recurses := true, apart := false, narrowed := true }
def StrsSetsUptoSaid : Prop := strsSetsUptoRow.holds Try.pinned (OpenSpec.upto strsSetsSpec)

/-- 'accidencelaw02.StrsMeets', WHERE WHAT IT READS IS OF BULK AT MOST 1048576: true; the input reads as it did. -/
def strsMeetsUptoRow : OpenClaim := { program := "ytoiinikbbkmjoaa", sum := "18826ffc2c6479074e2852593838056b773f58be2e85925f45f1e356f8caa2ec", func := "accidence/accidencelaw02.StrsMeets", spec := "strsMeets", inPlace := ["slices.overlaps[[]int]"], unfollowed := true, recurses := true, apart := false, narrowed := true }
def StrsMeetsUptoSaid : Prop := strsMeetsUptoRow.holds Try.pinned (OpenSpec.upto strsMeetsSpec)

end Rows
end Go.Proofs.Ytoiinikbbkmjoaa
