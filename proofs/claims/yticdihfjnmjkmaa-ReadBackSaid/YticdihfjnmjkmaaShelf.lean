/- Functions of the library strings: their contracts, laid at this program by the shelf's command (plain mode). -/
import Derived.Shelf.Small.Wraps
import Derived.Shelf.Strings.Search1
import Derived.Shelf.Strings.Search2
import Derived.Shelf.Strings.Repeat
import Derived.Test.YticdihfjnmjkmaaProg
namespace Go.Proofs.Yticdihfjnmjkmaa
open Go.RowKit Go.Shelf Go.Lib
def lays103_ren : Go.Shelf.Ren := ⟨fun | 103 => 65 | 210 => 75 | 206 => 84 | n => n, fun | 9 => 9 | 4 => 4 | 24 => 102 | 3 => 3 | n => n, fun | n => n⟩
theorem lays103 : Go.Proofs.Lays.n103 Try.prog lays103_ren := {
  mixed := by kernel_rfl
  f103 := Try.func65.trans (congrArg some (by kernel_rfl))
  f206 := Try.func84.trans (congrArg some (by kernel_rfl))
  f210 := Try.func75.trans (congrArg some (by kernel_rfl))
  t3 := Try.underlying3
  a3 := Try.isAgg3
  z3 := Try.sizeOf3
  v3 := Try.zeroValue3
  t4 := Try.underlying4
  a4 := Try.isAgg4
  z4 := Try.sizeOf4
  v4 := Try.zeroValue4
  t9 := Try.underlying9
  a9 := Try.isAgg9
  z9 := Try.sizeOf9
  v9 := Try.zeroValue9
  t24 := Try.underlying102
  a24 := Try.isAgg102
  z24 := Try.sizeOf102
  v24 := Try.zeroValue102 }
theorem strings_CutPrefix (s p : ByteArray) (w : World) :
    Calls Try.prog 65 #[.string s, .string p] w fun e w' => e = .returned (.tuple #[.string ⟨(Lib.trimPrefix s.data.toList p.data.toList).toArray⟩, .bool (Lib.hasPrefix s.data.toList p.data.toList)]) ∧ w' = w := Any.strings_CutPrefix lays103 s p w
def lays219_ren : Go.Shelf.Ren := ⟨fun | 219 => 85 | 217 => 90 | 225 => 91 | 224 => 92 | 267 => 93 | 266 => 96 | 314 => 97 | n => n, fun | 9 => 9 | 3 => 3 | 4 => 4 | 5 => 5 | 46 => 111 | 146 => 130 | 51 => 129 | n => n, fun | 1 => 1 | n => n⟩
theorem lays219 : Go.Proofs.Lays.n219 Try.prog lays219_ren := {
  mixed := by kernel_rfl
  f217 := Try.func90.trans (congrArg some (by kernel_rfl))
  f219 := Try.func85.trans (congrArg some (by kernel_rfl))
  f224 := Try.func92.trans (congrArg some (by kernel_rfl))
  f225 := Try.func91.trans (congrArg some (by kernel_rfl))
  f266 := Try.func96.trans (congrArg some (by kernel_rfl))
  f267 := Try.func93.trans (congrArg some (by kernel_rfl))
  f314 := Try.func97.trans (congrArg some (by kernel_rfl))
  t3 := Try.underlying3
  a3 := Try.isAgg3
  z3 := Try.sizeOf3
  v3 := Try.zeroValue3
  t4 := Try.underlying4
  a4 := Try.isAgg4
  z4 := Try.sizeOf4
  v4 := Try.zeroValue4
  t5 := Try.underlying5
  a5 := Try.isAgg5
  z5 := Try.sizeOf5
  v5 := Try.zeroValue5
  t9 := Try.underlying9
  a9 := Try.isAgg9
  z9 := Try.sizeOf9
  v9 := Try.zeroValue9
  t46 := Try.underlying111
  a46 := Try.isAgg111
  z46 := Try.sizeOf111
  v46 := Try.zeroValue111
  t51 := Try.underlying129
  a51 := Try.isAgg129
  z51 := Try.sizeOf129
  v51 := Try.zeroValue129
  t146 := Try.underlying130
  a146 := Try.isAgg130
  z146 := Try.sizeOf130
  v146 := Try.zeroValue130
  g1 := by kernel_rfl }
theorem stringslite_Index_one (s : ByteArray) (c : UInt8) (w : World) :
    Calls Try.prog 85 #[.string s, .string ⟨#[c]⟩] w fun e w' => e = .returned (.int .i64 (Lib.indexByte s.data.toList c)) ∧ w' = w := Any.stringslite_Index_one lays219 s c w
def lays105_ren : Go.Shelf.Ren := ⟨fun | 105 => 69 | 212 => 77 | 99 => 78 | 165 => 79 | 166 => 80 | 170 => 81 | 169 => 82 | 263 => 86 | 264 => 87 | 206 => 84 | 240 => 88 | 241 => 89 | 276 => 94 | 277 => 95 | n => n, fun | 9 => 9 | 3 => 3 | 4 => 4 | 20 => 20 | 0 => 0 | 46 => 111 | 109 => 115 | 5 => 5 | 72 => 119 | 76 => 123 | 51 => 129 | 146 => 130 | 53 => 89 | 148 => 132 | 70 => 117 | 37 => 37 | 75 => 122 | 127 => 134 | 164 => 137 | 80 => 110 | n => n, fun | n => n⟩
theorem lays105 : Go.Proofs.Lays.n105 Try.prog lays105_ren := {
  mixed := by kernel_rfl
  f99 := Try.func78.trans (congrArg some (by kernel_rfl))
  f105 := Try.func69.trans (congrArg some (by kernel_rfl))
  f165 := Try.func79.trans (congrArg some (by kernel_rfl))
  f166 := Try.func80.trans (congrArg some (by kernel_rfl))
  f169 := Try.func82.trans (congrArg some (by kernel_rfl))
  f170 := Try.func81.trans (congrArg some (by kernel_rfl))
  f206 := Try.func84.trans (congrArg some (by kernel_rfl))
  f212 := Try.func77.trans (congrArg some (by kernel_rfl))
  f240 := Try.func88.trans (congrArg some (by kernel_rfl))
  f241 := Try.func89.trans (congrArg some (by kernel_rfl))
  f263 := Try.func86.trans (congrArg some (by kernel_rfl))
  f264 := Try.func87.trans (congrArg some (by kernel_rfl))
  f276 := Try.func94.trans (congrArg some (by kernel_rfl))
  f277 := Try.func95.trans (congrArg some (by kernel_rfl))
  t0 := Try.underlying0
  a0 := Try.isAgg0
  z0 := Try.sizeOf0
  v0 := Try.zeroValue0
  t3 := Try.underlying3
  a3 := Try.isAgg3
  z3 := Try.sizeOf3
  v3 := Try.zeroValue3
  t4 := Try.underlying4
  a4 := Try.isAgg4
  z4 := Try.sizeOf4
  v4 := Try.zeroValue4
  t5 := Try.underlying5
  a5 := Try.isAgg5
  z5 := Try.sizeOf5
  v5 := Try.zeroValue5
  t9 := Try.underlying9
  a9 := Try.isAgg9
  z9 := Try.sizeOf9
  v9 := Try.zeroValue9
  t20 := Try.underlying20
  a20 := Try.isAgg20
  z20 := Try.sizeOf20
  v20 := Try.zeroValue20
  t37 := Try.underlying37
  a37 := Try.isAgg37
  z37 := Try.sizeOf37
  v37 := Try.zeroValue37
  t46 := Try.underlying111
  a46 := Try.isAgg111
  z46 := Try.sizeOf111
  v46 := Try.zeroValue111
  t51 := Try.underlying129
  a51 := Try.isAgg129
  z51 := Try.sizeOf129
  v51 := Try.zeroValue129
  t53 := Try.underlying89
  a53 := Try.isAgg89
  z53 := Try.sizeOf89
  v53 := Try.zeroValue89
  t70 := Try.underlying117
  a70 := Try.isAgg117
  z70 := Try.sizeOf117
  v70 := Try.zeroValue117
  t72 := Try.underlying119
  a72 := Try.isAgg119
  z72 := Try.sizeOf119
  v72 := Try.zeroValue119
  t75 := Try.underlying122
  a75 := Try.isAgg122
  z75 := Try.sizeOf122
  v75 := Try.zeroValue122
  t76 := Try.underlying123
  a76 := Try.isAgg123
  z76 := Try.sizeOf123
  v76 := Try.zeroValue123
  t109 := Try.underlying115
  a109 := Try.isAgg115
  z109 := Try.sizeOf115
  v109 := Try.zeroValue115
  t127 := Try.underlying134
  a127 := Try.isAgg134
  z127 := Try.sizeOf134
  v127 := Try.zeroValue134
  t146 := Try.underlying130
  a146 := Try.isAgg130
  z146 := Try.sizeOf130
  v146 := Try.zeroValue130
  t148 := Try.underlying132
  a148 := Try.isAgg132
  z148 := Try.sizeOf132
  v148 := Try.zeroValue132
  t164 := Try.underlying137
  a164 := Try.isAgg137
  z164 := Try.sizeOf137
  v164 := Try.zeroValue137 }
theorem Builder_Extra_105 : Builder.Extra Try.prog lays105_ren := {
  sizeBuilder := by kernel_rfl
  liesBuilder := by kernel_rfl
  t5 := Try.underlying5
  a5 := Try.isAgg5
  z5 := Try.sizeOf5
  v5 := Try.zeroValue5
  infoByte := by kernel_rfl
  cellsByte := by kernel_rfl
  sizeByte := by kernel_rfl
  neB5 := by decide }
theorem strings_Repeat (s : ByteArray) (c : Nat) (w : World) (hc : c ≤ 9223372036854775807) (hlen : s.size * c ≤ 140737488355328) :
    Calls Try.prog 69 #[.string s, .int .i64 c] w fun e w' => e = .returned (.string ⟨(Lib.repeatL s.data.toList c).toArray⟩) ∧ Below w.heap.size w w' := Any.strings_Repeat lays105 Builder_Extra_105 s c w hc hlen
end Go.Proofs.Yticdihfjnmjkmaa
