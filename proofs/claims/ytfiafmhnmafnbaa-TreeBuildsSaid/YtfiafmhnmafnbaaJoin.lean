/- strings.Join: the library's contract, laid at this program by the shelf's command (plain mode). -/
import Derived.Shelf.Strings.OnBuilder
import Derived.Test.YtfiafmhnmafnbaaName
namespace Go.Proofs.Ytfiafmhnmafnbaa
open Go.RowKit Go.Shelf
def lays156_ren : Go.Shelf.Ren := ⟨fun | 156 => 37 | 165 => 50 | 166 => 51 | 169 => 52 | 240 => 62 | 241 => 63 | 276 => 69 | 277 => 70 | n => n, fun | 31 => 22 | 9 => 9 | 3 => 3 | 4 => 4 | 0 => 0 | 20 => 20 | 72 => 85 | 76 => 89 | 70 => 82 | 37 => 83 | 75 => 88 | 127 => 99 | 164 => 109 | 5 => 5 | 80 => 91 | n => n, fun | n => n⟩
theorem lays156 : Go.Proofs.Lays.n156 Try.prog lays156_ren := {
  mixed := by kernel_rfl
  f156 := Try.func37.trans (congrArg some (by kernel_rfl))
  f165 := Try.func50.trans (congrArg some (by kernel_rfl))
  f166 := Try.func51.trans (congrArg some (by kernel_rfl))
  f169 := Try.func52.trans (congrArg some (by kernel_rfl))
  f240 := Try.func62.trans (congrArg some (by kernel_rfl))
  f241 := Try.func63.trans (congrArg some (by kernel_rfl))
  f276 := Try.func69.trans (congrArg some (by kernel_rfl))
  f277 := Try.func70.trans (congrArg some (by kernel_rfl))
  t0 := Try.underlying0
  a0 := Try.isAgg0
  z0 := Try.sizeOf0
  v0 := Try.zeroValue0
  t3 := Try.underlying3
  a3 := Try.isAgg3
  z3 := Try.sizeOf3
  v3 := Try.zeroValue3
  t4 := Try.underlying4
  a4 := Try.isAgg4
  z4 := Try.sizeOf4
  v4 := Try.zeroValue4
  t9 := Try.underlying9
  a9 := Try.isAgg9
  z9 := Try.sizeOf9
  v9 := Try.zeroValue9
  t20 := Try.underlying20
  a20 := Try.isAgg20
  z20 := Try.sizeOf20
  v20 := Try.zeroValue20
  t31 := Try.underlying22
  a31 := Try.isAgg22
  z31 := Try.sizeOf22
  v31 := Try.zeroValue22
  t37 := Try.underlying83
  a37 := Try.isAgg83
  z37 := Try.sizeOf83
  v37 := Try.zeroValue83
  t70 := Try.underlying82
  a70 := Try.isAgg82
  z70 := Try.sizeOf82
  v70 := Try.zeroValue82
  t72 := Try.underlying85
  a72 := Try.isAgg85
  z72 := Try.sizeOf85
  v72 := Try.zeroValue85
  t75 := Try.underlying88
  a75 := Try.isAgg88
  z75 := Try.sizeOf88
  v75 := Try.zeroValue88
  t76 := Try.underlying89
  a76 := Try.isAgg89
  z76 := Try.sizeOf89
  v76 := Try.zeroValue89
  t127 := Try.underlying99
  a127 := Try.isAgg99
  z127 := Try.sizeOf99
  v127 := Try.zeroValue99
  t164 := Try.underlying109
  a164 := Try.isAgg109
  z164 := Try.sizeOf109
  v164 := Try.zeroValue109 }
theorem builder_156 : Builder.Extra Try.prog lays156_ren := {
  sizeBuilder := by kernel_rfl
  liesBuilder := by kernel_rfl
  t5 := Try.underlying5
  a5 := Try.isAgg5
  z5 := Try.sizeOf5
  v5 := Try.zeroValue5
  infoByte := by kernel_rfl
  cellsByte := by kernel_rfl
  sizeByte := by kernel_rfl
  neB5 := by decide }
/-- strings.Join of texts in memory. -/
theorem join_any (bk o c : Nat) (xs : List ByteArray) (sep : ByteArray) (w : World) (hcells : ∀ (j : Nat) x, xs[j]? = some x → w.cell? ⟨bk, o + j, none⟩ = some (.string x)) (hbk : bk < w.heap.size) (hN : xs.length ≤ 140737488355328) (hcap : xs.length ≤ c) (hlen : (Lib.join (xs.map (·.data.toList)) sep.data.toList).length ≤ 140737488355328) :
    Calls Try.prog 37 #[.slice (some ⟨bk, o, none⟩) xs.length c, .string sep] w (StrPost ⟨(Lib.join (xs.map (·.data.toList)) sep.data.toList).toArray⟩ w) := Any.strings_Join lays156 builder_156 bk o c xs sep w hcells hbk hN hcap hlen
end Go.Proofs.Ytfiafmhnmafnbaa
