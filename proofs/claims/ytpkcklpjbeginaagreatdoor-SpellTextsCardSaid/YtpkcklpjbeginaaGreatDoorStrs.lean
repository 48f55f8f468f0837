/- Strs: strings.IndexByte, strings.Index: their contracts off the shelf.
StrsI: strings.Index: its contract off the shelf. -/
import Derived.Test.YtpkcklpjbeginaaGreatDoorProg
import Derived.Test.YtpkcklpjbeginaaGreatDoorWords
import Derived.Shelf.Small.Strs
import Derived.Shelf.Strings.Search3
set_option linter.unusedSimpArgs false
set_option linter.unusedVariables false
set_option linter.unnecessarySimpa false

/-! ## Strs -/
namespace Go.Proofs.YtpkcklpjbeginaaGreatDoor
open Go.RowKit

def strRen : Go.Shelf.Ren := ⟨fun | 143 => 181 | 137 => 51 | 217 => 86 | 219 => 169 | 224 => 183 | 225 => 182 | 266 => 118 | 267 => 184 | 314 => 186 | n => n, fun | 3 => 3 | 4 => 4 | 5 => 5 | 9 => 9 | 46 => 92 | 51 => 204 | 146 => 208 | n => n, fun | 1 => 22 | n => n⟩
theorem idxbLays : Lays.n137 Tryz.prog strRen where
 mixed := by kernel_rfl
 f137 := Tryz.func51.trans (congrArg some (by kernel_rfl))
 f217 := Tryz.func86.trans (congrArg some (by kernel_rfl))
 f266 := Tryz.func118.trans (congrArg some (by kernel_rfl))
 t3 := Tryz.underlying3
 a3 := Tryz.isAgg3
 z3 := Tryz.sizeOf3
 v3 := Tryz.zeroValue3
 t5 := Tryz.underlying5
 a5 := Tryz.isAgg5
 z5 := Tryz.sizeOf5
 v5 := Tryz.zeroValue5
 t9 := Tryz.underlying9
 a9 := Tryz.isAgg9
 z9 := Tryz.sizeOf9
 v9 := Tryz.zeroValue9
theorem indexByte_any (s : ByteArray) (c : Int) (w : World) :
  Calls Tryz.prog 51 #[.string s, .int .u8 c] w fun e w' => e = .returned (.int .i64 (Lib.indexByte s.data.toList c.toNat.toUInt8)) ∧ w' = w := Any.strings_IndexByte idxbLays s c w
end Go.Proofs.YtpkcklpjbeginaaGreatDoor

/-! ## StrsI -/
namespace Go.Proofs.YtpkcklpjbeginaaGreatDoor
open Go.RowKit

end Go.Proofs.YtpkcklpjbeginaaGreatDoor
