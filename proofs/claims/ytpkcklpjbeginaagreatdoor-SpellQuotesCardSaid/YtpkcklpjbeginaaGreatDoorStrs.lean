/- Strs: strings.IndexByte, strings.Index: their contracts off the shelf.
StrsI: strings.Index: its contract off the shelf. -/
import Derived.Test.YtpkcklpjbeginaaGreatDoorProg
import Derived.Test.YtpkcklpjbeginaaGreatDoorWords
import Derived.Shelf.Small.Strs
import Derived.Shelf.Strings.Search3
set_option linter.unusedSimpArgs false
set_option linter.unusedVariables false
set_option linter.unnecessarySimpa false

/-! ## Strs -/
namespace Go.Proofs.YtpkcklpjbeginaaGreatDoor
open Go.RowKit

def strRen : Go.Shelf.Ren := ⟨fun | 143 => 181 | 137 => 51 | 217 => 86 | 219 => 169 | 224 => 183 | 225 => 182 | 266 => 118 | 267 => 184 | 314 => 186 | n => n, fun | 3 => 3 | 4 => 4 | 5 => 5 | 9 => 9 | 46 => 92 | 51 => 204 | 146 => 208 | n => n, fun | 1 => 22 | n => n⟩
theorem idxbLays : Lays.n137 Tryz.prog strRen where
 mixed := by kernel_rfl
 f137 := Tryz.func51.trans (congrArg some (by kernel_rfl))
 f217 := Tryz.func86.trans (congrArg some (by kernel_rfl))
 f266 := Tryz.func118.trans (congrArg some (by kernel_rfl))
 t3 := Tryz.underlying3
 a3 := Tryz.isAgg3
 z3 := Tryz.sizeOf3
 v3 := Tryz.zeroValue3
 t5 := Tryz.underlying5
 a5 := Tryz.isAgg5
 z5 := Tryz.sizeOf5
 v5 := Tryz.zeroValue5
 t9 := Tryz.underlying9
 a9 := Tryz.isAgg9
 z9 := Tryz.sizeOf9
 v9 := Tryz.zeroValue9
theorem idxLays : Lays.n143 Tryz.prog strRen where
 mixed := by kernel_rfl
 f143 := Tryz.func181.trans (congrArg some (by kernel_rfl))
 f217 := Tryz.func86.trans (congrArg some (by kernel_rfl))
 f219 := Tryz.func169.trans (congrArg some (by kernel_rfl))
 f224 := Tryz.func183.trans (congrArg some (by kernel_rfl))
 f225 := Tryz.func182.trans (congrArg some (by kernel_rfl))
 f266 := Tryz.func118.trans (congrArg some (by kernel_rfl))
 f267 := Tryz.func184.trans (congrArg some (by kernel_rfl))
 f314 := Tryz.func186.trans (congrArg some (by kernel_rfl))
 t3 := Tryz.underlying3
 a3 := Tryz.isAgg3
 z3 := Tryz.sizeOf3
 v3 := Tryz.zeroValue3
 t4 := Tryz.underlying4
 a4 := Tryz.isAgg4
 z4 := Tryz.sizeOf4
 v4 := Tryz.zeroValue4
 t5 := Tryz.underlying5
 a5 := Tryz.isAgg5
 z5 := Tryz.sizeOf5
 v5 := Tryz.zeroValue5
 t9 := Tryz.underlying9
 a9 := Tryz.isAgg9
 z9 := Tryz.sizeOf9
 v9 := Tryz.zeroValue9
 t46 := Tryz.underlying92
 a46 := Tryz.isAgg92
 z46 := Tryz.sizeOf92
 v46 := Tryz.zeroValue92
 t51 := Tryz.underlying204
 a51 := Tryz.isAgg204
 z51 := Tryz.sizeOf204
 v51 := Tryz.zeroValue204
 t146 := Tryz.underlying208
 a146 := Tryz.isAgg208
 z146 := Tryz.sizeOf208
 v146 := Tryz.zeroValue208
 g1 := by kernel_rfl

theorem indexByte_any (s : ByteArray) (c : Int) (w : World) :
  Calls Tryz.prog 51 #[.string s, .int .u8 c] w fun e w' => e = .returned (.int .i64 (Lib.indexByte s.data.toList c.toNat.toUInt8)) ∧ w' = w := Any.strings_IndexByte idxbLays s c w
theorem index_any (s sub : ByteArray) (m : Int) (w : World) (hs : s.size < 4294967281) (hm : w.cell? ⟨22, 0, none⟩ = some (.int .i64 m)) :
  Calls Tryz.prog 181 #[.string s, .string sub] w fun e w' => e = .returned (.int .i64 (Lib.index s.data.toList sub.data.toList)) ∧ w' = w := Any.strings_Index idxLays s sub m w hs hm
end Go.Proofs.YtpkcklpjbeginaaGreatDoor

/-! ## StrsI -/
namespace Go.Proofs.YtpkcklpjbeginaaGreatDoor
open Go.RowKit

end Go.Proofs.YtpkcklpjbeginaaGreatDoor
