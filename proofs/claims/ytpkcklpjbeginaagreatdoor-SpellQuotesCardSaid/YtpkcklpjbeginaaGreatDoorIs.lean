/- errors.Is by its contracts: two sentinels, alike or not; after the guide's SentryIs. -/
import Derived.Test.YtpkcklpjbeginaaGreatDoorChecked
import Derived.Test.YtpkcklpjbeginaaGreatDoorProg
import Derived.WalkKit
import Derived.LaidEql
import Derived.Stop.Asserts
import Derived.RowKitTokens
set_option linter.unusedSimpArgs false
set_option linter.unusedVariables false
namespace Go.Proofs.YtpkcklpjbeginaaGreatDoor
open Go.RowKit Go.Extern.Stop Go.Stop Go.Extern

theorem Tryz.isTypeOf (v : Value) (w : World) : (Extern.ReflectliteType.typeOf #[.iface 211 v]).run Tryz.prog w = .ok (.iface 135 (.agg #[.pointer (some ⟨26, 211, none⟩)])) w := by kernel_rfl
theorem Tryz.isComparable (w : World) : (callFunc 212 #[.agg #[.pointer (some ⟨26, 211, none⟩)]]).run Tryz.prog w = .ok (.value (.bool true)) w := by
 have h32 := @run_callFunc_extern Tryz.prog 212 _ (Extern.ReflectliteType.method fun t => do Extern.Rtype.noPackHeld "Comparable" t; pure (.bool (← typeInfo t).comparable)) Tryz.func212 (by kernel_rfl) (by kernel_rfl) (by kernel_rfl) (by kernel_rfl)
 exact (h32 _ w).trans (by kernel_rfl)
theorem Tryz.isMethodComparable (v : Value) (w : World) : (Go.method 341 135 v "Comparable").run Tryz.prog w = .ok (212, v) w := by kernel_rfl
theorem Tryz.isComp : (Tryz.prog.info? 211).map (·.comparable) = some true := by kernel_rfl
theorem Tryz.isSize : (Tryz.prog.info? 229).map (·.size) = some 1 := by kernel_rfl

theorem Tryz.noIsE (v : Value) (xT : TypeId) (w : World) : (Instr.typeAssert (.iface 211 v) xT 137 true).run Tryz.prog w = .ok (.tuple #[.nilIface, .bool false]) w := run_typeAssert_lacksB Tryz.underlying137 (by kernel_rfl) (by kernel_rfl) v xT w
theorem Tryz.noUnwrapE (v : Value) (xT : TypeId) (w : World) : (Instr.typeAssert (.iface 211 v) xT 140 true).run Tryz.prog w = .ok (.tuple #[.nilIface, .bool false]) w := run_typeAssert_lacksB Tryz.underlying140 (by kernel_rfl) (by kernel_rfl) v xT w
theorem Tryz.noUnwrapsE (v : Value) (xT : TypeId) (w : World) : (Instr.typeAssert (.iface 211 v) xT 142 true).run Tryz.prog w = .ok (.tuple #[.nilIface, .bool false]) w := run_typeAssert_lacksB Tryz.underlying142 (by kernel_rfl) (by kernel_rfl) v xT w

end Go.Proofs.YtpkcklpjbeginaaGreatDoor
