/- errors.Is by its contracts: two sentinels, alike or not; after the guide's SentryIs. -/
import Derived.Test.YtpkcklpjbeginaaDoorChecked
import Derived.Test.YtpkcklpjbeginaaDoorProg
import Derived.WalkKit
import Derived.LaidEql
import Derived.Stop.Asserts
import Derived.RowKitTokens
set_option linter.unusedSimpArgs false
set_option linter.unusedVariables false
namespace Go.Proofs.YtpkcklpjbeginaaDoor
open Go.RowKit Go.Extern.Stop Go.Stop Go.Extern

theorem Tryd.isTypeOf (v : Value) (w : World) : (Extern.ReflectliteType.typeOf #[.iface 133 v]).run Tryd.prog w = .ok (.iface 88 (.agg #[.pointer (some ⟨23, 133, none⟩)])) w := by kernel_rfl
theorem Tryd.isComparable (w : World) : (callFunc 108 #[.agg #[.pointer (some ⟨23, 133, none⟩)]]).run Tryd.prog w = .ok (.value (.bool true)) w := by
  have h32 := @run_callFunc_extern Tryd.prog 108 _ (Extern.ReflectliteType.method fun t => do Extern.Rtype.noPackHeld "Comparable" t; pure (.bool (← typeInfo t).comparable)) Tryd.func108 (by kernel_rfl) (by kernel_rfl) (by kernel_rfl) (by kernel_rfl)
  exact (h32 _ w).trans (by kernel_rfl)
theorem Tryd.isMethodComparable (v : Value) (w : World) : (Go.method 266 88 v "Comparable").run Tryd.prog w = .ok (108, v) w := by kernel_rfl
theorem Tryd.isComp : (Tryd.prog.info? 133).map (·.comparable) = some true := by kernel_rfl
theorem Tryd.isSize : (Tryd.prog.info? 154).map (·.size) = some 1 := by kernel_rfl

theorem Tryd.noIsE (v : Value) (xT : TypeId) (w : World) : (Instr.typeAssert (.iface 133 v) xT 90 true).run Tryd.prog w = .ok (.tuple #[.nilIface, .bool false]) w := run_typeAssert_lacksB Tryd.underlying90 (by kernel_rfl) (by kernel_rfl) v xT w
theorem Tryd.noUnwrapE (v : Value) (xT : TypeId) (w : World) : (Instr.typeAssert (.iface 133 v) xT 93 true).run Tryd.prog w = .ok (.tuple #[.nilIface, .bool false]) w := run_typeAssert_lacksB Tryd.underlying93 (by kernel_rfl) (by kernel_rfl) v xT w
theorem Tryd.noUnwrapsE (v : Value) (xT : TypeId) (w : World) : (Instr.typeAssert (.iface 133 v) xT 95 true).run Tryd.prog w = .ok (.tuple #[.nilIface, .bool false]) w := run_typeAssert_lacksB Tryd.underlying95 (by kernel_rfl) (by kernel_rfl) v xT w

end Go.Proofs.YtpkcklpjbeginaaDoor
