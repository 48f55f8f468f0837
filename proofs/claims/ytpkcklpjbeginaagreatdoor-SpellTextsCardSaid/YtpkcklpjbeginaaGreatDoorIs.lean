/- errors.Is by its contracts: two sentinels, alike or not; after the guide's SentryIs. -/
import Derived.Test.YtpkcklpjbeginaaGreatDoorChecked
import Derived.Test.YtpkcklpjbeginaaGreatDoorProg
import Derived.WalkKit
import Derived.LaidEql
import Derived.Stop.Asserts
import Derived.RowKitTokens
set_option linter.unusedSimpArgs false
set_option linter.unusedVariables false
namespace Go.Proofs.YtpkcklpjbeginaaGreatDoor
open Go.RowKit Go.Extern.Stop Go.Stop Go.Extern

theorem Tryz.isTypeOf (v : Value) (w : World) : (Extern.ReflectliteType.typeOf #[.iface 211 v]).run Tryz.prog w = .ok (.iface 135 (.agg #[.pointer (some ⟨26, 211, none⟩)])) w := by kernel_rfl
theorem Tryz.isComparable (w : World) : (callFunc 212 #[.agg #[.pointer (some ⟨26, 211, none⟩)]]).run Tryz.prog w = .ok (.value (.bool true)) w := by
 have h32 := @run_callFunc_extern Tryz.prog 212 _ (Extern.ReflectliteType.method fun t => do Extern.Rtype.noPackHeld "Comparable" t; pure (.bool (← typeInfo t).comparable)) Tryz.func212 (by kernel_rfl) (by kernel_rfl) (by kernel_rfl) (by kernel_rfl)
 exact (h32 _ w).trans (by kernel_rfl)
theorem Tryz.isMethodComparable (v : Value) (w : World) : (Go.method 341 135 v "Comparable").run Tryz.prog w = .ok (212, v) w := by kernel_rfl
theorem Tryz.isComp : (Tryz.prog.info? 211).map (·.comparable) = some true := by kernel_rfl
theorem Tryz.isSize : (Tryz.prog.info? 229).map (·.size) = some 1 := by kernel_rfl

theorem Tryz.noIsE (v : Value) (xT : TypeId) (w : World) : (Instr.typeAssert (.iface 211 v) xT 137 true).run Tryz.prog w = .ok (.tuple #[.nilIface, .bool false]) w := run_typeAssert_lacksB Tryz.underlying137 (by kernel_rfl) (by kernel_rfl) v xT w
theorem Tryz.noUnwrapE (v : Value) (xT : TypeId) (w : World) : (Instr.typeAssert (.iface 211 v) xT 140 true).run Tryz.prog w = .ok (.tuple #[.nilIface, .bool false]) w := run_typeAssert_lacksB Tryz.underlying140 (by kernel_rfl) (by kernel_rfl) v xT w
theorem Tryz.noUnwrapsE (v : Value) (xT : TypeId) (w : World) : (Instr.typeAssert (.iface 211 v) xT 142 true).run Tryz.prog w = .ok (.tuple #[.nilIface, .bool false]) w := run_typeAssert_lacksB Tryz.underlying142 (by kernel_rfl) (by kernel_rfl) v xT w

set_option maxRecDepth 100000 in
/-- errors.Is(x, x). -/
theorem is_same (a : Addr) (w : World) :
  Calls Tryz.prog 38 #[.iface 211 (.pointer (some a)), .iface 211 (.pointer (some a))] w fun e w' => e = .returned (.bool true) ∧ w' = w := by
 obtain ⟨i, hi, hcmp⟩ := Option.map_eq_some_iff.1 Tryz.isComp
 obtain ⟨j, hj, hjs⟩ := Option.map_eq_some_iff.1 Tryz.isSize
 have h8 := @run_callFunc_extern Tryz.prog 67 _ Extern.ReflectliteType.typeOf Tryz.func67 (by kernel_rfl) (by kernel_rfl) (by kernel_rfl) (by kernel_rfl)
 have tT := Tryz.isTypeOf
 have cT := Tryz.isComparable
 have mR := Tryz.isMethodComparable
 have heq := run_eql_iface_ptr_same (P := Tryz.prog) w a Tryz.underlying32 Tryz.underlying211 hi hcmp hj
 go_enter Tryz.func38, Tryz.ntmps38
 go_wp2
 refine wp_loop_rounds 1 ?_
 rw [rounds_succ]
 go_wp2
 go_ret
 exact ⟨rfl, rfl⟩

set_option maxRecDepth 100000 in
/-- errors.Is(x, y), two different pointers to errors.errorString. -/
theorem is_other (a b : Addr) (ca cb : Array Value) (ta tb : TypeId) (w : World) (hne : a ≠ b) (ha : w.heap[a.block]? = some (.cells ca ta (0, 0))) (hb : w.heap[b.block]? = some (.cells cb tb (0, 0))) :
  Calls Tryz.prog 38 #[.iface 211 (.pointer (some a)), .iface 211 (.pointer (some b))] w fun e w' => e = .returned (.bool false) ∧ w' = w := by
 obtain ⟨i, hi, hcmp⟩ := Option.map_eq_some_iff.1 Tryz.isComp
 obtain ⟨j, hj, hjs⟩ := Option.map_eq_some_iff.1 Tryz.isSize
 have h8 := @run_callFunc_extern Tryz.prog 67 _ Extern.ReflectliteType.typeOf Tryz.func67 (by kernel_rfl) (by kernel_rfl) (by kernel_rfl) (by kernel_rfl)
 have tT := Tryz.isTypeOf
 have cT := Tryz.isComparable
 have mR := Tryz.isMethodComparable
 have nE := Tryz.noIsE
 have uE := Tryz.noUnwrapE
 have vE := Tryz.noUnwrapsE
 have heq := run_eql_iface_ptr_other (P := Tryz.prog) w Tryz.underlying32 Tryz.underlying211 hi hcmp hj (by rw [hjs]; decide) hne ha hb
 go_enter Tryz.func38, Tryz.ntmps38
 go_wp2
 refine wp_loop_rounds 1 ?_
 rw [rounds_succ]
 go_wp2
 go_ret
 exact ⟨rfl, rfl⟩
end Go.Proofs.YtpkcklpjbeginaaGreatDoor
