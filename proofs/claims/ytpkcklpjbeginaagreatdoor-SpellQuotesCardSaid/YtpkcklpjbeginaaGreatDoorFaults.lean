/- api.Fault: errors.Is, errors.As, trawlnum.Num and trawlnum.Place of a fault that wraps a sentinel; errors.As of a sentinel. -/
import Derived.Test.YtpkcklpjbeginaaGreatDoorNum
set_option linter.unusedSimpArgs false
set_option linter.unusedVariables false
namespace Go.Proofs.YtpkcklpjbeginaaGreatDoor
open Go.RowKit Go.Extern.Stop Go.Stop Go.Extern

/-- The error that points to a fault. -/
def faultV (g : Nat) : Value := .iface 83 (.pointer (some ⟨g, 0, none⟩))

theorem Tryz.noIsF (v : Value) (xT : TypeId) (w : World) : (Instr.typeAssert (.iface 83 v) xT 137 true).run Tryz.prog w = .ok (.tuple #[.nilIface, .bool false]) w := run_typeAssert_lacksB Tryz.underlying137 (by kernel_rfl) (by kernel_rfl) v xT w
theorem Tryz.unwrapF (v : Value) (xT : TypeId) (w : World) : (Instr.typeAssert (.iface 83 v) xT 140 true).run Tryz.prog w = .ok (.tuple #[.iface 83 v, .bool true]) w := run_typeAssert_hasB Tryz.underlying140 (by kernel_rfl) v xT w
theorem Tryz.methodUnwrapF (v : Value) (w : World) : (Go.method 341 83 v "Unwrap").run Tryz.prog w = .ok (206, v) w := by kernel_rfl

theorem fault_any (p : Int) (a : Addr) (w : World) :
  Calls Tryz.prog 41 #[.int .i64 p, errV a] w fun e w' => ∃ g, e = .returned (faultV g) ∧ w.heap.size ≤ g ∧ Blk w' g 87 #[.int .i64 p, errV a] ∧ Below w.heap.size w w' := by
 have hn := fun w => run_eql_iface_nil (P := Tryz.prog) (w := w) 32 (by kernel_rfl) 211 (.pointer (some a))
 unfold errV
 go_enter Tryz.func41, Tryz.ntmps41
 go_wp2_with fail
 go_ret
 exact ⟨w.heap.size, rfl, Nat.le_refl _, Blk.new _ _ _, (Below.refl _ _).alloc (Nat.le_refl _) _⟩

set_option maxRecDepth 100000 in
set_option maxHeartbeats 2000000 in
/-- errors.Is(a fault that wraps a sentinel, a sentinel). -/
theorem is_fault {w : World} {a : Nat → Addr} (h : Errs w a) (p : Int) (gf g k : Nat) (hg : g < 21) (hk : k < 21) (hb : Blk w gf 87 #[.int .i64 p, errV (a g)]) :
  Calls Tryz.prog 38 #[faultV gf, errV (a k)] w fun e w' => e = .returned (.bool (decide (g = k))) ∧ w' = w := by
 obtain ⟨i, hi, hcmp⟩ := Option.map_eq_some_iff.1 Tryz.isComp
 obtain ⟨j, hj, hjs⟩ := Option.map_eq_some_iff.1 Tryz.isSize
 have h8 := @run_callFunc_extern Tryz.prog 67 _ Extern.ReflectliteType.typeOf Tryz.func67 (by kernel_rfl) (by kernel_rfl) (by kernel_rfl) (by kernel_rfl)
 have tT := Tryz.isTypeOf
 have cT := Tryz.isComparable
 have mR := Tryz.isMethodComparable
 have nE := Tryz.noIsE
 have uE := Tryz.noUnwrapE
 have vE := Tryz.noUnwrapsE
 have nF := Tryz.noIsF
 have uF := Tryz.unwrapF
 have mF := Tryz.methodUnwrapF
 have hn := fun w => run_eql_iface_nil (P := Tryz.prog) (w := w) 32 (by kernel_rfl) 211 (.pointer (some (a g)))
 have hnF := fun w => run_eql_iface_nil (P := Tryz.prog) (w := w) 32 (by kernel_rfl) 83 (.pointer (some ⟨gf, 0, none⟩))
 have hqF := fun w => run_eql_iface_types (P := Tryz.prog) 83 211 (.pointer (some ⟨gf, 0, none⟩)) (.pointer (some (a k))) Tryz.underlying32 (by decide) w
 have hc := hb.cell
 by_cases hgk : g = k
 ·subst hgk
  have heq := run_eql_iface_ptr_same (P := Tryz.prog) w (a g) Tryz.underlying32 Tryz.underlying211 hi hcmp hj
  rw [show decide (g = g) = true by simp]
  clear h hb
  unfold errV faultV at *
  go_enter Tryz.func38, Tryz.ntmps38
  go_wp2
  refine wp_loop_rounds 2 ?_
  rw [rounds_succ]
  go_wp2
  rw [rounds_succ]
  go_wp2
  go_ret
  exact ⟨rfl, rfl⟩
 ·obtain ⟨ca, ta, ha⟩ := h.row g hg
  obtain ⟨cb, tb, hb'⟩ := h.row k hk
  have heq := run_eql_iface_ptr_other (P := Tryz.prog) w Tryz.underlying32 Tryz.underlying211 hi hcmp hj (by rw [hjs]; decide) (fun e => hgk (h.inj g k hg hk e)) ha hb'
  rw [show decide (g = k) = false by simp [hgk]]
  clear h hb ha hb'
  unfold errV faultV at *
  go_enter Tryz.func38, Tryz.ntmps38
  go_wp2
  refine wp_loop_rounds 2 ?_
  rw [rounds_succ]
  go_wp2
  rw [rounds_succ]
  go_wp2
  go_ret
  exact ⟨rfl, rfl⟩
end Go.Proofs.YtpkcklpjbeginaaGreatDoor
