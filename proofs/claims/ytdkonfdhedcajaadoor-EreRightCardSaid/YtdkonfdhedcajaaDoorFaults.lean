/- api.Fault: errors.Is, errors.As, trawlnum.Num and trawlnum.Place of a fault that wraps a sentinel; errors.As of a sentinel. -/
import Derived.Test.YtdkonfdhedcajaaDoorNum
set_option linter.unusedSimpArgs false
set_option linter.unusedVariables false
namespace Go.Proofs.YtdkonfdhedcajaaDoor
open Go.RowKit Go.Extern.Stop Go.Stop Go.Extern

/-- The error that points to a fault. -/
def faultV (g : Nat) : Value := .iface 63 (.pointer (some ⟨g, 0, none⟩))

theorem Tryd.noIsF (v : Value) (xT : TypeId) (w : World) : (Instr.typeAssert (.iface 63 v) xT 121 true).run Tryd.prog w = .ok (.tuple #[.nilIface, .bool false]) w := run_typeAssert_lacksB Tryd.underlying121 (by kernel_rfl) (by kernel_rfl) v xT w
theorem Tryd.unwrapF (v : Value) (xT : TypeId) (w : World) : (Instr.typeAssert (.iface 63 v) xT 124 true).run Tryd.prog w = .ok (.tuple #[.iface 63 v, .bool true]) w := run_typeAssert_hasB Tryd.underlying124 (by kernel_rfl) v xT w
theorem Tryd.methodUnwrapF (v : Value) (w : World) : (Go.method 287 63 v "Unwrap").run Tryd.prog w = .ok (139, v) w := by kernel_rfl

theorem fault_any (p : Int) (a : Addr) (w : World) :
    Calls Tryd.prog 35 #[.int .i64 p, errV a] w fun e w' => ∃ g, e = .returned (faultV g) ∧ w.heap.size ≤ g ∧ Blk w' g 67 #[.int .i64 p, errV a] ∧ Below w.heap.size w w' := by
  have hn := fun w => run_eql_iface_nil (P := Tryd.prog) (w := w) 27 (by kernel_rfl) 154 (.pointer (some a))
  unfold errV
  go_enter Tryd.func35, Tryd.ntmps35
  go_wp2_with fail
  go_ret
  exact ⟨w.heap.size, rfl, Nat.le_refl _, Blk.new _ _ _, (Below.refl _ _).alloc (Nat.le_refl _) _⟩

theorem unwrap_any (g : Nat) (p : Int) (a : Addr) (w : World) (hb : Blk w g 67 #[.int .i64 p, errV a]) :
    Calls Tryd.prog 139 #[.pointer (some ⟨g, 0, none⟩)] w fun e w' => e = .returned (errV a) ∧ w' = w := by
  have hc := hb.cell
  go_enter Tryd.func139, Tryd.ntmps139
  go_wp2_with fail
  go_ret
  exact ⟨rfl, rfl⟩

set_option maxRecDepth 100000 in
set_option maxHeartbeats 2000000 in
/-- errors.Is(a fault that wraps a sentinel, a sentinel). -/
theorem is_fault {w : World} {a : Nat → Addr} (h : Errs w a) (p : Int) (gf g k : Nat) (hg : g < 21) (hk : k < 21) (hb : Blk w gf 67 #[.int .i64 p, errV (a g)]) :
    Calls Tryd.prog 45 #[faultV gf, errV (a k)] w fun e w' => e = .returned (.bool (decide (g = k))) ∧ w' = w := by
  obtain ⟨i, hi, hcmp⟩ := Option.map_eq_some_iff.1 Tryd.isComp
  obtain ⟨j, hj, hjs⟩ := Option.map_eq_some_iff.1 Tryd.isSize
  have h8 := @run_callFunc_extern Tryd.prog 70 _ Extern.ReflectliteType.typeOf Tryd.func70 (by kernel_rfl) (by kernel_rfl) (by kernel_rfl) (by kernel_rfl)
  have tT := Tryd.isTypeOf
  have cT := Tryd.isComparable
  have mR := Tryd.isMethodComparable
  have nE := Tryd.noIsE
  have uE := Tryd.noUnwrapE
  have vE := Tryd.noUnwrapsE
  have nF := Tryd.noIsF
  have uF := Tryd.unwrapF
  have mF := Tryd.methodUnwrapF
  have hn := fun w => run_eql_iface_nil (P := Tryd.prog) (w := w) 27 (by kernel_rfl) 154 (.pointer (some (a g)))
  have hnF := fun w => run_eql_iface_nil (P := Tryd.prog) (w := w) 27 (by kernel_rfl) 63 (.pointer (some ⟨gf, 0, none⟩))
  have hqF := fun w => run_eql_iface_types (P := Tryd.prog) 63 154 (.pointer (some ⟨gf, 0, none⟩)) (.pointer (some (a k))) Tryd.underlying27 (by decide) w
  have hc := hb.cell
  by_cases hgk : g = k
  · subst hgk
    have heq := run_eql_iface_ptr_same (P := Tryd.prog) w (a g) Tryd.underlying27 Tryd.underlying154 hi hcmp hj
    rw [show decide (g = g) = true by simp]
    clear h hb
    unfold errV faultV at *
    go_enter Tryd.func45, Tryd.ntmps45
    go_wp2
    refine wp_loop_rounds 2 ?_
    rw [rounds_succ]
    go_wp2
    rw [rounds_succ]
    go_wp2
    go_ret
    exact ⟨rfl, rfl⟩
  · obtain ⟨ca, ta, ha⟩ := h.row g hg
    obtain ⟨cb, tb, hb'⟩ := h.row k hk
    have heq := run_eql_iface_ptr_other (P := Tryd.prog) w Tryd.underlying27 Tryd.underlying154 hi hcmp hj (by rw [hjs]; decide) (fun e => hgk (h.inj g k hg hk e)) ha hb'
    rw [show decide (g = k) = false by simp [hgk]]
    clear h hb ha hb'
    unfold errV faultV at *
    go_enter Tryd.func45, Tryd.ntmps45
    go_wp2
    refine wp_loop_rounds 2 ?_
    rw [rounds_succ]
    go_wp2
    rw [rounds_succ]
    go_wp2
    go_ret
    exact ⟨rfl, rfl⟩
end Go.Proofs.YtdkonfdhedcajaaDoor
