/- api.Fault: errors.Is, errors.As, trawlnum.Num and trawlnum.Place of a fault that wraps a sentinel; errors.As of a sentinel. -/
import Derived.Test.YtpkcklpjbeginaaDoorNum
set_option linter.unusedSimpArgs false
set_option linter.unusedVariables false
namespace Go.Proofs.YtpkcklpjbeginaaDoor
open Go.RowKit Go.Extern.Stop Go.Stop Go.Extern

/-- The error that points to a fault. -/
def faultV (g : Nat) : Value := .iface 56 (.pointer (some ⟨g, 0, none⟩))

theorem Tryd.noIsF (v : Value) (xT : TypeId) (w : World) : (Instr.typeAssert (.iface 56 v) xT 90 true).run Tryd.prog w = .ok (.tuple #[.nilIface, .bool false]) w := run_typeAssert_lacksB Tryd.underlying90 (by kernel_rfl) (by kernel_rfl) v xT w
theorem Tryd.unwrapF (v : Value) (xT : TypeId) (w : World) : (Instr.typeAssert (.iface 56 v) xT 93 true).run Tryd.prog w = .ok (.tuple #[.iface 56 v, .bool true]) w := run_typeAssert_hasB Tryd.underlying93 (by kernel_rfl) v xT w
theorem Tryd.methodUnwrapF (v : Value) (w : World) : (Go.method 266 56 v "Unwrap").run Tryd.prog w = .ok (102, v) w := by kernel_rfl

theorem fault_any (p : Int) (a : Addr) (w : World) :
    Calls Tryd.prog 13 #[.int .i64 p, errV a] w fun e w' => ∃ g, e = .returned (faultV g) ∧ w.heap.size ≤ g ∧ Blk w' g 60 #[.int .i64 p, errV a] ∧ Below w.heap.size w w' := by
  have hn := fun w => run_eql_iface_nil (P := Tryd.prog) (w := w) 30 (by kernel_rfl) 133 (.pointer (some a))
  unfold errV
  go_enter Tryd.func13, Tryd.ntmps13
  go_wp2_with fail
  go_ret
  exact ⟨w.heap.size, rfl, Nat.le_refl _, Blk.new _ _ _, (Below.refl _ _).alloc (Nat.le_refl _) _⟩

set_option maxRecDepth 100000 in
set_option maxHeartbeats 2000000 in
/-- errors.Is(a fault that wraps a sentinel, a sentinel). -/
theorem is_fault {w : World} {a : Nat → Addr} (h : Errs w a) (p : Int) (gf g k : Nat) (hg : g < 21) (hk : k < 21) (hb : Blk w gf 60 #[.int .i64 p, errV (a g)]) :
    Calls Tryd.prog 18 #[faultV gf, errV (a k)] w fun e w' => e = .returned (.bool (decide (g = k))) ∧ w' = w := by
  obtain ⟨i, hi, hcmp⟩ := Option.map_eq_some_iff.1 Tryd.isComp
  obtain ⟨j, hj, hjs⟩ := Option.map_eq_some_iff.1 Tryd.isSize
  have h8 := @run_callFunc_extern Tryd.prog 27 _ Extern.ReflectliteType.typeOf Tryd.func27 (by kernel_rfl) (by kernel_rfl) (by kernel_rfl) (by kernel_rfl)
  have tT := Tryd.isTypeOf
  have cT := Tryd.isComparable
  have mR := Tryd.isMethodComparable
  have nE := Tryd.noIsE
  have uE := Tryd.noUnwrapE
  have vE := Tryd.noUnwrapsE
  have nF := Tryd.noIsF
  have uF := Tryd.unwrapF
  have mF := Tryd.methodUnwrapF
  have hn := fun w => run_eql_iface_nil (P := Tryd.prog) (w := w) 30 (by kernel_rfl) 133 (.pointer (some (a g)))
  have hnF := fun w => run_eql_iface_nil (P := Tryd.prog) (w := w) 30 (by kernel_rfl) 56 (.pointer (some ⟨gf, 0, none⟩))
  have hqF := fun w => run_eql_iface_types (P := Tryd.prog) 56 133 (.pointer (some ⟨gf, 0, none⟩)) (.pointer (some (a k))) Tryd.underlying30 (by decide) w
  have hc := hb.cell
  by_cases hgk : g = k
  · subst hgk
    have heq := run_eql_iface_ptr_same (P := Tryd.prog) w (a g) Tryd.underlying30 Tryd.underlying133 hi hcmp hj
    rw [show decide (g = g) = true by simp]
    clear h hb
    unfold errV faultV at *
    go_enter Tryd.func18, Tryd.ntmps18
    go_wp2
    refine wp_loop_rounds 2 ?_
    rw [rounds_succ]
    go_wp2
    rw [rounds_succ]
    go_wp2
    go_ret
    exact ⟨rfl, rfl⟩
  · obtain ⟨ca, ta, ha⟩ := h.row g hg
    obtain ⟨cb, tb, hb'⟩ := h.row k hk
    have heq := run_eql_iface_ptr_other (P := Tryd.prog) w Tryd.underlying30 Tryd.underlying133 hi hcmp hj (by rw [hjs]; decide) (fun e => hgk (h.inj g k hg hk e)) ha hb'
    rw [show decide (g = k) = false by simp [hgk]]
    clear h hb ha hb'
    unfold errV faultV at *
    go_enter Tryd.func18, Tryd.ntmps18
    go_wp2
    refine wp_loop_rounds 2 ?_
    rw [rounds_succ]
    go_wp2
    rw [rounds_succ]
    go_wp2
    go_ret
    exact ⟨rfl, rfl⟩
end Go.Proofs.YtpkcklpjbeginaaDoor
