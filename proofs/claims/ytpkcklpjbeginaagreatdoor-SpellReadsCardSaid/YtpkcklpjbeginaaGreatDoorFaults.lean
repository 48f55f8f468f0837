/- api.Fault: errors.Is, errors.As, trawlnum.Num and trawlnum.Place of a fault that wraps a sentinel; errors.As of a sentinel. -/
import Derived.Test.YtpkcklpjbeginaaGreatDoorNum
set_option linter.unusedSimpArgs false
set_option linter.unusedVariables false
namespace Go.Proofs.YtpkcklpjbeginaaGreatDoor
open Go.RowKit Go.Extern.Stop Go.Stop Go.Extern

/-- The error that points to a fault. -/
def faultV (g : Nat) : Value := .iface 83 (.pointer (some ⟨g, 0, none⟩))

theorem fault_any (p : Int) (a : Addr) (w : World) :
  Calls Tryz.prog 41 #[.int .i64 p, errV a] w fun e w' => ∃ g, e = .returned (faultV g) ∧ w.heap.size ≤ g ∧ Blk w' g 87 #[.int .i64 p, errV a] ∧ Below w.heap.size w w' := by
 have hn := fun w => run_eql_iface_nil (P := Tryz.prog) (w := w) 32 (by kernel_rfl) 211 (.pointer (some a))
 unfold errV
 go_enter Tryz.func41, Tryz.ntmps41
 go_wp2_with fail
 go_ret
 exact ⟨w.heap.size, rfl, Nat.le_refl _, Blk.new _ _ _, (Below.refl _ _).alloc (Nat.le_refl _) _⟩

end Go.Proofs.YtpkcklpjbeginaaGreatDoor
