/- errors.As at a target of type **api.Fault: of a sentinel (no), of a fault (that fault); after the guide's ToyasAs. -/
import Derived.Test.YtpkcklpjbeginaaGreatDoorFaults
set_option linter.unusedSimpArgs false
set_option linter.unusedVariables false
namespace Go.Proofs.YtpkcklpjbeginaaGreatDoor
open Go.RowKit Go.Extern.Stop Go.Stop Go.Extern

/-! ### THE ENTRIES THAT READ OR WRITE MEMORY: laws with a premise on the cell (after Derived/Lib/ReflectliteSlice.lean's manner: each unfolding a lemma of its own, by rfl) -/
/-- The variable errors.errorType lies as laid. -/
def ErrT (w : World) : Prop := w.cell? ⟨21, 0, none⟩ = some (.iface 135 (.agg #[.pointer (some ⟨26, 32, none⟩)]))
theorem ErrT.below {w w' : World} (h : ErrT w) (hb : Below w.heap.size w w') : ErrT w' := (hb.cell (World.block_lt_of_cell? w _ h)).trans h

end Go.Proofs.YtpkcklpjbeginaaGreatDoor
