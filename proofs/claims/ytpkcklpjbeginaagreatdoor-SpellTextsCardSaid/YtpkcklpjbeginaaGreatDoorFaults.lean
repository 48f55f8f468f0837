/- api.Fault: errors.Is, errors.As, trawlnum.Num and trawlnum.Place of a fault that wraps a sentinel; errors.As of a sentinel. -/
import Derived.Test.YtpkcklpjbeginaaGreatDoorNum
set_option linter.unusedSimpArgs false
set_option linter.unusedVariables false
namespace Go.Proofs.YtpkcklpjbeginaaGreatDoor
open Go.RowKit Go.Extern.Stop Go.Stop Go.Extern

/-- The error that points to a fault. -/
def faultV (g : Nat) : Value := .iface 83 (.pointer (some ⟨g, 0, none⟩))

end Go.Proofs.YtpkcklpjbeginaaGreatDoor
