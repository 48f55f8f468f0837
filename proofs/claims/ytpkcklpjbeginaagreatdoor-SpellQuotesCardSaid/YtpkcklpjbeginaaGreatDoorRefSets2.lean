/- trawlref01: Join, Meet, Not, Range, Of one byte. (Printed by gen_refsets2.py.) -/
import Derived.Test.YtpkcklpjbeginaaGreatDoorRefSets
import Derived.Deep.DeepCutAuto
set_option linter.unusedSimpArgs false
set_option linter.unusedVariables false
namespace Go.Proofs.YtpkcklpjbeginaaGreatDoor
open Go.RowKit

end Go.Proofs.YtpkcklpjbeginaaGreatDoor
