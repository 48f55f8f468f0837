/- Named5: class.Named. (Printed by gen_named5.py.)
Named5b: class.Named of any name. (Printed by gen_named5.py.) -/
import Derived.Test.YtpkcklpjbeginaaGreatDoorClasses
import Derived.Test.YtpkcklpjbeginaaGreatDoorAsFault
set_option linter.unusedSimpArgs false
set_option linter.unusedVariables false
set_option linter.unnecessarySimpa false

/-! ## Named5 -/
namespace Go.Proofs.YtpkcklpjbeginaaGreatDoor
open Go.RowKit

end Go.Proofs.YtpkcklpjbeginaaGreatDoor

/-! ## Named5b -/
namespace Go.Proofs.YtpkcklpjbeginaaGreatDoor
open Go.RowKit

end Go.Proofs.YtpkcklpjbeginaaGreatDoor
