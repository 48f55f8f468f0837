/- trawlref05.Read. (Printed by gen_refread5.py.) -/
import Derived.Test.YtdkonfdhedcajaaDoorRefItem5
import Derived.Test.YtdkonfdhedcajaaDoorRead5
set_option linter.unusedSimpArgs false
set_option linter.unusedVariables false
namespace Go.Proofs.YtdkonfdhedcajaaDoor
open Go.RowKit
end Go.Proofs.YtdkonfdhedcajaaDoor
