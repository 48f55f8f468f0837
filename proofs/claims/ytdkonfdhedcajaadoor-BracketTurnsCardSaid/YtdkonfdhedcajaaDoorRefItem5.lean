/- trawlref05.item. (Printed by gen_refitem5.py.) -/
import Derived.Test.YtdkonfdhedcajaaDoorItem5
set_option linter.unusedSimpArgs false
set_option linter.unusedVariables false
namespace Go.Proofs.YtdkonfdhedcajaaDoor
open Go.RowKit

end Go.Proofs.YtdkonfdhedcajaaDoor
