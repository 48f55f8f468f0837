/- trawlref05: is, dotted, colon. -/
import Derived.Test.YtdkonfdhedcajaaDoorBrack
set_option linter.unusedSimpArgs false
set_option linter.unusedVariables false
namespace Go.Proofs.YtdkonfdhedcajaaDoor
open Go.RowKit

end Go.Proofs.YtdkonfdhedcajaaDoor
