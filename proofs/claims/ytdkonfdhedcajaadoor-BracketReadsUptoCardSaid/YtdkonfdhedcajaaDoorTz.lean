/- math/bits.TrailingZeros64: the lowest place of a word; the library's table lies as laid. -/
import Derived.Test.YtdkonfdhedcajaaDoorProg
import Derived.Test.YtdkonfdhedcajaaDoorSent
import Derived.Test.YtdkonfdhedcajaaDoorWords
set_option linter.unusedSimpArgs false
set_option linter.unusedVariables false
namespace Go.Proofs.YtdkonfdhedcajaaDoor
open Go.RowKit

end Go.Proofs.YtdkonfdhedcajaaDoor
