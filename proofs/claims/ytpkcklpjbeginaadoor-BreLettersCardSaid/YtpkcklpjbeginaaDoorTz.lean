/- math/bits.TrailingZeros64: the lowest place of a word; the library's table lies as laid. -/
import Derived.Test.YtpkcklpjbeginaaDoorProg
import Derived.Test.YtpkcklpjbeginaaDoorSent
import Derived.Test.YtpkcklpjbeginaaDoorWords
set_option linter.unusedSimpArgs false
set_option linter.unusedVariables false
namespace Go.Proofs.YtpkcklpjbeginaaDoor
open Go.RowKit

end Go.Proofs.YtpkcklpjbeginaaDoor
