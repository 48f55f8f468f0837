/- math/bits.TrailingZeros64: the lowest place of a word; the library's table lies as laid. -/
import Derived.Test.YtfehmfifjidjjaaDoorProg
import Derived.Test.YtfehmfifjidjjaaDoorSent
import Derived.Test.YtfehmfifjidjjaaDoorWords
set_option linter.unusedSimpArgs false
set_option linter.unusedVariables false
namespace Go.Proofs.YtfehmfifjidjjaaDoor
open Go.RowKit

end Go.Proofs.YtfehmfifjidjjaaDoor
