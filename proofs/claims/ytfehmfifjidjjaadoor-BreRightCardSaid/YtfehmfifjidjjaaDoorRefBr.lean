/- trawlref05: is, dotted, colon. -/
import Derived.Test.YtfehmfifjidjjaaDoorBrack
set_option linter.unusedSimpArgs false
set_option linter.unusedVariables false
namespace Go.Proofs.YtfehmfifjidjjaaDoor
open Go.RowKit

end Go.Proofs.YtfehmfifjidjjaaDoor
