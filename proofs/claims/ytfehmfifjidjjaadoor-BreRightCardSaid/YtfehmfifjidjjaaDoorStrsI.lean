/- strings.Index: its contract off the shelf. -/
import Derived.Test.YtfehmfifjidjjaaDoorProg
import Derived.Test.YtfehmfifjidjjaaDoorWords
import Derived.Shelf.Small.Strs
import Derived.Shelf.Strings.Search3
set_option linter.unusedSimpArgs false
set_option linter.unusedVariables false
namespace Go.Proofs.YtfehmfifjidjjaaDoor
open Go.RowKit

end Go.Proofs.YtfehmfifjidjjaaDoor
