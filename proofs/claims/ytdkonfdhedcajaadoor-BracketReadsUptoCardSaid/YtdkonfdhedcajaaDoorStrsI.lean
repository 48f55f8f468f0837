/- strings.Index: its contract off the shelf. -/
import Derived.Test.YtdkonfdhedcajaaDoorProg
import Derived.Test.YtdkonfdhedcajaaDoorWords
import Derived.Shelf.Small.Strs
import Derived.Shelf.Strings.Search3
set_option linter.unusedSimpArgs false
set_option linter.unusedVariables false
namespace Go.Proofs.YtdkonfdhedcajaaDoor
open Go.RowKit

end Go.Proofs.YtdkonfdhedcajaaDoor
