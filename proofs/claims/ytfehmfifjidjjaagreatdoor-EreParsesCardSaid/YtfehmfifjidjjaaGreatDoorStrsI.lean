/- strings.Index: its contract off the shelf. -/
import Derived.Test.YtfehmfifjidjjaaGreatDoorProg
import Derived.Test.YtfehmfifjidjjaaGreatDoorWords
import Derived.Shelf.Small.Strs
import Derived.Shelf.Strings.Search3
set_option linter.unusedSimpArgs false
set_option linter.unusedVariables false
namespace Go.Proofs.YtfehmfifjidjjaaGreatDoor
open Go.RowKit

end Go.Proofs.YtfehmfifjidjjaaGreatDoor
