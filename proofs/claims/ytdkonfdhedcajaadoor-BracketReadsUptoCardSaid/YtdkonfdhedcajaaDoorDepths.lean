/- tree.Groups, tree.Depth: folds over a tree. -/
import Derived.Test.YtdkonfdhedcajaaDoorProg
import Derived.Test.YtdkonfdhedcajaaDoorMem
import Derived.Outline
set_option linter.unusedSimpArgs false
set_option linter.unusedVariables false
namespace Go.Proofs.YtdkonfdhedcajaaDoor
open Go.RowKit

/-- Go's max and min. -/
def mx2 (x y : Int) : Int := if x < y then y else x
def mn2 (x y : Int) : Int := if y < x then y else x
end Go.Proofs.YtdkonfdhedcajaaDoor
