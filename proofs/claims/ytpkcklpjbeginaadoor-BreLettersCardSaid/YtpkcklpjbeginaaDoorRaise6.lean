/- trawllaw06.raise, raised: all the groups' numbers of a tree, so many more. (Printed by gen_raise6.py.) -/
import Derived.Test.YtpkcklpjbeginaaDoorJoinP6
import Derived.Test.YtpkcklpjbeginaaDoorOnly
import Derived.Test.YtpkcklpjbeginaaDoorTurns
import Derived.Test.YtpkcklpjbeginaaDoorSames
set_option linter.unusedSimpArgs false
set_option linter.unusedVariables false
namespace Go.Proofs.YtpkcklpjbeginaaDoor
open Go.RowKit

end Go.Proofs.YtpkcklpjbeginaaDoor
