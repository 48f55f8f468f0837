/- What reading yields at a backslash, in plain Lean. -/
import Derived.Test.YtpkcklpjbeginaaDoorEreP
set_option linter.unusedSimpArgs false
set_option linter.unusedVariables false
namespace Go.Proofs.YtpkcklpjbeginaaDoor
open Go.RowKit

end Go.Proofs.YtpkcklpjbeginaaDoor
