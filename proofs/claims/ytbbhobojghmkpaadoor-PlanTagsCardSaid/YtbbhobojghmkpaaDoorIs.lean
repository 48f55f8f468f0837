/- errors.Is by its contracts: two sentinels, alike or not; after the guide's SentryIs. -/
import Derived.Test.YtbbhobojghmkpaaDoorChecked
import Derived.Test.YtbbhobojghmkpaaDoorProg
import Derived.WalkKit
import Derived.LaidEql
import Derived.Stop.Asserts
import Derived.RowKitTokens
set_option linter.unusedSimpArgs false
set_option linter.unusedVariables false
namespace Go.Proofs.YtbbhobojghmkpaaDoor
open Go.RowKit Go.Extern.Stop Go.Stop Go.Extern

theorem Tryd.isComp : (Tryd.prog.info? 169).map (·.comparable) = some true := by kernel_rfl
theorem Tryd.isSize : (Tryd.prog.info? 183).map (·.size) = some 1 := by kernel_rfl

end Go.Proofs.YtbbhobojghmkpaaDoor
