/- trawlref01: sets, byte by byte. (Printed by gen_refsets.py.) -/
import Derived.Test.YtdkonfdhedcajaaDoorOctFns
import Derived.Great.Walk
set_option linter.unusedSimpArgs false
set_option linter.unusedVariables false
namespace Go.Proofs.YtdkonfdhedcajaaDoor
open Go.RowKit

section
variable {w : World} {ops : Array Oper} {rest : List Oper} {o : Oper} {a : Act} {Q : Exit → Act → World → Prop}
end

end Go.Proofs.YtdkonfdhedcajaaDoor
