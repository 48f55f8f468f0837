/- trawlref01: sets, byte by byte. (Printed by gen_refsets.py.) -/
import Derived.Test.YtpkcklpjbeginaaGreatDoorOctFns
import Derived.Great.Walk
set_option linter.unusedSimpArgs false
set_option linter.unusedVariables false
namespace Go.Proofs.YtpkcklpjbeginaaGreatDoor
open Go.RowKit

theorem wrapI {n : Int} (h1 : -9223372036854775808 ≤ n) (h2 : n ≤ 9223372036854775807) : IntKind.i64.wrap n = n := by
 simp [IntKind.wrap, IntKind.bits, IntKind.signed]
 omega
section
variable {w : World} {ops : Array Oper} {rest : List Oper} {o : Oper} {a : Act} {Q : Exit → Act → World → Prop}
end

end Go.Proofs.YtpkcklpjbeginaaGreatDoor
