/- A list of nodes that a call builds by append. -/
import Derived.Test.YtccoojiojdlcpaaDoorProg
import Derived.Test.YtccoojiojdlcpaaDoorMem
import Derived.Maps.AppendAt
namespace Go.Proofs.YtccoojiojdlcpaaDoor
open Go.RowKit

/-- A node without anything. -/
def zeroCells : Array Value := #[.int .i64 0, .int .u64 0, .int .u64 0, .int .u64 0, .int .u64 0, .slice none 0 0, .int .i64 0, .int .i64 0, .int .i64 0, .bool false]
section
variable {w : World} {ops : Array Oper} {rest : List Oper} {o : Oper} {a : Act} {Q : Exit → Act → World → Prop}

end
end Go.Proofs.YtccoojiojdlcpaaDoor
