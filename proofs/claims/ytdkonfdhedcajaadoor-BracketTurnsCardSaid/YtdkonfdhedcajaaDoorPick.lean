/- A drawn region: two or three operations may come up next; each is walked. -/
import Derived.Test.YtdkonfdhedcajaaDoorMix
namespace Go.Proofs.YtdkonfdhedcajaaDoor

section
variable {P : Program} {ops : Array Oper} {Q : Exit → Act → World → Prop} {md : Region.Mode} {S : World → Prop} {tail : List Nat}

end
end Go.Proofs.YtdkonfdhedcajaaDoor
