/- A drawn region: two or three operations may come up next; each is walked. -/
import Derived.Test.YtpkcklpjbeginaaGreatDoorMix
namespace Go.Proofs.YtpkcklpjbeginaaGreatDoor

section
variable {P : Program} {ops : Array Oper} {Q : Exit → Act → World → Prop} {md : Region.Mode} {S : World → Prop} {tail : List Nat}

end
end Go.Proofs.YtpkcklpjbeginaaGreatDoor
