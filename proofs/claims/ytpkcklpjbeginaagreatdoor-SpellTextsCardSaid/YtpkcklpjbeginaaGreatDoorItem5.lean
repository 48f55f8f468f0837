/- bracket.item. (Printed by gen_item5.py.) -/
import Derived.Test.YtpkcklpjbeginaaGreatDoorBrack2
import Derived.Test.YtpkcklpjbeginaaGreatDoorInts
set_option linter.unusedSimpArgs false
set_option linter.unusedVariables false
namespace Go.Proofs.YtpkcklpjbeginaaGreatDoor
open Go.RowKit

/-- What an item of a bracket expression answers. -/
def itemP (p : ByteArray) (i : Nat) (pl : Int) : R5 :=
 if pb p i = 91 ∧ (pb p (i + 1) = 46 ∨ pb p (i + 1) = 61) then .bad 6 (i : Int)
 else if pb p i = 91 ∧ pb p (i + 1) = 58 then namedP p i pl
 else if pb p (i + 1) = 45 ∧ i + 2 < p.size ∧ pb p (i + 2) ≠ 93 then
  if pb p (i + 2) = 91 ∧ (pb p (i + 3) = 46 ∨ pb p (i + 3) = 61) then .bad 6 ((i + 2 : Nat) : Int)
  else if (pb p (i + 2) = 91 ∧ pb p (i + 3) = 58) ∨ pb p (i + 2) < pb p i then .bad 4 (i : Int)
  else .good (fun x => decide (pb p i ≤ x ∧ x ≤ pb p (i + 2))) (i + 3)
 else .good (fun x => decide (x = pb p i)) (i + 1)
end Go.Proofs.YtpkcklpjbeginaaGreatDoor
