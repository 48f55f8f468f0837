/- bracket: the bytes of a pattern; mark. -/
import Derived.Test.YtpkcklpjbeginaaGreatDoorStrs
import Derived.Test.YtpkcklpjbeginaaGreatDoorClasses
set_option linter.unusedSimpArgs false
set_option linter.unusedVariables false
namespace Go.Proofs.YtpkcklpjbeginaaGreatDoor
open Go.RowKit

/-- The byte at a place; 256 where there is none. -/
def pb (p : ByteArray) (i : Nat) : Nat := if h : i < p.size then (p[i]'h).toNat else 256
theorem pb_at {p : ByteArray} {i : Nat} (h : i < p.size) : pb p i = (p[i]'h).toNat := by unfold pb; rw [dif_pos h]
theorem pb_none {p : ByteArray} {i : Nat} (h : ¬ i < p.size) : pb p i = 256 := by unfold pb; rw [dif_neg h]
theorem pb_in {p : ByteArray} {i : Nat} (h : pb p i < 256) : i < p.size := by
 by_cases e : i < p.size
 ·exact e
 ·rw [pb_none e] at h; omega
end Go.Proofs.YtpkcklpjbeginaaGreatDoor
