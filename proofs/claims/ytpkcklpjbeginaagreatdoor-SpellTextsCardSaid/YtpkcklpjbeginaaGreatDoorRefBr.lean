/- RefBr: trawlref05: is, dotted, colon.
RefBr2: trawlref05: closing. -/
import Derived.Test.YtpkcklpjbeginaaGreatDoorBrack
set_option linter.unusedSimpArgs false
set_option linter.unusedVariables false
set_option linter.unnecessarySimpa false

/-! ## RefBr -/
namespace Go.Proofs.YtpkcklpjbeginaaGreatDoor
open Go.RowKit

end Go.Proofs.YtpkcklpjbeginaaGreatDoor

/-! ## RefBr2 -/
namespace Go.Proofs.YtpkcklpjbeginaaGreatDoor
open Go.RowKit

/-- The place of the next pair of bytes that closes a name; -1: there is none. -/
def clo (p : ByteArray) (k : Nat) : Int := if Lib.index (p.data.toList.drop k) [58, 93] = -1 then -1 else k + Lib.index (p.data.toList.drop k) [58, 93]
theorem drop_pb {p : ByteArray} {i : Nat} (h : i < p.size) : p.data.toList.drop i = (p[i]'h) :: p.data.toList.drop (i + 1) := by
 have hl : i < p.data.toList.length := by simpa using h
 rw [List.drop_eq_getElem_cons hl]
 simp
 rfl
theorem clo_here {p : ByteArray} {i : Nat} (h1 : pb p i = 58) (h2 : pb p (i + 1) = 93) : clo p i = i := by
 have hi : i < p.size := pb_in (by omega)
 have hj : i + 1 < p.size := pb_in (by omega)
 rw [pb_at hi] at h1
 rw [pb_at hj] at h2
 unfold clo
 rw [drop_pb hi, drop_pb hj, show (p[i]'hi) = 58 from UInt8.toNat_inj.1 h1, show (p[i + 1]'hj) = 93 from UInt8.toNat_inj.1 h2]
 simp [Lib.index, List.isPrefixOf]
theorem clo_next {p : ByteArray} {i : Nat} (hi : i < p.size) (h : ¬ (pb p i = 58 ∧ pb p (i + 1) = 93)) : clo p i = clo p (i + 1) := by
 unfold clo
 rw [drop_pb hi]
 have hp : ([58, 93] : List UInt8).isPrefixOf ((p[i]'hi) :: p.data.toList.drop (i + 1)) = false := by
  by_cases hj : i + 1 < p.size
  ·rw [drop_pb hj]
   simp only [List.isPrefixOf, Bool.and_true]
   rw [pb_at hi, pb_at hj] at h
   by_cases e1 : (p[i]'hi) = 58
   ·by_cases e2 : (p[i + 1]'hj) = 93
    ·exact absurd ⟨by rw [e1]; rfl, by rw [e2]; rfl⟩ h
    ·rw [show ((93 : UInt8) == (p[i + 1]'hj)) = false from beq_false_of_ne (fun e => e2 e.symm), Bool.and_false]
   ·rw [show ((58 : UInt8) == (p[i]'hi)) = false from beq_false_of_ne (fun e => e1 e.symm), Bool.false_and]
  ·rw [List.drop_eq_nil_of_le (by simp; omega)]
   simp [List.isPrefixOf]
 have hu : Lib.index ((p[i]'hi) :: p.data.toList.drop (i + 1)) [58, 93] = if Lib.index (p.data.toList.drop (i + 1)) [58, 93] == -1 then -1 else Lib.index (p.data.toList.drop (i + 1)) [58, 93] + 1 := by
  rw [Lib.index, hp]
  rfl
 rw [hu]
 have hg := Lib.index_ge (p.data.toList.drop (i + 1)) [58, 93]
 generalize Lib.index (p.data.toList.drop (i + 1)) [58, 93] = n at *
 by_cases e : n = -1
 ·subst e; simp
 ·rw [show (n == -1) = false from beq_false_of_ne e]
  simp only [Bool.false_eq_true, if_false]
  rw [if_neg (by omega), if_neg e]
  omega
theorem clo_in {p : ByteArray} {k : Nat} (h : 0 ≤ clo p k) : (k : Int) ≤ clo p k ∧ clo p k + 2 ≤ p.size := by
 unfold clo at h ⊢
 by_cases e : Lib.index (p.data.toList.drop k) [58, 93] = -1
 ·rw [if_pos e] at h; omega
 ·rw [if_neg e] at h ⊢
  have hg := Lib.index_ge (p.data.toList.drop k) [58, 93]
  have hr := Lib.index_room (p.data.toList.drop k) [58, 93] (by omega)
  simp at hr
  have : p.data.size = p.size := rfl
  omega
end Go.Proofs.YtpkcklpjbeginaaGreatDoor
