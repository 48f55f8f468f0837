/- bracket.Read. (Printed by gen_read5.py.) -/
import Derived.Test.YtpkcklpjbeginaaGreatDoorItem5
import Derived.Test.YtpkcklpjbeginaaGreatDoorNamed5
set_option linter.unusedSimpArgs false
set_option linter.unusedVariables false
namespace Go.Proofs.YtpkcklpjbeginaaGreatDoor
open Go.RowKit

/-- The items from a place on. -/
def loopP (p : ByteArray) (z f : Nat) : Nat → Nat → (Nat → Bool) → R5
 | 0, _, _ => .bad 0 (z : Int)
 | n + 1, i, S =>
  if p.size ≤ i then .bad 0 (z : Int)
  else if pb p i = 93 ∧ f < i then .good S i
  else match itemP p i (z : Int) with
   | .bad g y => .bad g y
   | .good T j => loopP p z f n j (fun x => S x || T x)
/-- What becomes of the set behind the items. -/
def finP (tb ic nl : Bool) (S : Nat → Bool) : Nat → Bool :=
 if tb then (if nl then (fun x => (!(if ic then fold5 S else S) x) && !decide (x = 10)) else (fun x => !(if ic then fold5 S else S) x)) else (if ic then fold5 S else S)
def outP (tb ic nl : Bool) : R5 → R5
 | .bad g y => .bad g y
 | .good S i => .good (finP tb ic nl S) (i + 1)
def readP (p : ByteArray) (z : Nat) (ic nl : Bool) : R5 :=
 outP (decide (pb p (z + 1) = 94)) ic nl (loopP p z (if pb p (z + 1) = 94 then z + 2 else z + 1) (p.size + 1) (if pb p (z + 1) = 94 then z + 2 else z + 1) (fun _ => false))
theorem namedP_next {p : ByteArray} {i : Nat} {pl : Int} {S : Nat → Bool} {n : Nat} (h : namedP p i pl = .good S n) : i < n ∧ n ≤ p.size := by
 unfold namedP at h
 split at h
 ·cases h
 ·split at h
  ·injection h with _ h2
   have := clo_in (p := p) (k := i + 2) (by omega)
   omega
  ·cases h
theorem itemP_next {p : ByteArray} {i : Nat} {pl : Int} (hi : i < p.size) {S : Nat → Bool} {n : Nat} (h : itemP p i pl = .good S n) : i < n ∧ n ≤ p.size := by
 unfold itemP at h
 split at h
 ·cases h
 ·split at h
  ·exact namedP_next h
  ·split at h
   ·rename_i h3
    split at h
    ·cases h
    ·split at h
     ·cases h
     ·injection h with _ h2
      omega
   ·injection h with _ h2
    omega
end Go.Proofs.YtpkcklpjbeginaaGreatDoor
