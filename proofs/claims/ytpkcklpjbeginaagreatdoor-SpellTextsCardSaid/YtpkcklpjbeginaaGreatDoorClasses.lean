/- Classes: Named classes of bytes; trawlref02. (Printed by gen_classes.py.)
Classes2: trawlref02.Named, Other, Fold. (Printed by gen_classes2.py.)
Classes3: class.Other, Fold; octet.Has, Of, Join, Meet at a call. (Printed by gen_classes3.py.) -/
import Derived.Test.YtpkcklpjbeginaaGreatDoorRefSets2
set_option linter.unusedSimpArgs false
set_option linter.unusedVariables false
set_option linter.unnecessarySimpa false

/-! ## Classes -/
namespace Go.Proofs.YtpkcklpjbeginaaGreatDoor
open Go.RowKit

def bt5 (lo hi b : Nat) : Bool := decide (lo ≤ b ∧ b ≤ hi)
def up5 (b : Nat) : Bool := bt5 65 90 b
def low5 (b : Nat) : Bool := bt5 97 122 b
def dig5 (b : Nat) : Bool := bt5 48 57 b
/-- The class of a name. -/
def cls5 (s : List UInt8) : Option (Nat → Bool) :=
 if s = [97, 108, 110, 117, 109] then some (fun b => up5 b || low5 b || dig5 b)
 else if s = [97, 108, 112, 104, 97] then some (fun b => up5 b || low5 b)
 else if s = [108, 111, 119, 101, 114] then some (fun b => low5 b)
 else if s = [117, 112, 112, 101, 114] then some (fun b => up5 b)
 else if s = [120, 100, 105, 103, 105, 116] then some (fun b => dig5 b || bt5 65 70 b || bt5 97 102 b)
 else if s = [100, 105, 103, 105, 116] then some (fun b => dig5 b)
 else if s = [115, 112, 97, 99, 101] then some (fun b => bt5 9 13 b || decide (b = 32))
 else if s = [98, 108, 97, 110, 107] then some (fun b => decide (b = 9) || decide (b = 32))
 else if s = [99, 110, 116, 114, 108] then some (fun b => bt5 0 31 b || decide (b = 127))
 else if s = [112, 114, 105, 110, 116] then some (fun b => bt5 32 126 b)
 else if s = [103, 114, 97, 112, 104] then some (fun b => bt5 33 126 b)
 else if s = [112, 117, 110, 99, 116] then some (fun b => bt5 33 126 b && !up5 b && !low5 b && !dig5 b)
 else none
def memb5 (s : ByteArray) (b : Nat) : Bool := match cls5 s.toList with | some f => f b | none => false
end Go.Proofs.YtpkcklpjbeginaaGreatDoor

/-! ## Classes2 -/
namespace Go.Proofs.YtpkcklpjbeginaaGreatDoor
open Go.RowKit

/-- The other case of a letter. -/
def oth5 (b : Nat) : Nat := if up5 b then b + 32 else if low5 b then b - 32 else b
/-- With the other case of each letter. -/
def fold5 (S : Nat → Bool) : Nat → Bool := fun x => S x || S (oth5 x)
end Go.Proofs.YtpkcklpjbeginaaGreatDoor

/-! ## Classes3 -/
namespace Go.Proofs.YtpkcklpjbeginaaGreatDoor
open Go.RowKit

theorem has_set (S : Nat → Bool) (b : Nat) (hb : b < 256) : Hd.has ⟨0, ((wd S 0 : Nat) : Int), ((wd S 1 : Nat) : Int), ((wd S 2 : Nat) : Int), ((wd S 3 : Nat) : Int), 0, 0, 0, false⟩ b = S b := by
 have h := wd_bit S (b / 64) (b % 64) (Nat.mod_lt _ (by decide))
 rw [show 64 * (b / 64) + b % 64 = b by omega] at h
 rw [← h]
 unfold Hd.has Hd.word
 have : b / 64 = 0 ∨ b / 64 = 1 ∨ b / 64 = 2 ∨ b / 64 = 3 := by omega
 rcases this with e | e | e | e <;> rw [e] <;> simp
theorem wd_u64 (S : Nat → Bool) (k : Nat) : IsU64 ((wd S k : Nat) : Int) := by
 have := wd_lt S k
 unfold IsU64
 omega
theorem has5_any (S : Nat → Bool) (b : Nat) (hb : b < 256) (w : World) : Calls Tryz.prog 122 #[setV S, .int .u8 (b : Int)] w fun e w' => e = .returned (.bool (S b)) ∧ Below w.heap.size w w' := by
 rw [← has_set S b hb]
 exact has_any _ _ _ _ b hb w (wd_u64 S 0) (wd_u64 S 1) (wd_u64 S 2) (wd_u64 S 3)
end Go.Proofs.YtpkcklpjbeginaaGreatDoor
