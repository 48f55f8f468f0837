/- Named classes of bytes; trawlref02. (Printed by gen_classes.py.) -/
import Derived.Test.YtfehmfifjidjjaaDoorRefSets2
set_option linter.unusedSimpArgs false
set_option linter.unusedVariables false
namespace Go.Proofs.YtfehmfifjidjjaaDoor
open Go.RowKit

def bt5 (lo hi b : Nat) : Bool := decide (lo ≤ b ∧ b ≤ hi)
def up5 (b : Nat) : Bool := bt5 65 90 b
def low5 (b : Nat) : Bool := bt5 97 122 b
def dig5 (b : Nat) : Bool := bt5 48 57 b
/-- The class of a name. -/
def cls5 (s : List UInt8) : Option (Nat → Bool) :=
  if s = [97, 108, 110, 117, 109] then some (fun b => up5 b || low5 b || dig5 b)
  else if s = [97, 108, 112, 104, 97] then some (fun b => up5 b || low5 b)
  else if s = [108, 111, 119, 101, 114] then some (fun b => low5 b)
  else if s = [117, 112, 112, 101, 114] then some (fun b => up5 b)
  else if s = [120, 100, 105, 103, 105, 116] then some (fun b => dig5 b || bt5 65 70 b || bt5 97 102 b)
  else if s = [100, 105, 103, 105, 116] then some (fun b => dig5 b)
  else if s = [115, 112, 97, 99, 101] then some (fun b => bt5 9 13 b || decide (b = 32))
  else if s = [98, 108, 97, 110, 107] then some (fun b => decide (b = 9) || decide (b = 32))
  else if s = [99, 110, 116, 114, 108] then some (fun b => bt5 0 31 b || decide (b = 127))
  else if s = [112, 114, 105, 110, 116] then some (fun b => bt5 32 126 b)
  else if s = [103, 114, 97, 112, 104] then some (fun b => bt5 33 126 b)
  else if s = [112, 117, 110, 99, 116] then some (fun b => bt5 33 126 b && !up5 b && !low5 b && !dig5 b)
  else none
def memb5 (s : ByteArray) (b : Nat) : Bool := match cls5 s.toList with | some f => f b | none => false
end Go.Proofs.YtfehmfifjidjjaaDoor
