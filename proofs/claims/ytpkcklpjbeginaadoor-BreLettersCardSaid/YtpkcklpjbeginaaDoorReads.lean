/- Read: What a reading says: a node that reads is a tree that lies in the memory that is there.
ReadView: What a reading says of a View (a subject with its flags) and of an integer.
LaidSome: What a row's list of variables gives, wherever they stand on it: a sentinel is an error; the library's table lies as laid. -/
import Derived.Test.YtpkcklpjbeginaaDoorGrow
import Derived.ChangeArms
import Derived.OpenShut
import Derived.SizedLaws
import Derived.ChangeShapes
import Derived.Test.YtpkcklpjbeginaaDoorTz
import Derived.Test.YtpkcklpjbeginaaDoorSent
import Derived.Stop.LaidErr
import Derived.Lib.LaidU8
set_option linter.unusedSimpArgs false
set_option linter.unusedVariables false
set_option linter.unnecessarySimpa false

/-! ## Read -/
namespace Go.Proofs.YtpkcklpjbeginaaDoor

theorem ten {α : Type} {l : List α} (h : l.length = 10) : ∃ a b c d e f g i j k, l = [a, b, c, d, e, f, g, i, j, k] := by
  match l, h with
  | [a, b, c, d, e, f, g, i, j, k], _ => exact ⟨a, b, c, d, e, f, g, i, j, k, rfl⟩

theorem cell?_spot {w : World} {a : Addr} {v : Value} (h : w.cell? a = some v) : a.spot = none ∧ a.block < w.heap.size := by
  refine ⟨?_, World.block_lt_of_cell? w a h⟩
  unfold World.cell? at h
  split at h
  · split at h
    · cases h
    · rename_i hs
      simpa using hs
  · cases h

section
variable {H : Type} {enc : TypeId × Value → H} {w : World} {base : Nat} {spare : Nat → Bool} {held : Bool}

end
end Go.Proofs.YtpkcklpjbeginaaDoor

/-! ## ReadView -/
namespace Go.Proofs.YtpkcklpjbeginaaDoor
open Go.ChangeShapes

theorem three {α : Type} {l : List α} (h : l.length = 3) : ∃ a b c, l = [a, b, c] := by
  match l, h with
  | [a, b, c], _ => exact ⟨a, b, c, rfl⟩

section
variable {H : Type} {enc : TypeId × Value → H} {w : World} {base : Nat} {spare : Nat → Bool} {held : Bool}

end
end Go.Proofs.YtpkcklpjbeginaaDoor

/-! ## LaidSome -/
namespace Go.Proofs.YtpkcklpjbeginaaDoor
open Go.RowKit

end Go.Proofs.YtpkcklpjbeginaaDoor
