/- Some of the program's sentinels lie in their variables. -/
import Derived.Test.YtpkcklpjbeginaaGreatDoorNum
set_option linter.unusedSimpArgs false
set_option linter.unusedVariables false
namespace Go.Proofs.YtpkcklpjbeginaaGreatDoor
open Go.RowKit

/-- The variables S hold errors. -/
def Sent (S : List Nat) (w : World) (a : Nat → Addr) : Prop := ∀ g ∈ S, w.cell? ⟨g, 0, none⟩ = some (errV (a g))

theorem Sent.below {S : List Nat} {w w' : World} {a : Nat → Addr} (h : Sent S w a) (hb : Below w.heap.size w w') : Sent S w' a := fun g hg => (hb.cell (World.block_lt_of_cell? w _ (h g hg))).trans (h g hg)
theorem Sent.mono {S S' : List Nat} {w : World} {a : Nat → Addr} (h : Sent S w a) (hs : ∀ g ∈ S', g ∈ S) : Sent S' w a := fun g hg => h g (hs g hg)
theorem Errs.sent {w : World} {a : Nat → Addr} (h : Errs w a) (S : List Nat) (hS : ∀ g ∈ S, g < 21) : Sent S w a := fun g hg => h.var g (hS g hg)
end Go.Proofs.YtpkcklpjbeginaaGreatDoor
