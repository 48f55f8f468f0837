/- math/bits.TrailingZeros64: the lowest place of a word; the library's table lies as laid. -/
import Derived.Test.YtpkcklpjbeginaaGreatDoorProg
import Derived.Test.YtpkcklpjbeginaaGreatDoorSent
import Derived.Test.YtpkcklpjbeginaaGreatDoorWords
set_option linter.unusedSimpArgs false
set_option linter.unusedVariables false
namespace Go.Proofs.YtpkcklpjbeginaaGreatDoor
open Go.RowKit

/-- The table of the library lies in its variable. -/
def Tab (w : World) : Prop := ∀ j, j < 64 → w.cell? ⟨23, j, none⟩ = some (.int .u8 (Lib.deBruijn64tab.getD j 0))

theorem Tab.below {w w' : World} (h : Tab w) (hb : Below w.heap.size w w') : Tab w' := fun j hj => (hb.cell (World.block_lt_of_cell? w _ (h j hj))).trans (h j hj)

/-- The sentinels that the engine of this chapter answers. -/
def five : List Nat := [12, 2, 0, 13, 14]
/-- What its laws ask of the program's variables. -/
structure Env (w : World) (a : Nat → Addr) : Prop where
 sent : Sent five w a
 tab : Tab w

theorem Env.below {w w' : World} {a : Nat → Addr} (h : Env w a) (hb : Below w.heap.size w w') : Env w' a := ⟨h.sent.below hb, h.tab.below hb⟩

end Go.Proofs.YtpkcklpjbeginaaGreatDoor
