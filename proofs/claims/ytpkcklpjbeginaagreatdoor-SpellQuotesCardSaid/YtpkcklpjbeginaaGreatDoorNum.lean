/- trawlnum.Num: the number of an error, where the program's own sentinels lie as laid. -/
import Derived.Test.YtpkcklpjbeginaaGreatDoorIs
import Derived.Test.YtpkcklpjbeginaaGreatDoorMem
import Derived.Outline
import Derived.Stop.IfaceNil
set_option linter.unusedSimpArgs false
set_option linter.unusedVariables false
namespace Go.Proofs.YtpkcklpjbeginaaGreatDoor
open Go.RowKit

/-- The error at a. -/
def errV (a : Addr) : Value := .iface 211 (.pointer (some a))

/-- The 21 sentinels lie in the first 21 variables, each its own. -/
structure Errs (w : World) (a : Nat → Addr) : Prop where
  var : ∀ g, g < 21 → w.cell? ⟨g, 0, none⟩ = some (errV (a g))
  row : ∀ g, g < 21 → ∃ ca ta, w.heap[(a g).block]? = some (.cells ca ta (0, 0))
  inj : ∀ g h, g < 21 → h < 21 → a g = a h → g = h

theorem Errs.below {w w' : World} {a : Nat → Addr} (h : Errs w a) (hb : Below w.heap.size w w') : Errs w' a :=
  ⟨fun g hg => (hb.cell (World.block_lt_of_cell? w _ (h.var g hg))).trans (h.var g hg),
   fun g hg => by
    obtain ⟨ca, ta, hr⟩ := h.row g hg
    exact ⟨ca, ta, (hb.block _ (by
      rcases Nat.lt_or_ge (a g).block w.heap.size with hlt | hge
      · exact hlt
      · rw [Array.getElem?_eq_none hge] at hr; cases hr)).trans hr⟩,
   h.inj⟩

/-- The variable of the sentinel with this place in the document's table. -/
def sentVar : Nat → Nat
  | 0 => 3
  | 1 => 4
  | 2 => 5
  | 3 => 6
  | 4 => 7
  | 5 => 8
  | 6 => 9
  | 7 => 10
  | 8 => 11
  | 9 => 12
  | 10 => 1
  | 11 => 2
  | 12 => 0
  | 13 => 13
  | 14 => 14
  | 15 => 15
  | 16 => 16
  | 17 => 17
  | 18 => 18
  | 19 => 19
  | 20 => 20
  | n + 21 => n + 21
theorem sv_lt {g : Nat} (h : g < 21) : sentVar g < 21 := (show ∀ g : Fin 21, sentVar g.val < 21 by decide) ⟨g, h⟩
theorem sv_inj {g k : Nat} (h : g < 21) (hk : k < 21) (e : sentVar g = sentVar k) : g = k := (show ∀ g k : Fin 21, sentVar g.val = sentVar k.val → g.val = k.val by decide) ⟨g, h⟩ ⟨k, hk⟩ e
theorem sv_dec {g k : Nat} (h : g < 21) (hk : k < 21) : decide (sentVar g = sentVar k) = decide (g = k) := by
  by_cases e : g = k
  · subst e; simp
  · rw [decide_eq_false e, decide_eq_false (fun h2 => e (sv_inj h hk h2))]
theorem sv_onto {v : Nat} (h : v < 21) : ∃ g, g < 21 ∧ sentVar g = v := by
  obtain ⟨g, hg⟩ := (show ∀ v : Fin 21, ∃ g : Fin 21, sentVar g.val = v.val by decide) ⟨v, h⟩
  exact ⟨g.val, g.isLt, hg⟩
def errRow (a : Nat → Addr) : Array Value := ((List.range 21).map fun g => errV (a (sentVar g))).toArray

end Go.Proofs.YtpkcklpjbeginaaGreatDoor
