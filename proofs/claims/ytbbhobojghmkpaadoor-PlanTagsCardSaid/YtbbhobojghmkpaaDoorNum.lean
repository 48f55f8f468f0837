/- trawlnum.Num: the number of an error, where the program's own sentinels lie as laid. -/
import Derived.Test.YtbbhobojghmkpaaDoorIs
import Derived.Test.YtbbhobojghmkpaaDoorMem
import Derived.Outline
import Derived.Stop.IfaceNil
set_option linter.unusedSimpArgs false
set_option linter.unusedVariables false
namespace Go.Proofs.YtbbhobojghmkpaaDoor
open Go.RowKit

/-- The error at a. -/
def errV (a : Addr) : Value := .iface 169 (.pointer (some a))

/-- The 21 sentinels lie in the first 21 variables, each its own. -/
structure Errs (w : World) (a : Nat → Addr) : Prop where
  var : ∀ g, g < 21 → w.cell? ⟨g, 0, none⟩ = some (errV (a g))
  row : ∀ g, g < 21 → ∃ ca ta, w.heap[(a g).block]? = some (.cells ca ta (0, 0))
  inj : ∀ g h, g < 21 → h < 21 → a g = a h → g = h

theorem Errs.below {w w' : World} {a : Nat → Addr} (h : Errs w a) (hb : Below w.heap.size w w') : Errs w' a :=
  ⟨fun g hg => (hb.cell (World.block_lt_of_cell? w _ (h.var g hg))).trans (h.var g hg),
   fun g hg => by
    obtain ⟨ca, ta, hr⟩ := h.row g hg
    exact ⟨ca, ta, (hb.block _ (by
      rcases Nat.lt_or_ge (a g).block w.heap.size with hlt | hge
      · exact hlt
      · rw [Array.getElem?_eq_none hge] at hr; cases hr)).trans hr⟩,
   h.inj⟩

end Go.Proofs.YtbbhobojghmkpaaDoor
