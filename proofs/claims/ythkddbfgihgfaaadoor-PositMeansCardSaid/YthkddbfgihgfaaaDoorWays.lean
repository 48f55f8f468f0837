/- walk.open, trawlref18.Open: are ways open at marks; trawlref10.Scene.Marks. -/
import Derived.Test.YthkddbfgihgfaaaDoorPo
import Derived.Test.YthkddbfgihgfaaaDoorRef10
import Derived.Deep.DeepCutAuto
set_option linter.unusedSimpArgs false
set_option linter.unusedVariables false
namespace Go.Proofs.YthkddbfgihgfaaaDoor
open Go.RowKit

theorem way_bit : ∀ (v : Fin 16) (m : Fin 4), (bits .and .i64 ((v.val : Int) / 2 ^ m.val) 1 == 1) = v.val.testBit m.val := by decide +kernel
theorem half_bit : ∀ (v : Fin 16) (m : Fin 4), ((v.val / 2 ^ m.val) % 2 == 1) = v.val.testBit m.val := by decide +kernel
theorem mark_sum : ∀ m : Fin 4, ((if m.val.testBit 0 then 1 else 0 : Int) + if m.val.testBit 1 then 2 else 0) = (m.val : Int) := by decide +kernel
end Go.Proofs.YthkddbfgihgfaaaDoor
