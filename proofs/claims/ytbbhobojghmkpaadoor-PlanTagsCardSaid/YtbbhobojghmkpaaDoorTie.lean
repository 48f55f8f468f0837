/-
  DERIVED. GIVEN WITH THE SEED: THE PROGRAM's TIES (one call each: nine closed facts by the kernel) AND EACH ROW's TIE, after the 31st guide's Derived/Test/Toyas{Tie, Card}.lean. No idea stands in it: it is a product of the set-up. Laid BY PROGRAM, IN A SANDBOX (cutbox-door.mjs). By AI agents, Wed Nov 11 2026. No macro, syntax, notation, axiom, sorry.
-/
import Derived.Test.YtbbhobojghmkpaaDoorRows
import Derived.LaidByTextLater
import Derived.SevenTiedAt
import Derived.LaidSub
import Derived.LaidOnce
namespace Go.Proofs.YtbbhobojghmkpaaDoor
open Go
set_option maxRecDepth 100000
theorem seatTie1 : Tryd.prog.laidByTextLater [("math/bits.deBruijn64tab", Rows.laid_math_bits_deBruijn64tab), ("trawl/api.ErrTooBig", Rows.laid_trawl_api_ErrTooBig), ("trawl/api.ErrLong", Rows.laid_trawl_api_ErrLong), ("trawl/api.ErrTree", Rows.laid_trawl_api_ErrTree), ("trawl/api.ErrDeep", Rows.laid_trawl_api_ErrDeep), ("trawl/api.ErrArgument", Rows.laid_trawl_api_ErrArgument)] [.data, .sentinel, .sentinel, .sentinel, .sentinel, .sentinel] true :=
  Program.laidByTextLater_by_one 109 8 65 (by kernel_rfl) (by kernel_rfl) (by kernel_rfl) (by kernel_rfl) (by kernel_rfl) (by kernel_rfl) (fun _ _ => by kernel_rfl)
theorem noOwnUnsafe : Tryd.pinned.checked.prog.headLifts.contains "ownunsafe" = false := by kernel_rfl
theorem tie : Tryd.prog.laidByTextLater [("math/bits.deBruijn64tab", Rows.laid_math_bits_deBruijn64tab), ("trawl/api.ErrTooBig", Rows.laid_trawl_api_ErrTooBig), ("trawl/api.ErrTree", Rows.laid_trawl_api_ErrTree), ("trawl/api.ErrDeep", Rows.laid_trawl_api_ErrDeep)] [.data, .sentinel, .sentinel, .sentinel] true :=
  Program.laidByTextLater.sub seatTie1 ["math/bits.deBruijn64tab", "trawl/api.ErrTooBig", "trawl/api.ErrTree", "trawl/api.ErrDeep"] (by kernel_rfl) (by kernel_rfl)
theorem needTexts_row_tie : Rows.needTextsRow.laidByTextAt .later Tryd.pinned [.data, .sentinel, .sentinel, .sentinel] true :=
  OpenClaim.laidByTextAt_later rfl rfl tie noOwnUnsafe
theorem needNexts_row_tie : Rows.needNextsRow.laidByTextAt .later Tryd.pinned [.data, .sentinel, .sentinel, .sentinel] true :=
  OpenClaim.laidByTextAt_later rfl rfl tie noOwnUnsafe
theorem planTags_row_tie : Rows.planTagsRow.laidByTextAt .later Tryd.pinned [.data, .sentinel, .sentinel, .sentinel] true :=
  OpenClaim.laidByTextAt_later rfl rfl tie noOwnUnsafe
theorem planChooses_row_tie : Rows.planChoosesRow.laidByTextAt .later Tryd.pinned [.data, .sentinel, .sentinel, .sentinel] true :=
  OpenClaim.laidByTextAt_later rfl rfl tie noOwnUnsafe
theorem planGoes_row_tie : Rows.planGoesRow.laidByTextAt .later Tryd.pinned [.data, .sentinel, .sentinel, .sentinel] true :=
  OpenClaim.laidByTextAt_later rfl rfl tie noOwnUnsafe
theorem tie2 : Tryd.prog.laidByTextLater [("math/bits.deBruijn64tab", Rows.laid_math_bits_deBruijn64tab), ("trawl/api.ErrTooBig", Rows.laid_trawl_api_ErrTooBig), ("trawl/api.ErrLong", Rows.laid_trawl_api_ErrLong), ("trawl/api.ErrTree", Rows.laid_trawl_api_ErrTree), ("trawl/api.ErrDeep", Rows.laid_trawl_api_ErrDeep), ("trawl/api.ErrArgument", Rows.laid_trawl_api_ErrArgument)] [.data, .sentinel, .sentinel, .sentinel, .sentinel, .sentinel] true :=
  Program.laidByTextLater.sub seatTie1 ["math/bits.deBruijn64tab", "trawl/api.ErrTooBig", "trawl/api.ErrLong", "trawl/api.ErrTree", "trawl/api.ErrDeep", "trawl/api.ErrArgument"] (by kernel_rfl) (by kernel_rfl)
theorem needPasses_row_tie : Rows.needPassesRow.laidByTextAt .later Tryd.pinned [.data, .sentinel, .sentinel, .sentinel, .sentinel, .sentinel] true :=
  OpenClaim.laidByTextAt_later rfl rfl tie2 noOwnUnsafe
theorem needHolds_row_tie : Rows.needHoldsRow.laidByTextAt .later Tryd.pinned [.data, .sentinel, .sentinel, .sentinel, .sentinel, .sentinel] true :=
  OpenClaim.laidByTextAt_later rfl rfl tie2 noOwnUnsafe
theorem planMeans_row_tie : Rows.planMeansRow.laidByTextAt .later Tryd.pinned [.data, .sentinel, .sentinel, .sentinel, .sentinel, .sentinel] true :=
  OpenClaim.laidByTextAt_later rfl rfl tie2 noOwnUnsafe
theorem needTextsUpto_row_tie : Rows.needTextsUptoRow.laidByTextAt .later Tryd.pinned [.data, .sentinel, .sentinel, .sentinel] true :=
  OpenClaim.laidByTextAt_later rfl rfl tie noOwnUnsafe
theorem needNextsUpto_row_tie : Rows.needNextsUptoRow.laidByTextAt .later Tryd.pinned [.data, .sentinel, .sentinel, .sentinel] true :=
  OpenClaim.laidByTextAt_later rfl rfl tie noOwnUnsafe
theorem planTagsUpto_row_tie : Rows.planTagsUptoRow.laidByTextAt .later Tryd.pinned [.data, .sentinel, .sentinel, .sentinel] true :=
  OpenClaim.laidByTextAt_later rfl rfl tie noOwnUnsafe
theorem planChoosesUpto_row_tie : Rows.planChoosesUptoRow.laidByTextAt .later Tryd.pinned [.data, .sentinel, .sentinel, .sentinel] true :=
  OpenClaim.laidByTextAt_later rfl rfl tie noOwnUnsafe
theorem planGoesUpto_row_tie : Rows.planGoesUptoRow.laidByTextAt .later Tryd.pinned [.data, .sentinel, .sentinel, .sentinel] true :=
  OpenClaim.laidByTextAt_later rfl rfl tie noOwnUnsafe
theorem needPassesUpto_row_tie : Rows.needPassesUptoRow.laidByTextAt .later Tryd.pinned [.data, .sentinel, .sentinel, .sentinel, .sentinel, .sentinel] true :=
  OpenClaim.laidByTextAt_later rfl rfl tie2 noOwnUnsafe
theorem needHoldsUpto_row_tie : Rows.needHoldsUptoRow.laidByTextAt .later Tryd.pinned [.data, .sentinel, .sentinel, .sentinel, .sentinel, .sentinel] true :=
  OpenClaim.laidByTextAt_later rfl rfl tie2 noOwnUnsafe
theorem planMeansUpto_row_tie : Rows.planMeansUptoRow.laidByTextAt .later Tryd.pinned [.data, .sentinel, .sentinel, .sentinel, .sentinel, .sentinel] true :=
  OpenClaim.laidByTextAt_later rfl rfl tie2 noOwnUnsafe
end Go.Proofs.YtbbhobojghmkpaaDoor
