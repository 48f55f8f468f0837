/-
  DERIVED. GIVEN WITH THE SEED: THE CARDS: each row of YtbbhobojghmkpaaDoorRows.lean that lists a variable, with what it lists TIED to the program's text (the seventh form; the later family's looks); each row that meets fmt, with fmt's text TOLD by the authors' own Lean function (tested against real Go, not proved from fmt's source: count such statements apart). THE CARD IS WHAT COUNTS. Prove the row's statement (the work); the ties are given (YtbbhobojghmkpaaDoorTie.lean); close each card by the builder's one call (the guide's Derived/Test/ToyasCard.lean, 'card_holds'). Laid BY PROGRAM, IN A SANDBOX (cutbox-door.mjs). By AI agents, Wed Nov 11 2026. No macro, syntax, notation, axiom, sorry.
-/
import Derived.Test.YtbbhobojghmkpaaDoorRows
import GoSem.ClaimSeven
namespace Go.Proofs.YtbbhobojghmkpaaDoor
namespace Rows

/-- THE TIED CARD OF 'trawllaw20.NeedTexts'. -/
def needTextsCard : Claim7 := { stood := { row := needTextsRow, standIns := [], harness := (true, "8eefc01e1fb9775790ae90e5f1078fccdfa4e93b8991e8553bce571fe39aebf8"), looks := false }, kinds := [], alts := [], laidByText := true, laidKinds := [.data, .sentinel, .sentinel, .sentinel], laidTests := true, laidLooks := .later }
def NeedTextsCardSaid : Prop := Claim7.holds Tryd.pinned (.plain (OpenSpec.ofChange needTextsSpec)) needTextsCard

/-- THE TIED CARD OF 'trawllaw20.NeedNexts'. -/
def needNextsCard : Claim7 := { stood := { row := needNextsRow, standIns := [], harness := (true, "8eefc01e1fb9775790ae90e5f1078fccdfa4e93b8991e8553bce571fe39aebf8"), looks := false }, kinds := [], alts := [], laidByText := true, laidKinds := [.data, .sentinel, .sentinel, .sentinel], laidTests := true, laidLooks := .later }
def NeedNextsCardSaid : Prop := Claim7.holds Tryd.pinned (.plain (OpenSpec.ofChange needNextsSpec)) needNextsCard

/-- THE TIED CARD OF 'trawllaw23.PlanTags'. -/
def planTagsCard : Claim7 := { stood := { row := planTagsRow, standIns := [], harness := (true, "8eefc01e1fb9775790ae90e5f1078fccdfa4e93b8991e8553bce571fe39aebf8"), looks := false }, kinds := [], alts := [], laidByText := true, laidKinds := [.data, .sentinel, .sentinel, .sentinel], laidTests := true, laidLooks := .later }
def PlanTagsCardSaid : Prop := Claim7.holds Tryd.pinned (.plain (OpenSpec.ofChange planTagsSpec)) planTagsCard

/-- THE TIED CARD OF 'trawllaw23.PlanChooses'. -/
def planChoosesCard : Claim7 := { stood := { row := planChoosesRow, standIns := [], harness := (true, "8eefc01e1fb9775790ae90e5f1078fccdfa4e93b8991e8553bce571fe39aebf8"), looks := false }, kinds := [], alts := [], laidByText := true, laidKinds := [.data, .sentinel, .sentinel, .sentinel], laidTests := true, laidLooks := .later }
def PlanChoosesCardSaid : Prop := Claim7.holds Tryd.pinned (.plain (OpenSpec.ofChange planChoosesSpec)) planChoosesCard

/-- THE TIED CARD OF 'trawllaw23.PlanGoes'. -/
def planGoesCard : Claim7 := { stood := { row := planGoesRow, standIns := [], harness := (true, "8eefc01e1fb9775790ae90e5f1078fccdfa4e93b8991e8553bce571fe39aebf8"), looks := false }, kinds := [], alts := [], laidByText := true, laidKinds := [.data, .sentinel, .sentinel, .sentinel], laidTests := true, laidLooks := .later }
def PlanGoesCardSaid : Prop := Claim7.holds Tryd.pinned (.plain (OpenSpec.ofChange planGoesSpec)) planGoesCard

/-- THE TIED CARD OF 'trawllaw20.NeedPasses'. -/
def needPassesCard : Claim7 := { stood := { row := needPassesRow, standIns := [], harness := (true, "8eefc01e1fb9775790ae90e5f1078fccdfa4e93b8991e8553bce571fe39aebf8"), looks := false }, kinds := [], alts := [], laidByText := true, laidKinds := [.data, .sentinel, .sentinel, .sentinel, .sentinel, .sentinel], laidTests := true, laidLooks := .later }
def NeedPassesCardSaid : Prop := Claim7.holds Tryd.pinned (.plain (OpenSpec.ofChange needPassesSpec)) needPassesCard

/-- THE TIED CARD OF 'trawllaw20.NeedHolds'. -/
def needHoldsCard : Claim7 := { stood := { row := needHoldsRow, standIns := [], harness := (true, "8eefc01e1fb9775790ae90e5f1078fccdfa4e93b8991e8553bce571fe39aebf8"), looks := false }, kinds := [], alts := [], laidByText := true, laidKinds := [.data, .sentinel, .sentinel, .sentinel, .sentinel, .sentinel], laidTests := true, laidLooks := .later }
def NeedHoldsCardSaid : Prop := Claim7.holds Tryd.pinned (.plain (OpenSpec.ofChange needHoldsSpec)) needHoldsCard

/-- THE TIED CARD OF 'trawllaw23.PlanMeans'. -/
def planMeansCard : Claim7 := { stood := { row := planMeansRow, standIns := [], harness := (true, "8eefc01e1fb9775790ae90e5f1078fccdfa4e93b8991e8553bce571fe39aebf8"), looks := false }, kinds := [], alts := [], laidByText := true, laidKinds := [.data, .sentinel, .sentinel, .sentinel, .sentinel, .sentinel], laidTests := true, laidLooks := .later }
def PlanMeansCardSaid : Prop := Claim7.holds Tryd.pinned (.plain (OpenSpec.ofChange planMeansSpec)) planMeansCard

/-- THE SECOND FORM's CARD OF 'trawllaw20.NeedTexts'. -/
def needTextsUptoCard : Claim7 := { stood := { row := needTextsUptoRow, standIns := [], harness := (true, "8eefc01e1fb9775790ae90e5f1078fccdfa4e93b8991e8553bce571fe39aebf8"), looks := false }, kinds := [], alts := [], laidByText := true, laidKinds := [.data, .sentinel, .sentinel, .sentinel], laidTests := true, laidLooks := .later }
def NeedTextsUptoCardSaid : Prop := Claim7.holds Tryd.pinned (.plain (OpenSpec.upto needTextsSpec)) needTextsUptoCard

/-- THE SECOND FORM's CARD OF 'trawllaw20.NeedNexts'. -/
def needNextsUptoCard : Claim7 := { stood := { row := needNextsUptoRow, standIns := [], harness := (true, "8eefc01e1fb9775790ae90e5f1078fccdfa4e93b8991e8553bce571fe39aebf8"), looks := false }, kinds := [], alts := [], laidByText := true, laidKinds := [.data, .sentinel, .sentinel, .sentinel], laidTests := true, laidLooks := .later }
def NeedNextsUptoCardSaid : Prop := Claim7.holds Tryd.pinned (.plain (OpenSpec.upto needNextsSpec)) needNextsUptoCard

/-- THE SECOND FORM's CARD OF 'trawllaw23.PlanTags'. -/
def planTagsUptoCard : Claim7 := { stood := { row := planTagsUptoRow, standIns := [], harness := (true, "8eefc01e1fb9775790ae90e5f1078fccdfa4e93b8991e8553bce571fe39aebf8"), looks := false }, kinds := [], alts := [], laidByText := true, laidKinds := [.data, .sentinel, .sentinel, .sentinel], laidTests := true, laidLooks := .later }
def PlanTagsUptoCardSaid : Prop := Claim7.holds Tryd.pinned (.plain (OpenSpec.upto planTagsSpec)) planTagsUptoCard

/-- THE SECOND FORM's CARD OF 'trawllaw23.PlanChooses'. -/
def planChoosesUptoCard : Claim7 := { stood := { row := planChoosesUptoRow, standIns := [], harness := (true, "8eefc01e1fb9775790ae90e5f1078fccdfa4e93b8991e8553bce571fe39aebf8"), looks := false }, kinds := [], alts := [], laidByText := true, laidKinds := [.data, .sentinel, .sentinel, .sentinel], laidTests := true, laidLooks := .later }
def PlanChoosesUptoCardSaid : Prop := Claim7.holds Tryd.pinned (.plain (OpenSpec.upto planChoosesSpec)) planChoosesUptoCard

/-- THE SECOND FORM's CARD OF 'trawllaw23.PlanGoes'. -/
def planGoesUptoCard : Claim7 := { stood := { row := planGoesUptoRow, standIns := [], harness := (true, "8eefc01e1fb9775790ae90e5f1078fccdfa4e93b8991e8553bce571fe39aebf8"), looks := false }, kinds := [], alts := [], laidByText := true, laidKinds := [.data, .sentinel, .sentinel, .sentinel], laidTests := true, laidLooks := .later }
def PlanGoesUptoCardSaid : Prop := Claim7.holds Tryd.pinned (.plain (OpenSpec.upto planGoesSpec)) planGoesUptoCard

/-- THE SECOND FORM's CARD OF 'trawllaw20.NeedPasses'. -/
def needPassesUptoCard : Claim7 := { stood := { row := needPassesUptoRow, standIns := [], harness := (true, "8eefc01e1fb9775790ae90e5f1078fccdfa4e93b8991e8553bce571fe39aebf8"), looks := false }, kinds := [], alts := [], laidByText := true, laidKinds := [.data, .sentinel, .sentinel, .sentinel, .sentinel, .sentinel], laidTests := true, laidLooks := .later }
def NeedPassesUptoCardSaid : Prop := Claim7.holds Tryd.pinned (.plain (OpenSpec.upto needPassesSpec)) needPassesUptoCard

/-- THE SECOND FORM's CARD OF 'trawllaw20.NeedHolds'. -/
def needHoldsUptoCard : Claim7 := { stood := { row := needHoldsUptoRow, standIns := [], harness := (true, "8eefc01e1fb9775790ae90e5f1078fccdfa4e93b8991e8553bce571fe39aebf8"), looks := false }, kinds := [], alts := [], laidByText := true, laidKinds := [.data, .sentinel, .sentinel, .sentinel, .sentinel, .sentinel], laidTests := true, laidLooks := .later }
def NeedHoldsUptoCardSaid : Prop := Claim7.holds Tryd.pinned (.plain (OpenSpec.upto needHoldsSpec)) needHoldsUptoCard

/-- THE SECOND FORM's CARD OF 'trawllaw23.PlanMeans'. -/
def planMeansUptoCard : Claim7 := { stood := { row := planMeansUptoRow, standIns := [], harness := (true, "8eefc01e1fb9775790ae90e5f1078fccdfa4e93b8991e8553bce571fe39aebf8"), looks := false }, kinds := [], alts := [], laidByText := true, laidKinds := [.data, .sentinel, .sentinel, .sentinel, .sentinel, .sentinel], laidTests := true, laidLooks := .later }
def PlanMeansUptoCardSaid : Prop := Claim7.holds Tryd.pinned (.plain (OpenSpec.upto planMeansSpec)) planMeansUptoCard
end Rows
end Go.Proofs.YtbbhobojghmkpaaDoor
