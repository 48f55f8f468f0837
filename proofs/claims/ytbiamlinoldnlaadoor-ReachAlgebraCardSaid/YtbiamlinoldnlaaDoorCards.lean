/-
  DERIVED. GIVEN WITH THE SEED: THE CARDS: each row of YtbiamlinoldnlaaDoorRows.lean that lists a variable, with what it lists TIED to the program's text (the seventh form; the later family's looks); each row that meets fmt, with fmt's text TOLD by the authors' own Lean function (tested against real Go, not proved from fmt's source: count such statements apart). THE CARD IS WHAT COUNTS. Prove the row's statement (the work); the ties are given (YtbiamlinoldnlaaDoorTie.lean); close each card by the builder's one call (the guide's Derived/Test/ToyasCard.lean, 'card_holds'). Laid BY PROGRAM, IN A SANDBOX (cutbox-door.mjs). By AI agents, Wed Nov 11 2026. No macro, syntax, notation, axiom, sorry.
-/
import Derived.Test.YtbiamlinoldnlaaDoorRows
import GoSem.ClaimSeven
namespace Go.Proofs.YtbiamlinoldnlaaDoor
namespace Rows

/-- THE TIED CARD OF 'trawllaw16.TurnBack'. -/
def turnBackCard : Claim7 := { stood := { row := turnBackRow, standIns := [], harness := (true, "49bb9c3da04b6e616cd04b87322da0367a74af400edbfe6d2d62777b7e150d64"), looks := true }, kinds := [], alts := [], laidByText := true, laidKinds := [.sentinel, .sentinel, .sentinel, .sentinel, .sentinel, .sentinel, .sentinel, .sentinel, .sentinel, .sentinel, .sentinel, .sentinel, .sentinel, .sentinel, .sentinel, .sentinel, .sentinel, .sentinel, .sentinel, .sentinel, .sentinel], laidTests := true, laidLooks := .later }
def TurnBackCardSaid : Prop := Claim7.holds Tryd.pinned (.plain (OpenSpec.ofChange turnBackSpec)) turnBackCard

/-- THE TIED CARD OF 'trawllaw18.WalkEnds'. -/
def walkEndsCard : Claim7 := { stood := { row := walkEndsRow, standIns := [], harness := (true, "49bb9c3da04b6e616cd04b87322da0367a74af400edbfe6d2d62777b7e150d64"), looks := true }, kinds := [], alts := [], laidByText := true, laidKinds := [.sentinel, .sentinel, .sentinel, .sentinel, .sentinel, .sentinel, .sentinel, .sentinel, .sentinel, .sentinel, .sentinel, .sentinel, .sentinel, .sentinel, .sentinel, .sentinel, .sentinel, .sentinel, .sentinel, .sentinel, .sentinel], laidTests := true, laidLooks := .later }
def WalkEndsCardSaid : Prop := Claim7.holds Tryd.pinned (.plain (OpenSpec.ofChange walkEndsSpec)) walkEndsCard

/-- THE TIED CARD OF 'trawllaw11.ReachRounds'. -/
def reachRoundsCard : Claim7 := { stood := { row := reachRoundsRow, standIns := [], harness := (true, "49bb9c3da04b6e616cd04b87322da0367a74af400edbfe6d2d62777b7e150d64"), looks := true }, kinds := [], alts := [], laidByText := true, laidKinds := [.data, .sentinel, .sentinel, .sentinel, .sentinel, .sentinel], laidTests := true, laidLooks := .later }
def ReachRoundsCardSaid : Prop := Claim7.holds Tryd.pinned (.plain (OpenSpec.ofChange reachRoundsSpec)) reachRoundsCard

/-- THE TIED CARD OF 'trawllaw11.ReachAlgebra'. -/
def reachAlgebraCard : Claim7 := { stood := { row := reachAlgebraRow, standIns := [], harness := (true, "49bb9c3da04b6e616cd04b87322da0367a74af400edbfe6d2d62777b7e150d64"), looks := true }, kinds := [], alts := [], laidByText := true, laidKinds := [.data, .sentinel, .sentinel, .sentinel, .sentinel, .sentinel], laidTests := true, laidLooks := .later }
def ReachAlgebraCardSaid : Prop := Claim7.holds Tryd.pinned (.plain (OpenSpec.ofChange reachAlgebraSpec)) reachAlgebraCard

/-- THE TIED CARD OF 'trawllaw18.WalkStarts'. -/
def walkStartsCard : Claim7 := { stood := { row := walkStartsRow, standIns := [], harness := (true, "49bb9c3da04b6e616cd04b87322da0367a74af400edbfe6d2d62777b7e150d64"), looks := true }, kinds := [], alts := [], laidByText := true, laidKinds := [.sentinel, .sentinel, .sentinel, .sentinel, .sentinel, .sentinel, .sentinel, .sentinel, .sentinel, .sentinel, .sentinel, .sentinel, .sentinel, .sentinel, .sentinel, .sentinel, .sentinel, .sentinel, .sentinel, .sentinel, .sentinel], laidTests := true, laidLooks := .later }
def WalkStartsCardSaid : Prop := Claim7.holds Tryd.pinned (.plain (OpenSpec.ofChange walkStartsSpec)) walkStartsCard

/-- THE TIED CARD OF 'trawllaw18.WalkTogether'. -/
def walkTogetherCard : Claim7 := { stood := { row := walkTogetherRow, standIns := [], harness := (true, "49bb9c3da04b6e616cd04b87322da0367a74af400edbfe6d2d62777b7e150d64"), looks := true }, kinds := [], alts := [], laidByText := true, laidKinds := [.sentinel, .sentinel, .sentinel, .sentinel, .sentinel, .sentinel, .sentinel, .sentinel, .sentinel, .sentinel, .sentinel, .sentinel, .sentinel, .sentinel, .sentinel, .sentinel, .sentinel, .sentinel, .sentinel, .sentinel, .sentinel], laidTests := true, laidLooks := .later }
def WalkTogetherCardSaid : Prop := Claim7.holds Tryd.pinned (.plain (OpenSpec.ofChange walkTogetherSpec)) walkTogetherCard

/-- THE TIED CARD OF 'trawllaw11.ReachParts'. -/
def reachPartsCard : Claim7 := { stood := { row := reachPartsRow, standIns := [], harness := (true, "49bb9c3da04b6e616cd04b87322da0367a74af400edbfe6d2d62777b7e150d64"), looks := true }, kinds := [], alts := [], laidByText := true, laidKinds := [.data, .sentinel, .sentinel, .sentinel, .sentinel, .sentinel], laidTests := true, laidLooks := .later }
def ReachPartsCardSaid : Prop := Claim7.holds Tryd.pinned (.plain (OpenSpec.ofChange reachPartsSpec)) reachPartsCard

/-- THE TIED CARD OF 'trawllaw16.TurnMirrors'. -/
def turnMirrorsCard : Claim7 := { stood := { row := turnMirrorsRow, standIns := [], harness := (true, "49bb9c3da04b6e616cd04b87322da0367a74af400edbfe6d2d62777b7e150d64"), looks := true }, kinds := [], alts := [], laidByText := true, laidKinds := [.data, .sentinel, .sentinel, .sentinel, .sentinel, .sentinel], laidTests := true, laidLooks := .later }
def TurnMirrorsCardSaid : Prop := Claim7.holds Tryd.pinned (.plain (OpenSpec.ofChange turnMirrorsSpec)) turnMirrorsCard

/-- THE TIED CARD OF 'trawllaw17.PositMakes'. -/
def positMakesCard : Claim7 := { stood := { row := positMakesRow, standIns := [], harness := (true, "49bb9c3da04b6e616cd04b87322da0367a74af400edbfe6d2d62777b7e150d64"), looks := true }, kinds := [], alts := [], laidByText := true, laidKinds := [.sentinel, .sentinel, .sentinel, .sentinel, .sentinel, .sentinel, .sentinel, .sentinel, .sentinel, .sentinel, .sentinel, .sentinel, .sentinel, .sentinel, .sentinel, .sentinel, .sentinel, .sentinel, .sentinel, .sentinel, .sentinel], laidTests := true, laidLooks := .later }
def PositMakesCardSaid : Prop := Claim7.holds Tryd.pinned (.plain (OpenSpec.ofChange positMakesSpec)) positMakesCard

/-- THE TIED CARD OF 'trawllaw11.ReachEnds'. -/
def reachEndsCard : Claim7 := { stood := { row := reachEndsRow, standIns := [], harness := (true, "49bb9c3da04b6e616cd04b87322da0367a74af400edbfe6d2d62777b7e150d64"), looks := true }, kinds := [], alts := [], laidByText := true, laidKinds := [.data, .sentinel, .sentinel, .sentinel, .sentinel, .sentinel, .sentinel, .sentinel, .sentinel, .sentinel, .sentinel, .sentinel, .sentinel, .sentinel, .sentinel, .sentinel, .sentinel, .sentinel, .sentinel, .sentinel, .sentinel, .sentinel], laidTests := true, laidLooks := .later }
def ReachEndsCardSaid : Prop := Claim7.holds Tryd.pinned (.plain (OpenSpec.ofChange reachEndsSpec)) reachEndsCard

/-- THE TIED CARD OF 'trawllaw17.PositChecks'. -/
def positChecksCard : Claim7 := { stood := { row := positChecksRow, standIns := [], harness := (true, "49bb9c3da04b6e616cd04b87322da0367a74af400edbfe6d2d62777b7e150d64"), looks := true }, kinds := [], alts := [], laidByText := true, laidKinds := [.sentinel, .sentinel, .sentinel, .sentinel, .sentinel, .sentinel, .sentinel, .sentinel, .sentinel, .sentinel, .sentinel, .sentinel, .sentinel, .sentinel, .sentinel, .sentinel, .sentinel, .sentinel, .sentinel, .sentinel, .sentinel], laidTests := true, laidLooks := .later }
def PositChecksCardSaid : Prop := Claim7.holds Tryd.pinned (.plain (OpenSpec.ofChange positChecksSpec)) positChecksCard

/-- THE SECOND FORM's CARD OF 'trawllaw16.TurnBack'. -/
def turnBackUptoCard : Claim7 := { stood := { row := turnBackUptoRow, standIns := [], harness := (true, "49bb9c3da04b6e616cd04b87322da0367a74af400edbfe6d2d62777b7e150d64"), looks := true }, kinds := [], alts := [], laidByText := true, laidKinds := [.sentinel, .sentinel, .sentinel, .sentinel, .sentinel, .sentinel, .sentinel, .sentinel, .sentinel, .sentinel, .sentinel, .sentinel, .sentinel, .sentinel, .sentinel, .sentinel, .sentinel, .sentinel, .sentinel, .sentinel, .sentinel], laidTests := true, laidLooks := .later }
def TurnBackUptoCardSaid : Prop := Claim7.holds Tryd.pinned (.plain (OpenSpec.upto turnBackSpec)) turnBackUptoCard

/-- THE SECOND FORM's CARD OF 'trawllaw18.WalkEnds'. -/
def walkEndsUptoCard : Claim7 := { stood := { row := walkEndsUptoRow, standIns := [], harness := (true, "49bb9c3da04b6e616cd04b87322da0367a74af400edbfe6d2d62777b7e150d64"), looks := true }, kinds := [], alts := [], laidByText := true, laidKinds := [.sentinel, .sentinel, .sentinel, .sentinel, .sentinel, .sentinel, .sentinel, .sentinel, .sentinel, .sentinel, .sentinel, .sentinel, .sentinel, .sentinel, .sentinel, .sentinel, .sentinel, .sentinel, .sentinel, .sentinel, .sentinel], laidTests := true, laidLooks := .later }
def WalkEndsUptoCardSaid : Prop := Claim7.holds Tryd.pinned (.plain (OpenSpec.upto walkEndsSpec)) walkEndsUptoCard

/-- THE SECOND FORM's CARD OF 'trawllaw11.ReachRounds'. -/
def reachRoundsUptoCard : Claim7 := { stood := { row := reachRoundsUptoRow, standIns := [], harness := (true, "49bb9c3da04b6e616cd04b87322da0367a74af400edbfe6d2d62777b7e150d64"), looks := true }, kinds := [], alts := [], laidByText := true, laidKinds := [.data, .sentinel, .sentinel, .sentinel, .sentinel, .sentinel], laidTests := true, laidLooks := .later }
def ReachRoundsUptoCardSaid : Prop := Claim7.holds Tryd.pinned (.plain (OpenSpec.upto reachRoundsSpec)) reachRoundsUptoCard

/-- THE SECOND FORM's CARD OF 'trawllaw11.ReachAlgebra'. -/
def reachAlgebraUptoCard : Claim7 := { stood := { row := reachAlgebraUptoRow, standIns := [], harness := (true, "49bb9c3da04b6e616cd04b87322da0367a74af400edbfe6d2d62777b7e150d64"), looks := true }, kinds := [], alts := [], laidByText := true, laidKinds := [.data, .sentinel, .sentinel, .sentinel, .sentinel, .sentinel], laidTests := true, laidLooks := .later }
def ReachAlgebraUptoCardSaid : Prop := Claim7.holds Tryd.pinned (.plain (OpenSpec.upto reachAlgebraSpec)) reachAlgebraUptoCard

/-- THE SECOND FORM's CARD OF 'trawllaw18.WalkStarts'. -/
def walkStartsUptoCard : Claim7 := { stood := { row := walkStartsUptoRow, standIns := [], harness := (true, "49bb9c3da04b6e616cd04b87322da0367a74af400edbfe6d2d62777b7e150d64"), looks := true }, kinds := [], alts := [], laidByText := true, laidKinds := [.sentinel, .sentinel, .sentinel, .sentinel, .sentinel, .sentinel, .sentinel, .sentinel, .sentinel, .sentinel, .sentinel, .sentinel, .sentinel, .sentinel, .sentinel, .sentinel, .sentinel, .sentinel, .sentinel, .sentinel, .sentinel], laidTests := true, laidLooks := .later }
def WalkStartsUptoCardSaid : Prop := Claim7.holds Tryd.pinned (.plain (OpenSpec.upto walkStartsSpec)) walkStartsUptoCard

/-- THE SECOND FORM's CARD OF 'trawllaw18.WalkTogether'. -/
def walkTogetherUptoCard : Claim7 := { stood := { row := walkTogetherUptoRow, standIns := [], harness := (true, "49bb9c3da04b6e616cd04b87322da0367a74af400edbfe6d2d62777b7e150d64"), looks := true }, kinds := [], alts := [], laidByText := true, laidKinds := [.sentinel, .sentinel, .sentinel, .sentinel, .sentinel, .sentinel, .sentinel, .sentinel, .sentinel, .sentinel, .sentinel, .sentinel, .sentinel, .sentinel, .sentinel, .sentinel, .sentinel, .sentinel, .sentinel, .sentinel, .sentinel], laidTests := true, laidLooks := .later }
def WalkTogetherUptoCardSaid : Prop := Claim7.holds Tryd.pinned (.plain (OpenSpec.upto walkTogetherSpec)) walkTogetherUptoCard

/-- THE SECOND FORM's CARD OF 'trawllaw11.ReachParts'. -/
def reachPartsUptoCard : Claim7 := { stood := { row := reachPartsUptoRow, standIns := [], harness := (true, "49bb9c3da04b6e616cd04b87322da0367a74af400edbfe6d2d62777b7e150d64"), looks := true }, kinds := [], alts := [], laidByText := true, laidKinds := [.data, .sentinel, .sentinel, .sentinel, .sentinel, .sentinel], laidTests := true, laidLooks := .later }
def ReachPartsUptoCardSaid : Prop := Claim7.holds Tryd.pinned (.plain (OpenSpec.upto reachPartsSpec)) reachPartsUptoCard

/-- THE SECOND FORM's CARD OF 'trawllaw16.TurnMirrors'. -/
def turnMirrorsUptoCard : Claim7 := { stood := { row := turnMirrorsUptoRow, standIns := [], harness := (true, "49bb9c3da04b6e616cd04b87322da0367a74af400edbfe6d2d62777b7e150d64"), looks := true }, kinds := [], alts := [], laidByText := true, laidKinds := [.data, .sentinel, .sentinel, .sentinel, .sentinel, .sentinel], laidTests := true, laidLooks := .later }
def TurnMirrorsUptoCardSaid : Prop := Claim7.holds Tryd.pinned (.plain (OpenSpec.upto turnMirrorsSpec)) turnMirrorsUptoCard

/-- THE SECOND FORM's CARD OF 'trawllaw17.PositMakes'. -/
def positMakesUptoCard : Claim7 := { stood := { row := positMakesUptoRow, standIns := [], harness := (true, "49bb9c3da04b6e616cd04b87322da0367a74af400edbfe6d2d62777b7e150d64"), looks := true }, kinds := [], alts := [], laidByText := true, laidKinds := [.sentinel, .sentinel, .sentinel, .sentinel, .sentinel, .sentinel, .sentinel, .sentinel, .sentinel, .sentinel, .sentinel, .sentinel, .sentinel, .sentinel, .sentinel, .sentinel, .sentinel, .sentinel, .sentinel, .sentinel, .sentinel], laidTests := true, laidLooks := .later }
def PositMakesUptoCardSaid : Prop := Claim7.holds Tryd.pinned (.plain (OpenSpec.upto positMakesSpec)) positMakesUptoCard

/-- THE SECOND FORM's CARD OF 'trawllaw11.ReachEnds'. -/
def reachEndsUptoCard : Claim7 := { stood := { row := reachEndsUptoRow, standIns := [], harness := (true, "49bb9c3da04b6e616cd04b87322da0367a74af400edbfe6d2d62777b7e150d64"), looks := true }, kinds := [], alts := [], laidByText := true, laidKinds := [.data, .sentinel, .sentinel, .sentinel, .sentinel, .sentinel, .sentinel, .sentinel, .sentinel, .sentinel, .sentinel, .sentinel, .sentinel, .sentinel, .sentinel, .sentinel, .sentinel, .sentinel, .sentinel, .sentinel, .sentinel, .sentinel], laidTests := true, laidLooks := .later }
def ReachEndsUptoCardSaid : Prop := Claim7.holds Tryd.pinned (.plain (OpenSpec.upto reachEndsSpec)) reachEndsUptoCard

/-- THE SECOND FORM's CARD OF 'trawllaw17.PositChecks'. -/
def positChecksUptoCard : Claim7 := { stood := { row := positChecksUptoRow, standIns := [], harness := (true, "49bb9c3da04b6e616cd04b87322da0367a74af400edbfe6d2d62777b7e150d64"), looks := true }, kinds := [], alts := [], laidByText := true, laidKinds := [.sentinel, .sentinel, .sentinel, .sentinel, .sentinel, .sentinel, .sentinel, .sentinel, .sentinel, .sentinel, .sentinel, .sentinel, .sentinel, .sentinel, .sentinel, .sentinel, .sentinel, .sentinel, .sentinel, .sentinel, .sentinel], laidTests := true, laidLooks := .later }
def PositChecksUptoCardSaid : Prop := Claim7.holds Tryd.pinned (.plain (OpenSpec.upto positChecksSpec)) positChecksUptoCard
end Rows
end Go.Proofs.YtbiamlinoldnlaaDoor
