/-
  DERIVED. GIVEN WITH THE SEED: THE CARDS: each row of YtkghlebfmggidaaDoorRows.lean that lists a variable, with what it lists TIED to the program's text (the seventh form; the later family's looks); each row that meets fmt, with fmt's text TOLD by the authors' own Lean function (tested against real Go, not proved from fmt's source: count such statements apart). THE CARD IS WHAT COUNTS. Prove the row's statement (the work); the ties are given (YtkghlebfmggidaaDoorTie.lean); close each card by the builder's one call (the guide's Derived/Test/ToyasCard.lean, 'card_holds'). Laid BY PROGRAM, IN A SANDBOX (cutbox-door.mjs). By AI agents, Wed Nov 11 2026. No macro, syntax, notation, axiom, sorry.
-/
import Derived.Test.YtkghlebfmggidaaDoorRows
import GoSem.ClaimSeven
namespace Go.Proofs.YtkghlebfmggidaaDoor
namespace Rows

/-- THE TIED CARD OF 'trawllaw11.ReachParts'. -/
def reachPartsCard : Claim7 := { stood := { row := reachPartsRow, standIns := [], harness := (true, "e1c649f0959a207ce0e2d7e697f228b28c12d3cabd59e2cb62345b0887e6e1a3"), looks := false }, kinds := [], alts := [], laidByText := true, laidKinds := [.data, .sentinel, .sentinel, .sentinel, .sentinel, .sentinel], laidTests := true, laidLooks := .later }
def ReachPartsCardSaid : Prop := Claim7.holds Tryd.pinned (.plain (OpenSpec.ofChange reachPartsSpec)) reachPartsCard

/-- THE TIED CARD OF 'trawllaw11.ReachRounds'. -/
def reachRoundsCard : Claim7 := { stood := { row := reachRoundsRow, standIns := [], harness := (true, "e1c649f0959a207ce0e2d7e697f228b28c12d3cabd59e2cb62345b0887e6e1a3"), looks := false }, kinds := [], alts := [], laidByText := true, laidKinds := [.data, .sentinel, .sentinel, .sentinel, .sentinel, .sentinel], laidTests := true, laidLooks := .later }
def ReachRoundsCardSaid : Prop := Claim7.holds Tryd.pinned (.plain (OpenSpec.ofChange reachRoundsSpec)) reachRoundsCard

/-- THE TIED CARD OF 'trawllaw11.ReachAlgebra'. -/
def reachAlgebraCard : Claim7 := { stood := { row := reachAlgebraRow, standIns := [], harness := (true, "e1c649f0959a207ce0e2d7e697f228b28c12d3cabd59e2cb62345b0887e6e1a3"), looks := false }, kinds := [], alts := [], laidByText := true, laidKinds := [.data, .sentinel, .sentinel, .sentinel, .sentinel, .sentinel], laidTests := true, laidLooks := .later }
def ReachAlgebraCardSaid : Prop := Claim7.holds Tryd.pinned (.plain (OpenSpec.ofChange reachAlgebraSpec)) reachAlgebraCard

/-- THE TIED CARD OF 'trawllaw16.TurnMirrors'. -/
def turnMirrorsCard : Claim7 := { stood := { row := turnMirrorsRow, standIns := [], harness := (true, "e1c649f0959a207ce0e2d7e697f228b28c12d3cabd59e2cb62345b0887e6e1a3"), looks := false }, kinds := [], alts := [], laidByText := true, laidKinds := [.data, .sentinel, .sentinel, .sentinel, .sentinel, .sentinel], laidTests := true, laidLooks := .later }
def TurnMirrorsCardSaid : Prop := Claim7.holds Tryd.pinned (.plain (OpenSpec.ofChange turnMirrorsSpec)) turnMirrorsCard

/-- THE SECOND FORM's CARD OF 'trawllaw11.ReachParts'. -/
def reachPartsUptoCard : Claim7 := { stood := { row := reachPartsUptoRow, standIns := [], harness := (true, "e1c649f0959a207ce0e2d7e697f228b28c12d3cabd59e2cb62345b0887e6e1a3"), looks := false }, kinds := [], alts := [], laidByText := true, laidKinds := [.data, .sentinel, .sentinel, .sentinel, .sentinel, .sentinel], laidTests := true, laidLooks := .later }
def ReachPartsUptoCardSaid : Prop := Claim7.holds Tryd.pinned (.plain (OpenSpec.upto reachPartsSpec)) reachPartsUptoCard

/-- THE SECOND FORM's CARD OF 'trawllaw11.ReachRounds'. -/
def reachRoundsUptoCard : Claim7 := { stood := { row := reachRoundsUptoRow, standIns := [], harness := (true, "e1c649f0959a207ce0e2d7e697f228b28c12d3cabd59e2cb62345b0887e6e1a3"), looks := false }, kinds := [], alts := [], laidByText := true, laidKinds := [.data, .sentinel, .sentinel, .sentinel, .sentinel, .sentinel], laidTests := true, laidLooks := .later }
def ReachRoundsUptoCardSaid : Prop := Claim7.holds Tryd.pinned (.plain (OpenSpec.upto reachRoundsSpec)) reachRoundsUptoCard

/-- THE SECOND FORM's CARD OF 'trawllaw11.ReachAlgebra'. -/
def reachAlgebraUptoCard : Claim7 := { stood := { row := reachAlgebraUptoRow, standIns := [], harness := (true, "e1c649f0959a207ce0e2d7e697f228b28c12d3cabd59e2cb62345b0887e6e1a3"), looks := false }, kinds := [], alts := [], laidByText := true, laidKinds := [.data, .sentinel, .sentinel, .sentinel, .sentinel, .sentinel], laidTests := true, laidLooks := .later }
def ReachAlgebraUptoCardSaid : Prop := Claim7.holds Tryd.pinned (.plain (OpenSpec.upto reachAlgebraSpec)) reachAlgebraUptoCard

/-- THE SECOND FORM's CARD OF 'trawllaw16.TurnMirrors'. -/
def turnMirrorsUptoCard : Claim7 := { stood := { row := turnMirrorsUptoRow, standIns := [], harness := (true, "e1c649f0959a207ce0e2d7e697f228b28c12d3cabd59e2cb62345b0887e6e1a3"), looks := false }, kinds := [], alts := [], laidByText := true, laidKinds := [.data, .sentinel, .sentinel, .sentinel, .sentinel, .sentinel], laidTests := true, laidLooks := .later }
def TurnMirrorsUptoCardSaid : Prop := Claim7.holds Tryd.pinned (.plain (OpenSpec.upto turnMirrorsSpec)) turnMirrorsUptoCard
end Rows
end Go.Proofs.YtkghlebfmggidaaDoor
