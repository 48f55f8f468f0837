/-
  DERIVED. GIVEN WITH THE SEED: THE CARDS: each row of YthkddbfgihgfaaaDoorRows.lean that lists a variable, with what it lists TIED to the program's text (the seventh form; the later family's looks); each row that meets fmt, with fmt's text TOLD by the authors' own Lean function (tested against real Go, not proved from fmt's source: count such statements apart). THE CARD IS WHAT COUNTS. Prove the row's statement (the work); the ties are given (YthkddbfgihgfaaaDoorTie.lean); close each card by the builder's one call (the guide's Derived/Test/ToyasCard.lean, 'card_holds'). Laid BY PROGRAM, IN A SANDBOX (cutbox-door.mjs). By AI agents, Wed Nov 11 2026. No macro, syntax, notation, axiom, sorry.
-/
import Derived.Test.YthkddbfgihgfaaaDoorRows
import GoSem.ClaimSeven
namespace Go.Proofs.YthkddbfgihgfaaaDoor
namespace Rows

/-- THE TIED CARD OF 'trawllaw17.PositMakes'. -/
def positMakesCard : Claim7 := { stood := { row := positMakesRow, standIns := [], harness := (true, "e324e85317ab63b8acd82695f9fc55e6a821767dc4939b7b6aa39e27ba3e9955"), looks := true }, kinds := [], alts := [], laidByText := true, laidKinds := [.sentinel, .sentinel, .sentinel, .sentinel, .sentinel, .sentinel, .sentinel, .sentinel, .sentinel, .sentinel, .sentinel, .sentinel, .sentinel, .sentinel, .sentinel, .sentinel, .sentinel, .sentinel, .sentinel, .sentinel, .sentinel], laidTests := true, laidLooks := .later }
def PositMakesCardSaid : Prop := Claim7.holds Tryd.pinned (.plain (OpenSpec.ofChange positMakesSpec)) positMakesCard

/-- THE TIED CARD OF 'trawllaw17.PositMeans'. -/
def positMeansCard : Claim7 := { stood := { row := positMeansRow, standIns := [], harness := (true, "e324e85317ab63b8acd82695f9fc55e6a821767dc4939b7b6aa39e27ba3e9955"), looks := true }, kinds := [], alts := [], laidByText := true, laidKinds := [.data, .sentinel, .sentinel, .sentinel, .sentinel, .sentinel], laidTests := true, laidLooks := .later }
def PositMeansCardSaid : Prop := Claim7.holds Tryd.pinned (.plain (OpenSpec.ofChange positMeansSpec)) positMeansCard

/-- THE TIED CARD OF 'trawllaw05.BracketReads'. -/
def bracketReadsCard : Claim7 := { stood := { row := bracketReadsRow, standIns := [], harness := (true, "e324e85317ab63b8acd82695f9fc55e6a821767dc4939b7b6aa39e27ba3e9955"), looks := true }, kinds := [], alts := [], laidByText := true, laidKinds := [.handle, .sentinel, .sentinel, .sentinel, .sentinel, .sentinel, .sentinel, .sentinel, .sentinel, .sentinel, .sentinel, .sentinel, .sentinel, .sentinel, .sentinel, .sentinel, .sentinel, .sentinel, .sentinel, .sentinel, .sentinel, .sentinel], laidTests := true, laidLooks := .later }
def BracketReadsCardSaid : Prop := Claim7.holds Tryd.pinned (.plain (OpenSpec.ofChange bracketReadsSpec)) bracketReadsCard

/-- THE TIED CARD OF 'trawllaw05.BracketTurns'. -/
def bracketTurnsCard : Claim7 := { stood := { row := bracketTurnsRow, standIns := [], harness := (true, "e324e85317ab63b8acd82695f9fc55e6a821767dc4939b7b6aa39e27ba3e9955"), looks := true }, kinds := [], alts := [], laidByText := true, laidKinds := [.handle, .sentinel, .sentinel, .sentinel, .sentinel, .sentinel, .sentinel, .sentinel, .sentinel, .sentinel, .sentinel, .sentinel, .sentinel, .sentinel, .sentinel, .sentinel, .sentinel, .sentinel, .sentinel, .sentinel, .sentinel, .sentinel], laidTests := true, laidLooks := .later }
def BracketTurnsCardSaid : Prop := Claim7.holds Tryd.pinned (.plain (OpenSpec.ofChange bracketTurnsSpec)) bracketTurnsCard

/-- THE SECOND FORM's CARD OF 'trawllaw17.PositMakes'. -/
def positMakesUptoCard : Claim7 := { stood := { row := positMakesUptoRow, standIns := [], harness := (true, "e324e85317ab63b8acd82695f9fc55e6a821767dc4939b7b6aa39e27ba3e9955"), looks := true }, kinds := [], alts := [], laidByText := true, laidKinds := [.sentinel, .sentinel, .sentinel, .sentinel, .sentinel, .sentinel, .sentinel, .sentinel, .sentinel, .sentinel, .sentinel, .sentinel, .sentinel, .sentinel, .sentinel, .sentinel, .sentinel, .sentinel, .sentinel, .sentinel, .sentinel], laidTests := true, laidLooks := .later }
def PositMakesUptoCardSaid : Prop := Claim7.holds Tryd.pinned (.plain (OpenSpec.upto positMakesSpec)) positMakesUptoCard

/-- THE SECOND FORM's CARD OF 'trawllaw17.PositMeans'. -/
def positMeansUptoCard : Claim7 := { stood := { row := positMeansUptoRow, standIns := [], harness := (true, "e324e85317ab63b8acd82695f9fc55e6a821767dc4939b7b6aa39e27ba3e9955"), looks := true }, kinds := [], alts := [], laidByText := true, laidKinds := [.data, .sentinel, .sentinel, .sentinel, .sentinel, .sentinel], laidTests := true, laidLooks := .later }
def PositMeansUptoCardSaid : Prop := Claim7.holds Tryd.pinned (.plain (OpenSpec.upto positMeansSpec)) positMeansUptoCard

/-- THE SECOND FORM's CARD OF 'trawllaw05.BracketReads'. -/
def bracketReadsUptoCard : Claim7 := { stood := { row := bracketReadsUptoRow, standIns := [], harness := (true, "e324e85317ab63b8acd82695f9fc55e6a821767dc4939b7b6aa39e27ba3e9955"), looks := true }, kinds := [], alts := [], laidByText := true, laidKinds := [.handle, .sentinel, .sentinel, .sentinel, .sentinel, .sentinel, .sentinel, .sentinel, .sentinel, .sentinel, .sentinel, .sentinel, .sentinel, .sentinel, .sentinel, .sentinel, .sentinel, .sentinel, .sentinel, .sentinel, .sentinel, .sentinel], laidTests := true, laidLooks := .later }
def BracketReadsUptoCardSaid : Prop := Claim7.holds Tryd.pinned (.plain (OpenSpec.upto bracketReadsSpec)) bracketReadsUptoCard

/-- THE SECOND FORM's CARD OF 'trawllaw05.BracketTurns'. -/
def bracketTurnsUptoCard : Claim7 := { stood := { row := bracketTurnsUptoRow, standIns := [], harness := (true, "e324e85317ab63b8acd82695f9fc55e6a821767dc4939b7b6aa39e27ba3e9955"), looks := true }, kinds := [], alts := [], laidByText := true, laidKinds := [.handle, .sentinel, .sentinel, .sentinel, .sentinel, .sentinel, .sentinel, .sentinel, .sentinel, .sentinel, .sentinel, .sentinel, .sentinel, .sentinel, .sentinel, .sentinel, .sentinel, .sentinel, .sentinel, .sentinel, .sentinel, .sentinel], laidTests := true, laidLooks := .later }
def BracketTurnsUptoCardSaid : Prop := Claim7.holds Tryd.pinned (.plain (OpenSpec.upto bracketTurnsSpec)) bracketTurnsUptoCard
end Rows
end Go.Proofs.YthkddbfgihgfaaaDoor
