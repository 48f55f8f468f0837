/-
  DERIVED. GIVEN WITH THE SEED: THE CARDS: each row of YtdkonfdhedcajaaDoorRows.lean that lists a variable, with what it lists TIED to the program's text (the seventh form; the later family's looks); each row that meets fmt, with fmt's text TOLD by the authors' own Lean function (tested against real Go, not proved from fmt's source: count such statements apart). THE CARD IS WHAT COUNTS. Prove the row's statement (the work); the ties are given (YtdkonfdhedcajaaDoorTie.lean); close each card by the builder's one call (the guide's Derived/Test/ToyasCard.lean, 'card_holds'). Laid BY PROGRAM, IN A SANDBOX (cutbox-door.mjs). By AI agents, Wed Nov 11 2026. No macro, syntax, notation, axiom, sorry.
-/
import Derived.Test.YtdkonfdhedcajaaDoorRows
import GoSem.ClaimSeven
namespace Go.Proofs.YtdkonfdhedcajaaDoor
namespace Rows

/-- THE TIED CARD OF 'trawllaw05.BracketReads'. -/
def bracketReadsCard : Claim7 := { stood := { row := bracketReadsRow, standIns := [], harness := (true, "6b59126b7c7239eb6991f3d93b828c7eb0ca928c308646c929976d69dabab931"), looks := true }, kinds := [], alts := [], laidByText := true, laidKinds := [.handle, .sentinel, .sentinel, .sentinel, .sentinel, .sentinel, .sentinel, .sentinel, .sentinel, .sentinel, .sentinel, .sentinel, .sentinel, .sentinel, .sentinel, .sentinel, .sentinel, .sentinel, .sentinel, .sentinel, .sentinel, .sentinel], laidTests := true, laidLooks := .later }
def BracketReadsCardSaid : Prop := Claim7.holds Tryd.pinned (.plain (OpenSpec.ofChange bracketReadsSpec)) bracketReadsCard

/-- THE TIED CARD OF 'trawllaw05.BracketTurns'. -/
def bracketTurnsCard : Claim7 := { stood := { row := bracketTurnsRow, standIns := [], harness := (true, "6b59126b7c7239eb6991f3d93b828c7eb0ca928c308646c929976d69dabab931"), looks := true }, kinds := [], alts := [], laidByText := true, laidKinds := [.handle, .sentinel, .sentinel, .sentinel, .sentinel, .sentinel, .sentinel, .sentinel, .sentinel, .sentinel, .sentinel, .sentinel, .sentinel, .sentinel, .sentinel, .sentinel, .sentinel, .sentinel, .sentinel, .sentinel, .sentinel, .sentinel], laidTests := true, laidLooks := .later }
def BracketTurnsCardSaid : Prop := Claim7.holds Tryd.pinned (.plain (OpenSpec.ofChange bracketTurnsSpec)) bracketTurnsCard

/-- THE TIED CARD OF 'trawllaw07.BreGroups'. -/
def breGroupsCard : Claim7 := { stood := { row := breGroupsRow, standIns := [], harness := (true, "6b59126b7c7239eb6991f3d93b828c7eb0ca928c308646c929976d69dabab931"), looks := true }, kinds := [], alts := [], laidByText := true, laidKinds := [.handle, .sentinel, .sentinel, .sentinel, .sentinel, .sentinel, .sentinel, .sentinel, .sentinel, .sentinel, .sentinel, .sentinel, .sentinel, .sentinel, .sentinel, .sentinel, .sentinel, .sentinel, .sentinel, .sentinel, .sentinel, .sentinel], laidTests := true, laidLooks := .later }
def BreGroupsCardSaid : Prop := Claim7.holds Tryd.pinned (.plain (OpenSpec.ofChange breGroupsSpec)) breGroupsCard

/-- THE TIED CARD OF 'trawllaw07.BreRight'. -/
def breRightCard : Claim7 := { stood := { row := breRightRow, standIns := [], harness := (true, "6b59126b7c7239eb6991f3d93b828c7eb0ca928c308646c929976d69dabab931"), looks := true }, kinds := [], alts := [], laidByText := true, laidKinds := [.handle, .sentinel, .sentinel, .sentinel, .sentinel, .sentinel, .sentinel, .sentinel, .sentinel, .sentinel, .sentinel, .sentinel, .sentinel, .sentinel, .sentinel, .sentinel, .sentinel, .sentinel, .sentinel, .sentinel, .sentinel, .sentinel], laidTests := true, laidLooks := .later }
def BreRightCardSaid : Prop := Claim7.holds Tryd.pinned (.plain (OpenSpec.ofChange breRightSpec)) breRightCard

/-- THE TIED CARD OF 'trawllaw06.EreJoins'. -/
def ereJoinsCard : Claim7 := { stood := { row := ereJoinsRow, standIns := [], harness := (true, "6b59126b7c7239eb6991f3d93b828c7eb0ca928c308646c929976d69dabab931"), looks := true }, kinds := [], alts := [], laidByText := true, laidKinds := [.handle, .sentinel, .sentinel, .sentinel, .sentinel, .sentinel, .sentinel, .sentinel, .sentinel, .sentinel, .sentinel, .sentinel, .sentinel, .sentinel, .sentinel, .sentinel, .sentinel, .sentinel, .sentinel, .sentinel, .sentinel, .sentinel], laidTests := true, laidLooks := .later }
def EreJoinsCardSaid : Prop := Claim7.holds Tryd.pinned (.plain (OpenSpec.ofChange ereJoinsSpec)) ereJoinsCard

/-- THE TIED CARD OF 'trawllaw06.EreEscapes'. -/
def ereEscapesCard : Claim7 := { stood := { row := ereEscapesRow, standIns := [], harness := (true, "6b59126b7c7239eb6991f3d93b828c7eb0ca928c308646c929976d69dabab931"), looks := true }, kinds := [], alts := [], laidByText := true, laidKinds := [.handle, .sentinel, .sentinel, .sentinel, .sentinel, .sentinel, .sentinel, .sentinel, .sentinel, .sentinel, .sentinel, .sentinel, .sentinel, .sentinel, .sentinel, .sentinel, .sentinel, .sentinel, .sentinel, .sentinel, .sentinel, .sentinel], laidTests := true, laidLooks := .later }
def EreEscapesCardSaid : Prop := Claim7.holds Tryd.pinned (.plain (OpenSpec.ofChange ereEscapesSpec)) ereEscapesCard

/-- THE TIED CARD OF 'trawllaw06.EreRight'. -/
def ereRightCard : Claim7 := { stood := { row := ereRightRow, standIns := [], harness := (true, "6b59126b7c7239eb6991f3d93b828c7eb0ca928c308646c929976d69dabab931"), looks := true }, kinds := [], alts := [], laidByText := true, laidKinds := [.handle, .sentinel, .sentinel, .sentinel, .sentinel, .sentinel, .sentinel, .sentinel, .sentinel, .sentinel, .sentinel, .sentinel, .sentinel, .sentinel, .sentinel, .sentinel, .sentinel, .sentinel, .sentinel, .sentinel, .sentinel, .sentinel], laidTests := true, laidLooks := .later }
def EreRightCardSaid : Prop := Claim7.holds Tryd.pinned (.plain (OpenSpec.ofChange ereRightSpec)) ereRightCard

/-- THE TIED CARD OF 'trawllaw07.BreLetters'. -/
def breLettersCard : Claim7 := { stood := { row := breLettersRow, standIns := [], harness := (true, "6b59126b7c7239eb6991f3d93b828c7eb0ca928c308646c929976d69dabab931"), looks := true }, kinds := [], alts := [], laidByText := true, laidKinds := [.handle, .sentinel, .sentinel, .sentinel, .sentinel, .sentinel, .sentinel, .sentinel, .sentinel, .sentinel, .sentinel, .sentinel, .sentinel, .sentinel, .sentinel, .sentinel, .sentinel, .sentinel, .sentinel, .sentinel, .sentinel, .sentinel], laidTests := true, laidLooks := .later }
def BreLettersCardSaid : Prop := Claim7.holds Tryd.pinned (.plain (OpenSpec.ofChange breLettersSpec)) breLettersCard

/-- THE SECOND FORM's CARD OF 'trawllaw05.BracketReads'. -/
def bracketReadsUptoCard : Claim7 := { stood := { row := bracketReadsUptoRow, standIns := [], harness := (true, "6b59126b7c7239eb6991f3d93b828c7eb0ca928c308646c929976d69dabab931"), looks := true }, kinds := [], alts := [], laidByText := true, laidKinds := [.handle, .sentinel, .sentinel, .sentinel, .sentinel, .sentinel, .sentinel, .sentinel, .sentinel, .sentinel, .sentinel, .sentinel, .sentinel, .sentinel, .sentinel, .sentinel, .sentinel, .sentinel, .sentinel, .sentinel, .sentinel, .sentinel], laidTests := true, laidLooks := .later }
def BracketReadsUptoCardSaid : Prop := Claim7.holds Tryd.pinned (.plain (OpenSpec.upto bracketReadsSpec)) bracketReadsUptoCard

/-- THE SECOND FORM's CARD OF 'trawllaw05.BracketTurns'. -/
def bracketTurnsUptoCard : Claim7 := { stood := { row := bracketTurnsUptoRow, standIns := [], harness := (true, "6b59126b7c7239eb6991f3d93b828c7eb0ca928c308646c929976d69dabab931"), looks := true }, kinds := [], alts := [], laidByText := true, laidKinds := [.handle, .sentinel, .sentinel, .sentinel, .sentinel, .sentinel, .sentinel, .sentinel, .sentinel, .sentinel, .sentinel, .sentinel, .sentinel, .sentinel, .sentinel, .sentinel, .sentinel, .sentinel, .sentinel, .sentinel, .sentinel, .sentinel], laidTests := true, laidLooks := .later }
def BracketTurnsUptoCardSaid : Prop := Claim7.holds Tryd.pinned (.plain (OpenSpec.upto bracketTurnsSpec)) bracketTurnsUptoCard

/-- THE SECOND FORM's CARD OF 'trawllaw07.BreGroups'. -/
def breGroupsUptoCard : Claim7 := { stood := { row := breGroupsUptoRow, standIns := [], harness := (true, "6b59126b7c7239eb6991f3d93b828c7eb0ca928c308646c929976d69dabab931"), looks := true }, kinds := [], alts := [], laidByText := true, laidKinds := [.handle, .sentinel, .sentinel, .sentinel, .sentinel, .sentinel, .sentinel, .sentinel, .sentinel, .sentinel, .sentinel, .sentinel, .sentinel, .sentinel, .sentinel, .sentinel, .sentinel, .sentinel, .sentinel, .sentinel, .sentinel, .sentinel], laidTests := true, laidLooks := .later }
def BreGroupsUptoCardSaid : Prop := Claim7.holds Tryd.pinned (.plain (OpenSpec.upto breGroupsSpec)) breGroupsUptoCard

/-- THE SECOND FORM's CARD OF 'trawllaw07.BreRight'. -/
def breRightUptoCard : Claim7 := { stood := { row := breRightUptoRow, standIns := [], harness := (true, "6b59126b7c7239eb6991f3d93b828c7eb0ca928c308646c929976d69dabab931"), looks := true }, kinds := [], alts := [], laidByText := true, laidKinds := [.handle, .sentinel, .sentinel, .sentinel, .sentinel, .sentinel, .sentinel, .sentinel, .sentinel, .sentinel, .sentinel, .sentinel, .sentinel, .sentinel, .sentinel, .sentinel, .sentinel, .sentinel, .sentinel, .sentinel, .sentinel, .sentinel], laidTests := true, laidLooks := .later }
def BreRightUptoCardSaid : Prop := Claim7.holds Tryd.pinned (.plain (OpenSpec.upto breRightSpec)) breRightUptoCard

/-- THE SECOND FORM's CARD OF 'trawllaw06.EreJoins'. -/
def ereJoinsUptoCard : Claim7 := { stood := { row := ereJoinsUptoRow, standIns := [], harness := (true, "6b59126b7c7239eb6991f3d93b828c7eb0ca928c308646c929976d69dabab931"), looks := true }, kinds := [], alts := [], laidByText := true, laidKinds := [.handle, .sentinel, .sentinel, .sentinel, .sentinel, .sentinel, .sentinel, .sentinel, .sentinel, .sentinel, .sentinel, .sentinel, .sentinel, .sentinel, .sentinel, .sentinel, .sentinel, .sentinel, .sentinel, .sentinel, .sentinel, .sentinel], laidTests := true, laidLooks := .later }
def EreJoinsUptoCardSaid : Prop := Claim7.holds Tryd.pinned (.plain (OpenSpec.upto ereJoinsSpec)) ereJoinsUptoCard

/-- THE SECOND FORM's CARD OF 'trawllaw06.EreEscapes'. -/
def ereEscapesUptoCard : Claim7 := { stood := { row := ereEscapesUptoRow, standIns := [], harness := (true, "6b59126b7c7239eb6991f3d93b828c7eb0ca928c308646c929976d69dabab931"), looks := true }, kinds := [], alts := [], laidByText := true, laidKinds := [.handle, .sentinel, .sentinel, .sentinel, .sentinel, .sentinel, .sentinel, .sentinel, .sentinel, .sentinel, .sentinel, .sentinel, .sentinel, .sentinel, .sentinel, .sentinel, .sentinel, .sentinel, .sentinel, .sentinel, .sentinel, .sentinel], laidTests := true, laidLooks := .later }
def EreEscapesUptoCardSaid : Prop := Claim7.holds Tryd.pinned (.plain (OpenSpec.upto ereEscapesSpec)) ereEscapesUptoCard

/-- THE SECOND FORM's CARD OF 'trawllaw06.EreRight'. -/
def ereRightUptoCard : Claim7 := { stood := { row := ereRightUptoRow, standIns := [], harness := (true, "6b59126b7c7239eb6991f3d93b828c7eb0ca928c308646c929976d69dabab931"), looks := true }, kinds := [], alts := [], laidByText := true, laidKinds := [.handle, .sentinel, .sentinel, .sentinel, .sentinel, .sentinel, .sentinel, .sentinel, .sentinel, .sentinel, .sentinel, .sentinel, .sentinel, .sentinel, .sentinel, .sentinel, .sentinel, .sentinel, .sentinel, .sentinel, .sentinel, .sentinel], laidTests := true, laidLooks := .later }
def EreRightUptoCardSaid : Prop := Claim7.holds Tryd.pinned (.plain (OpenSpec.upto ereRightSpec)) ereRightUptoCard

/-- THE SECOND FORM's CARD OF 'trawllaw07.BreLetters'. -/
def breLettersUptoCard : Claim7 := { stood := { row := breLettersUptoRow, standIns := [], harness := (true, "6b59126b7c7239eb6991f3d93b828c7eb0ca928c308646c929976d69dabab931"), looks := true }, kinds := [], alts := [], laidByText := true, laidKinds := [.handle, .sentinel, .sentinel, .sentinel, .sentinel, .sentinel, .sentinel, .sentinel, .sentinel, .sentinel, .sentinel, .sentinel, .sentinel, .sentinel, .sentinel, .sentinel, .sentinel, .sentinel, .sentinel, .sentinel, .sentinel, .sentinel], laidTests := true, laidLooks := .later }
def BreLettersUptoCardSaid : Prop := Claim7.holds Tryd.pinned (.plain (OpenSpec.upto breLettersSpec)) breLettersUptoCard
end Rows
end Go.Proofs.YtdkonfdhedcajaaDoor
