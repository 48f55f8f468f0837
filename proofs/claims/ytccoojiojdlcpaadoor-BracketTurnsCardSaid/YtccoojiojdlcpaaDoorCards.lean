/-
  DERIVED. GIVEN WITH THE SEED: THE CARDS: each row of YtccoojiojdlcpaaDoorRows.lean that lists a variable, with what it lists TIED to the program's text (the seventh form; the later family's looks); each row that meets fmt, with fmt's text TOLD by the authors' own Lean function (tested against real Go, not proved from fmt's source: count such statements apart). THE CARD IS WHAT COUNTS. Prove the row's statement (the work); the ties are given (YtccoojiojdlcpaaDoorTie.lean); close each card by the builder's one call (the guide's Derived/Test/ToyasCard.lean, 'card_holds'). Laid BY PROGRAM, IN A SANDBOX (cutbox-door.mjs). By AI agents, Wed Nov 11 2026. No macro, syntax, notation, axiom, sorry.
-/
import Derived.Test.YtccoojiojdlcpaaDoorRows
import GoSem.ClaimSeven
namespace Go.Proofs.YtccoojiojdlcpaaDoor
namespace Rows

/-- THE TIED CARD OF 'trawllaw05.BracketReads'. -/
def bracketReadsCard : Claim7 := { stood := { row := bracketReadsRow, standIns := [], harness := (true, "78304402bfc889d37fdad09fc316591c5fb6ac94479dfd06b90f38fb4138b7af"), looks := true }, kinds := [], alts := [], laidByText := true, laidKinds := [.handle, .sentinel, .sentinel, .sentinel, .sentinel, .sentinel, .sentinel, .sentinel, .sentinel, .sentinel, .sentinel, .sentinel, .sentinel, .sentinel, .sentinel, .sentinel, .sentinel, .sentinel, .sentinel, .sentinel, .sentinel, .sentinel], laidTests := true, laidLooks := .later }
def BracketReadsCardSaid : Prop := Claim7.holds Tryd.pinned (.plain (OpenSpec.ofChange bracketReadsSpec)) bracketReadsCard

/-- THE TIED CARD OF 'trawllaw05.BracketTurns'. -/
def bracketTurnsCard : Claim7 := { stood := { row := bracketTurnsRow, standIns := [], harness := (true, "78304402bfc889d37fdad09fc316591c5fb6ac94479dfd06b90f38fb4138b7af"), looks := true }, kinds := [], alts := [], laidByText := true, laidKinds := [.handle, .sentinel, .sentinel, .sentinel, .sentinel, .sentinel, .sentinel, .sentinel, .sentinel, .sentinel, .sentinel, .sentinel, .sentinel, .sentinel, .sentinel, .sentinel, .sentinel, .sentinel, .sentinel, .sentinel, .sentinel, .sentinel], laidTests := true, laidLooks := .later }
def BracketTurnsCardSaid : Prop := Claim7.holds Tryd.pinned (.plain (OpenSpec.ofChange bracketTurnsSpec)) bracketTurnsCard

/-- THE SECOND FORM's CARD OF 'trawllaw05.BracketReads'. -/
def bracketReadsUptoCard : Claim7 := { stood := { row := bracketReadsUptoRow, standIns := [], harness := (true, "78304402bfc889d37fdad09fc316591c5fb6ac94479dfd06b90f38fb4138b7af"), looks := true }, kinds := [], alts := [], laidByText := true, laidKinds := [.handle, .sentinel, .sentinel, .sentinel, .sentinel, .sentinel, .sentinel, .sentinel, .sentinel, .sentinel, .sentinel, .sentinel, .sentinel, .sentinel, .sentinel, .sentinel, .sentinel, .sentinel, .sentinel, .sentinel, .sentinel, .sentinel], laidTests := true, laidLooks := .later }
def BracketReadsUptoCardSaid : Prop := Claim7.holds Tryd.pinned (.plain (OpenSpec.upto bracketReadsSpec)) bracketReadsUptoCard

/-- THE SECOND FORM's CARD OF 'trawllaw05.BracketTurns'. -/
def bracketTurnsUptoCard : Claim7 := { stood := { row := bracketTurnsUptoRow, standIns := [], harness := (true, "78304402bfc889d37fdad09fc316591c5fb6ac94479dfd06b90f38fb4138b7af"), looks := true }, kinds := [], alts := [], laidByText := true, laidKinds := [.handle, .sentinel, .sentinel, .sentinel, .sentinel, .sentinel, .sentinel, .sentinel, .sentinel, .sentinel, .sentinel, .sentinel, .sentinel, .sentinel, .sentinel, .sentinel, .sentinel, .sentinel, .sentinel, .sentinel, .sentinel, .sentinel], laidTests := true, laidLooks := .later }
def BracketTurnsUptoCardSaid : Prop := Claim7.holds Tryd.pinned (.plain (OpenSpec.upto bracketTurnsSpec)) bracketTurnsUptoCard
end Rows
end Go.Proofs.YtccoojiojdlcpaaDoor
