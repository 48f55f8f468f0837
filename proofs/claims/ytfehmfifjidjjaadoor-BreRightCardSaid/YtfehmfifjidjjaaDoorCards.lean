/-
  DERIVED. GIVEN WITH THE SEED: THE CARDS: each row of YtfehmfifjidjjaaDoorRows.lean that lists a variable, with what it lists TIED to the program's text (the seventh form; the later family's looks); each row that meets fmt, with fmt's text TOLD by the authors' own Lean function (tested against real Go, not proved from fmt's source: count such statements apart). THE CARD IS WHAT COUNTS. Prove the row's statement (the work); the ties are given (YtfehmfifjidjjaaDoorTie.lean); close each card by the builder's one call (the guide's Derived/Test/ToyasCard.lean, 'card_holds'). Laid BY PROGRAM, IN A SANDBOX (cutbox-door.mjs). By AI agents, Wed Nov 11 2026. No macro, syntax, notation, axiom, sorry.
-/
import Derived.Test.YtfehmfifjidjjaaDoorRows
import GoSem.ClaimSeven
namespace Go.Proofs.YtfehmfifjidjjaaDoor
namespace Rows

/-- THE TIED CARD OF 'trawllaw07.BreRight'. -/
def breRightCard : Claim7 := { stood := { row := breRightRow, standIns := [], harness := (true, "5c84c1f458e21b3983e044ab8c222b993b853c0c893db93d44392f16076e4454"), looks := true }, kinds := [], alts := [], laidByText := true, laidKinds := [.handle, .sentinel, .sentinel, .sentinel, .sentinel, .sentinel, .sentinel, .sentinel, .sentinel, .sentinel, .sentinel, .sentinel, .sentinel, .sentinel, .sentinel, .sentinel, .sentinel, .sentinel, .sentinel, .sentinel, .sentinel, .sentinel], laidTests := true, laidLooks := .later }
def BreRightCardSaid : Prop := Claim7.holds Tryd.pinned (.plain (OpenSpec.ofChange breRightSpec)) breRightCard

/-- THE TIED CARD OF 'trawllaw06.EreJoins'. -/
def ereJoinsCard : Claim7 := { stood := { row := ereJoinsRow, standIns := [], harness := (true, "5c84c1f458e21b3983e044ab8c222b993b853c0c893db93d44392f16076e4454"), looks := true }, kinds := [], alts := [], laidByText := true, laidKinds := [.handle, .sentinel, .sentinel, .sentinel, .sentinel, .sentinel, .sentinel, .sentinel, .sentinel, .sentinel, .sentinel, .sentinel, .sentinel, .sentinel, .sentinel, .sentinel, .sentinel, .sentinel, .sentinel, .sentinel, .sentinel, .sentinel], laidTests := true, laidLooks := .later }
def EreJoinsCardSaid : Prop := Claim7.holds Tryd.pinned (.plain (OpenSpec.ofChange ereJoinsSpec)) ereJoinsCard

/-- THE SECOND FORM's CARD OF 'trawllaw07.BreRight'. -/
def breRightUptoCard : Claim7 := { stood := { row := breRightUptoRow, standIns := [], harness := (true, "5c84c1f458e21b3983e044ab8c222b993b853c0c893db93d44392f16076e4454"), looks := true }, kinds := [], alts := [], laidByText := true, laidKinds := [.handle, .sentinel, .sentinel, .sentinel, .sentinel, .sentinel, .sentinel, .sentinel, .sentinel, .sentinel, .sentinel, .sentinel, .sentinel, .sentinel, .sentinel, .sentinel, .sentinel, .sentinel, .sentinel, .sentinel, .sentinel, .sentinel], laidTests := true, laidLooks := .later }
def BreRightUptoCardSaid : Prop := Claim7.holds Tryd.pinned (.plain (OpenSpec.upto breRightSpec)) breRightUptoCard

/-- THE SECOND FORM's CARD OF 'trawllaw06.EreJoins'. -/
def ereJoinsUptoCard : Claim7 := { stood := { row := ereJoinsUptoRow, standIns := [], harness := (true, "5c84c1f458e21b3983e044ab8c222b993b853c0c893db93d44392f16076e4454"), looks := true }, kinds := [], alts := [], laidByText := true, laidKinds := [.handle, .sentinel, .sentinel, .sentinel, .sentinel, .sentinel, .sentinel, .sentinel, .sentinel, .sentinel, .sentinel, .sentinel, .sentinel, .sentinel, .sentinel, .sentinel, .sentinel, .sentinel, .sentinel, .sentinel, .sentinel, .sentinel], laidTests := true, laidLooks := .later }
def EreJoinsUptoCardSaid : Prop := Claim7.holds Tryd.pinned (.plain (OpenSpec.upto ereJoinsSpec)) ereJoinsUptoCard
end Rows
end Go.Proofs.YtfehmfifjidjjaaDoor
