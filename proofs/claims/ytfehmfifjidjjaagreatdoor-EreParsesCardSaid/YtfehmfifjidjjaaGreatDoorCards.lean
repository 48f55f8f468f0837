/-
  DERIVED. GIVEN WITH THE SEED: THE CARDS: each row of YtfehmfifjidjjaaGreatDoorRows.lean that lists a variable, with what it lists TIED to the program's text (the seventh form; the later family's looks); each row that meets fmt, with fmt's text TOLD by the authors' own Lean function (tested against real Go, not proved from fmt's source: count such statements apart). THE CARD IS WHAT COUNTS. Prove the row's statement (the work); the ties are given (YtfehmfifjidjjaaGreatDoorTie.lean); close each card by the builder's one call (the guide's Derived/Test/ToyasCard.lean, 'card_holds'). Laid BY PROGRAM, IN A SANDBOX (cutbox-door.mjs). By AI agents, Wed Nov 11 2026. No macro, syntax, notation, axiom, sorry.
-/
import Derived.Test.YtfehmfifjidjjaaGreatDoorRows
import GoSem.ClaimSeven
namespace Go.Proofs.YtfehmfifjidjjaaGreatDoor
namespace Rows

/-- THE TIED CARD OF 'trawllaw08.SpellTexts'. -/
def spellTextsCard : Claim7 := { stood := { row := spellTextsRow, standIns := [], harness := (true, "6da8bd147b29a43763a5e9c45ce4d8954bfde07644c3b6e93ac9f919a79656df"), looks := true }, kinds := [], alts := [], laidByText := true, laidKinds := [.data, .data, .data, .sentinel, .sentinel, .sentinel, .sentinel, .sentinel, .sentinel, .sentinel, .sentinel, .sentinel, .sentinel, .sentinel, .sentinel, .sentinel, .sentinel, .sentinel, .sentinel, .sentinel, .sentinel, .sentinel, .sentinel, .sentinel], laidTests := true, laidLooks := .later }
def SpellTextsCardSaid : Prop := Claim7.holds Tryz.pinned (.plain (OpenSpec.ofChange spellTextsSpec)) spellTextsCard

/-- THE TIED CARD OF 'trawllaw07.BreParses'. -/
def breParsesCard : Claim7 := { stood := { row := breParsesRow, standIns := [], harness := (true, "6da8bd147b29a43763a5e9c45ce4d8954bfde07644c3b6e93ac9f919a79656df"), looks := true }, kinds := [], alts := [], laidByText := true, laidKinds := [.handle, .sentinel, .sentinel, .sentinel, .sentinel, .sentinel, .sentinel, .sentinel, .sentinel, .sentinel, .sentinel, .sentinel, .sentinel, .sentinel, .sentinel, .sentinel, .sentinel, .sentinel, .sentinel, .sentinel, .sentinel, .sentinel], laidTests := true, laidLooks := .later }
def BreParsesCardSaid : Prop := Claim7.holds Tryz.pinned (.plain (OpenSpec.ofChange breParsesSpec)) breParsesCard

/-- THE TIED CARD OF 'trawllaw06.EreParses'. -/
def ereParsesCard : Claim7 := { stood := { row := ereParsesRow, standIns := [], harness := (true, "6da8bd147b29a43763a5e9c45ce4d8954bfde07644c3b6e93ac9f919a79656df"), looks := true }, kinds := [], alts := [], laidByText := true, laidKinds := [.handle, .sentinel, .sentinel, .sentinel, .sentinel, .sentinel, .sentinel, .sentinel, .sentinel, .sentinel, .sentinel, .sentinel, .sentinel, .sentinel, .sentinel, .sentinel, .sentinel, .sentinel, .sentinel, .sentinel, .sentinel, .sentinel], laidTests := true, laidLooks := .later }
def EreParsesCardSaid : Prop := Claim7.holds Tryz.pinned (.plain (OpenSpec.ofChange ereParsesSpec)) ereParsesCard

/-- THE SECOND FORM's CARD OF 'trawllaw08.SpellTexts'. -/
def spellTextsUptoCard : Claim7 := { stood := { row := spellTextsUptoRow, standIns := [], harness := (true, "6da8bd147b29a43763a5e9c45ce4d8954bfde07644c3b6e93ac9f919a79656df"), looks := true }, kinds := [], alts := [], laidByText := true, laidKinds := [.data, .data, .data, .sentinel, .sentinel, .sentinel, .sentinel, .sentinel, .sentinel, .sentinel, .sentinel, .sentinel, .sentinel, .sentinel, .sentinel, .sentinel, .sentinel, .sentinel, .sentinel, .sentinel, .sentinel, .sentinel, .sentinel, .sentinel], laidTests := true, laidLooks := .later }
def SpellTextsUptoCardSaid : Prop := Claim7.holds Tryz.pinned (.plain (OpenSpec.upto spellTextsSpec)) spellTextsUptoCard

/-- THE SECOND FORM's CARD OF 'trawllaw07.BreParses'. -/
def breParsesUptoCard : Claim7 := { stood := { row := breParsesUptoRow, standIns := [], harness := (true, "6da8bd147b29a43763a5e9c45ce4d8954bfde07644c3b6e93ac9f919a79656df"), looks := true }, kinds := [], alts := [], laidByText := true, laidKinds := [.handle, .sentinel, .sentinel, .sentinel, .sentinel, .sentinel, .sentinel, .sentinel, .sentinel, .sentinel, .sentinel, .sentinel, .sentinel, .sentinel, .sentinel, .sentinel, .sentinel, .sentinel, .sentinel, .sentinel, .sentinel, .sentinel], laidTests := true, laidLooks := .later }
def BreParsesUptoCardSaid : Prop := Claim7.holds Tryz.pinned (.plain (OpenSpec.upto breParsesSpec)) breParsesUptoCard

/-- THE SECOND FORM's CARD OF 'trawllaw06.EreParses'. -/
def ereParsesUptoCard : Claim7 := { stood := { row := ereParsesUptoRow, standIns := [], harness := (true, "6da8bd147b29a43763a5e9c45ce4d8954bfde07644c3b6e93ac9f919a79656df"), looks := true }, kinds := [], alts := [], laidByText := true, laidKinds := [.handle, .sentinel, .sentinel, .sentinel, .sentinel, .sentinel, .sentinel, .sentinel, .sentinel, .sentinel, .sentinel, .sentinel, .sentinel, .sentinel, .sentinel, .sentinel, .sentinel, .sentinel, .sentinel, .sentinel, .sentinel, .sentinel], laidTests := true, laidLooks := .later }
def EreParsesUptoCardSaid : Prop := Claim7.holds Tryz.pinned (.plain (OpenSpec.upto ereParsesSpec)) ereParsesUptoCard
end Rows
end Go.Proofs.YtfehmfifjidjjaaGreatDoor
