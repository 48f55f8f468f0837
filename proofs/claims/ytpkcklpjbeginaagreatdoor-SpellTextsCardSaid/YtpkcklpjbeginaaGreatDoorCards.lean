/-
  DERIVED. GIVEN WITH THE SEED: THE CARDS: each row of YtpkcklpjbeginaaGreatDoorRows.lean that lists a variable, with what it lists TIED to the program's text (the seventh form; the later family's looks); each row that meets fmt, with fmt's text TOLD by the authors' own Lean function (tested against real Go, not proved from fmt's source: count such statements apart). THE CARD IS WHAT COUNTS. Prove the row's statement (the work); the ties are given (YtpkcklpjbeginaaGreatDoorTie.lean); close each card by the builder's one call (the guide's Derived/Test/ToyasCard.lean, 'card_holds'). Laid BY PROGRAM, IN A SANDBOX (cutbox-door.mjs). By AI agents, Wed Nov 11 2026. No macro, syntax, notation, axiom, sorry.
-/
import Derived.Test.YtpkcklpjbeginaaGreatDoorRows
import GoSem.ClaimSeven
namespace Go.Proofs.YtpkcklpjbeginaaGreatDoor
namespace Rows

/-- THE TIED CARD OF 'trawllaw08.SpellTexts'. -/
def spellTextsCard : Claim7 := { stood := { row := spellTextsRow, standIns := [], harness := (true, "a574a3045bc862e2124f3182c856300a68cc4ba692fcd3092e167b622de8492f"), looks := true }, kinds := [], alts := [], laidByText := true, laidKinds := [.data, .data, .data, .sentinel, .sentinel, .sentinel, .sentinel, .sentinel, .sentinel, .sentinel, .sentinel, .sentinel, .sentinel, .sentinel, .sentinel, .sentinel, .sentinel, .sentinel, .sentinel, .sentinel, .sentinel, .sentinel, .sentinel, .sentinel], laidTests := true, laidLooks := .later }
def SpellTextsCardSaid : Prop := Claim7.holds Tryz.pinned (.plain (OpenSpec.ofChange spellTextsSpec)) spellTextsCard

/-- THE TIED CARD OF 'trawllaw07.BreParses'. -/
def breParsesCard : Claim7 := { stood := { row := breParsesRow, standIns := [], harness := (true, "a574a3045bc862e2124f3182c856300a68cc4ba692fcd3092e167b622de8492f"), looks := true }, kinds := [], alts := [], laidByText := true, laidKinds := [.handle, .sentinel, .sentinel, .sentinel, .sentinel, .sentinel, .sentinel, .sentinel, .sentinel, .sentinel, .sentinel, .sentinel, .sentinel, .sentinel, .sentinel, .sentinel, .sentinel, .sentinel, .sentinel, .sentinel, .sentinel, .sentinel], laidTests := true, laidLooks := .later }
def BreParsesCardSaid : Prop := Claim7.holds Tryz.pinned (.plain (OpenSpec.ofChange breParsesSpec)) breParsesCard

/-- THE TIED CARD OF 'trawllaw08.SpellReads'. -/
def spellReadsCard : Claim7 := { stood := { row := spellReadsRow, standIns := [], harness := (true, "a574a3045bc862e2124f3182c856300a68cc4ba692fcd3092e167b622de8492f"), looks := true }, kinds := [], alts := [], laidByText := true, laidKinds := [.data, .data, .data, .sentinel, .sentinel, .sentinel, .sentinel, .sentinel, .sentinel, .sentinel, .sentinel, .sentinel, .sentinel, .sentinel, .sentinel, .sentinel, .sentinel, .sentinel, .sentinel, .sentinel, .sentinel, .sentinel, .sentinel, .sentinel], laidTests := true, laidLooks := .later }
def SpellReadsCardSaid : Prop := Claim7.holds Tryz.pinned (.plain (OpenSpec.ofChange spellReadsSpec)) spellReadsCard

/-- THE TIED CARD OF 'trawllaw08.SpellQuotes'. -/
def spellQuotesCard : Claim7 := { stood := { row := spellQuotesRow, standIns := [], harness := (true, "a574a3045bc862e2124f3182c856300a68cc4ba692fcd3092e167b622de8492f"), looks := true }, kinds := [], alts := [], laidByText := true, laidKinds := [.data, .data, .data, .sentinel, .sentinel, .sentinel, .sentinel, .sentinel, .sentinel, .sentinel, .sentinel, .sentinel, .sentinel, .sentinel, .sentinel, .sentinel, .sentinel, .sentinel, .sentinel, .sentinel, .sentinel, .sentinel, .sentinel, .sentinel], laidTests := true, laidLooks := .later }
def SpellQuotesCardSaid : Prop := Claim7.holds Tryz.pinned (.plain (OpenSpec.ofChange spellQuotesSpec)) spellQuotesCard

/-- THE SECOND FORM's CARD OF 'trawllaw08.SpellTexts'. -/
def spellTextsUptoCard : Claim7 := { stood := { row := spellTextsUptoRow, standIns := [], harness := (true, "a574a3045bc862e2124f3182c856300a68cc4ba692fcd3092e167b622de8492f"), looks := true }, kinds := [], alts := [], laidByText := true, laidKinds := [.data, .data, .data, .sentinel, .sentinel, .sentinel, .sentinel, .sentinel, .sentinel, .sentinel, .sentinel, .sentinel, .sentinel, .sentinel, .sentinel, .sentinel, .sentinel, .sentinel, .sentinel, .sentinel, .sentinel, .sentinel, .sentinel, .sentinel], laidTests := true, laidLooks := .later }
def SpellTextsUptoCardSaid : Prop := Claim7.holds Tryz.pinned (.plain (OpenSpec.upto spellTextsSpec)) spellTextsUptoCard

/-- THE SECOND FORM's CARD OF 'trawllaw07.BreParses'. -/
def breParsesUptoCard : Claim7 := { stood := { row := breParsesUptoRow, standIns := [], harness := (true, "a574a3045bc862e2124f3182c856300a68cc4ba692fcd3092e167b622de8492f"), looks := true }, kinds := [], alts := [], laidByText := true, laidKinds := [.handle, .sentinel, .sentinel, .sentinel, .sentinel, .sentinel, .sentinel, .sentinel, .sentinel, .sentinel, .sentinel, .sentinel, .sentinel, .sentinel, .sentinel, .sentinel, .sentinel, .sentinel, .sentinel, .sentinel, .sentinel, .sentinel], laidTests := true, laidLooks := .later }
def BreParsesUptoCardSaid : Prop := Claim7.holds Tryz.pinned (.plain (OpenSpec.upto breParsesSpec)) breParsesUptoCard

/-- THE SECOND FORM's CARD OF 'trawllaw08.SpellReads'. -/
def spellReadsUptoCard : Claim7 := { stood := { row := spellReadsUptoRow, standIns := [], harness := (true, "a574a3045bc862e2124f3182c856300a68cc4ba692fcd3092e167b622de8492f"), looks := true }, kinds := [], alts := [], laidByText := true, laidKinds := [.data, .data, .data, .sentinel, .sentinel, .sentinel, .sentinel, .sentinel, .sentinel, .sentinel, .sentinel, .sentinel, .sentinel, .sentinel, .sentinel, .sentinel, .sentinel, .sentinel, .sentinel, .sentinel, .sentinel, .sentinel, .sentinel, .sentinel], laidTests := true, laidLooks := .later }
def SpellReadsUptoCardSaid : Prop := Claim7.holds Tryz.pinned (.plain (OpenSpec.upto spellReadsSpec)) spellReadsUptoCard

/-- THE SECOND FORM's CARD OF 'trawllaw08.SpellQuotes'. -/
def spellQuotesUptoCard : Claim7 := { stood := { row := spellQuotesUptoRow, standIns := [], harness := (true, "a574a3045bc862e2124f3182c856300a68cc4ba692fcd3092e167b622de8492f"), looks := true }, kinds := [], alts := [], laidByText := true, laidKinds := [.data, .data, .data, .sentinel, .sentinel, .sentinel, .sentinel, .sentinel, .sentinel, .sentinel, .sentinel, .sentinel, .sentinel, .sentinel, .sentinel, .sentinel, .sentinel, .sentinel, .sentinel, .sentinel, .sentinel, .sentinel, .sentinel, .sentinel], laidTests := true, laidLooks := .later }
def SpellQuotesUptoCardSaid : Prop := Claim7.holds Tryz.pinned (.plain (OpenSpec.upto spellQuotesSpec)) spellQuotesUptoCard
end Rows
end Go.Proofs.YtpkcklpjbeginaaGreatDoor
