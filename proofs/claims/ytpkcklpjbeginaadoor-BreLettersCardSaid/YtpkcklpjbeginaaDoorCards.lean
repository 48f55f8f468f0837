/-
  DERIVED. GIVEN WITH THE SEED: THE CARDS: each row of YtpkcklpjbeginaaDoorRows.lean that lists a variable, with what it lists TIED to the program's text (the seventh form; the later family's looks); each row that meets fmt, with fmt's text TOLD by the authors' own Lean function (tested against real Go, not proved from fmt's source: count such statements apart). THE CARD IS WHAT COUNTS. Prove the row's statement (the work); the ties are given (YtpkcklpjbeginaaDoorTie.lean); close each card by the builder's one call (the guide's Derived/Test/ToyasCard.lean, 'card_holds'). Laid BY PROGRAM, IN A SANDBOX (cutbox-door.mjs). By AI agents, Wed Nov 11 2026. No macro, syntax, notation, axiom, sorry.
-/
import Derived.Test.YtpkcklpjbeginaaDoorRows
import GoSem.ClaimSeven
namespace Go.Proofs.YtpkcklpjbeginaaDoor
namespace Rows

/-- THE TIED CARD OF 'trawllaw07.BreGroups'. -/
def breGroupsCard : Claim7 := { stood := { row := breGroupsRow, standIns := [], harness := (true, "7e648d55419a66c7d83f43289b4b77c540d58c22308eba472060ab45b03042e0"), looks := true }, kinds := [], alts := [], laidByText := true, laidKinds := [.handle, .sentinel, .sentinel, .sentinel, .sentinel, .sentinel, .sentinel, .sentinel, .sentinel, .sentinel, .sentinel, .sentinel, .sentinel, .sentinel, .sentinel, .sentinel, .sentinel, .sentinel, .sentinel, .sentinel, .sentinel, .sentinel], laidTests := true, laidLooks := .later }
def BreGroupsCardSaid : Prop := Claim7.holds Tryd.pinned (.plain (OpenSpec.ofChange breGroupsSpec)) breGroupsCard

/-- THE TIED CARD OF 'trawllaw07.BreLetters'. -/
def breLettersCard : Claim7 := { stood := { row := breLettersRow, standIns := [], harness := (true, "7e648d55419a66c7d83f43289b4b77c540d58c22308eba472060ab45b03042e0"), looks := true }, kinds := [], alts := [], laidByText := true, laidKinds := [.handle, .sentinel, .sentinel, .sentinel, .sentinel, .sentinel, .sentinel, .sentinel, .sentinel, .sentinel, .sentinel, .sentinel, .sentinel, .sentinel, .sentinel, .sentinel, .sentinel, .sentinel, .sentinel, .sentinel, .sentinel, .sentinel], laidTests := true, laidLooks := .later }
def BreLettersCardSaid : Prop := Claim7.holds Tryd.pinned (.plain (OpenSpec.ofChange breLettersSpec)) breLettersCard

/-- THE SECOND FORM's CARD OF 'trawllaw07.BreGroups'. -/
def breGroupsUptoCard : Claim7 := { stood := { row := breGroupsUptoRow, standIns := [], harness := (true, "7e648d55419a66c7d83f43289b4b77c540d58c22308eba472060ab45b03042e0"), looks := true }, kinds := [], alts := [], laidByText := true, laidKinds := [.handle, .sentinel, .sentinel, .sentinel, .sentinel, .sentinel, .sentinel, .sentinel, .sentinel, .sentinel, .sentinel, .sentinel, .sentinel, .sentinel, .sentinel, .sentinel, .sentinel, .sentinel, .sentinel, .sentinel, .sentinel, .sentinel], laidTests := true, laidLooks := .later }
def BreGroupsUptoCardSaid : Prop := Claim7.holds Tryd.pinned (.plain (OpenSpec.upto breGroupsSpec)) breGroupsUptoCard

/-- THE SECOND FORM's CARD OF 'trawllaw07.BreLetters'. -/
def breLettersUptoCard : Claim7 := { stood := { row := breLettersUptoRow, standIns := [], harness := (true, "7e648d55419a66c7d83f43289b4b77c540d58c22308eba472060ab45b03042e0"), looks := true }, kinds := [], alts := [], laidByText := true, laidKinds := [.handle, .sentinel, .sentinel, .sentinel, .sentinel, .sentinel, .sentinel, .sentinel, .sentinel, .sentinel, .sentinel, .sentinel, .sentinel, .sentinel, .sentinel, .sentinel, .sentinel, .sentinel, .sentinel, .sentinel, .sentinel, .sentinel], laidTests := true, laidLooks := .later }
def BreLettersUptoCardSaid : Prop := Claim7.holds Tryd.pinned (.plain (OpenSpec.upto breLettersSpec)) breLettersUptoCard
end Rows
end Go.Proofs.YtpkcklpjbeginaaDoor
