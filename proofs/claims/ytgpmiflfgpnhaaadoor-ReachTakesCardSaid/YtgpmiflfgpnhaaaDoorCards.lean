/-
  DERIVED. GIVEN WITH THE SEED: THE CARDS: each row of YtgpmiflfgpnhaaaDoorRows.lean that lists a variable, with what it lists TIED to the program's text (the seventh form; the later family's looks); each row that meets fmt, with fmt's text TOLD by the authors' own Lean function (tested against real Go, not proved from fmt's source: count such statements apart). THE CARD IS WHAT COUNTS. Prove the row's statement (the work); the ties are given (YtgpmiflfgpnhaaaDoorTie.lean); close each card by the builder's one call (the guide's Derived/Test/ToyasCard.lean, 'card_holds'). Laid BY PROGRAM, IN A SANDBOX (cutbox-door.mjs). By AI agents, Wed Nov 11 2026. No macro, syntax, notation, axiom, sorry.
-/
import Derived.Test.YtgpmiflfgpnhaaaDoorRows
import GoSem.ClaimSeven
namespace Go.Proofs.YtgpmiflfgpnhaaaDoor
namespace Rows

/-- THE TIED CARD OF 'trawllaw18.WalkEnds'. -/
def walkEndsCard : Claim7 := { stood := { row := walkEndsRow, standIns := [], harness := (true, "5ee5aabd645f1d9f3aa62702257024a738f5bb808d4853d9aaa3714e71b0d24b"), looks := true }, kinds := [], alts := [], laidByText := true, laidKinds := [.sentinel, .sentinel, .sentinel, .sentinel, .sentinel, .sentinel, .sentinel, .sentinel, .sentinel, .sentinel, .sentinel, .sentinel, .sentinel, .sentinel, .sentinel, .sentinel, .sentinel, .sentinel, .sentinel, .sentinel, .sentinel], laidTests := true, laidLooks := .later }
def WalkEndsCardSaid : Prop := Claim7.holds Tryd.pinned (.plain (OpenSpec.ofChange walkEndsSpec)) walkEndsCard

/-- THE TIED CARD OF 'trawllaw11.ReachRounds'. -/
def reachRoundsCard : Claim7 := { stood := { row := reachRoundsRow, standIns := [], harness := (true, "5ee5aabd645f1d9f3aa62702257024a738f5bb808d4853d9aaa3714e71b0d24b"), looks := true }, kinds := [], alts := [], laidByText := true, laidKinds := [.data, .sentinel, .sentinel, .sentinel, .sentinel, .sentinel], laidTests := true, laidLooks := .later }
def ReachRoundsCardSaid : Prop := Claim7.holds Tryd.pinned (.plain (OpenSpec.ofChange reachRoundsSpec)) reachRoundsCard

/-- THE TIED CARD OF 'trawllaw18.WalkStarts'. -/
def walkStartsCard : Claim7 := { stood := { row := walkStartsRow, standIns := [], harness := (true, "5ee5aabd645f1d9f3aa62702257024a738f5bb808d4853d9aaa3714e71b0d24b"), looks := true }, kinds := [], alts := [], laidByText := true, laidKinds := [.sentinel, .sentinel, .sentinel, .sentinel, .sentinel, .sentinel, .sentinel, .sentinel, .sentinel, .sentinel, .sentinel, .sentinel, .sentinel, .sentinel, .sentinel, .sentinel, .sentinel, .sentinel, .sentinel, .sentinel, .sentinel], laidTests := true, laidLooks := .later }
def WalkStartsCardSaid : Prop := Claim7.holds Tryd.pinned (.plain (OpenSpec.ofChange walkStartsSpec)) walkStartsCard

/-- THE TIED CARD OF 'trawllaw18.WalkTogether'. -/
def walkTogetherCard : Claim7 := { stood := { row := walkTogetherRow, standIns := [], harness := (true, "5ee5aabd645f1d9f3aa62702257024a738f5bb808d4853d9aaa3714e71b0d24b"), looks := true }, kinds := [], alts := [], laidByText := true, laidKinds := [.sentinel, .sentinel, .sentinel, .sentinel, .sentinel, .sentinel, .sentinel, .sentinel, .sentinel, .sentinel, .sentinel, .sentinel, .sentinel, .sentinel, .sentinel, .sentinel, .sentinel, .sentinel, .sentinel, .sentinel, .sentinel], laidTests := true, laidLooks := .later }
def WalkTogetherCardSaid : Prop := Claim7.holds Tryd.pinned (.plain (OpenSpec.ofChange walkTogetherSpec)) walkTogetherCard

/-- THE TIED CARD OF 'trawllaw11.ReachParts'. -/
def reachPartsCard : Claim7 := { stood := { row := reachPartsRow, standIns := [], harness := (true, "5ee5aabd645f1d9f3aa62702257024a738f5bb808d4853d9aaa3714e71b0d24b"), looks := true }, kinds := [], alts := [], laidByText := true, laidKinds := [.data, .sentinel, .sentinel, .sentinel, .sentinel, .sentinel], laidTests := true, laidLooks := .later }
def ReachPartsCardSaid : Prop := Claim7.holds Tryd.pinned (.plain (OpenSpec.ofChange reachPartsSpec)) reachPartsCard

/-- THE TIED CARD OF 'trawllaw11.ReachEnds'. -/
def reachEndsCard : Claim7 := { stood := { row := reachEndsRow, standIns := [], harness := (true, "5ee5aabd645f1d9f3aa62702257024a738f5bb808d4853d9aaa3714e71b0d24b"), looks := true }, kinds := [], alts := [], laidByText := true, laidKinds := [.data, .sentinel, .sentinel, .sentinel, .sentinel, .sentinel, .sentinel, .sentinel, .sentinel, .sentinel, .sentinel, .sentinel, .sentinel, .sentinel, .sentinel, .sentinel, .sentinel, .sentinel, .sentinel, .sentinel, .sentinel, .sentinel], laidTests := true, laidLooks := .later }
def ReachEndsCardSaid : Prop := Claim7.holds Tryd.pinned (.plain (OpenSpec.ofChange reachEndsSpec)) reachEndsCard

/-- THE TIED CARD OF 'trawllaw11.ReachTakes'. -/
def reachTakesCard : Claim7 := { stood := { row := reachTakesRow, standIns := [], harness := (true, "5ee5aabd645f1d9f3aa62702257024a738f5bb808d4853d9aaa3714e71b0d24b"), looks := true }, kinds := [], alts := [], laidByText := true, laidKinds := [.data, .sentinel, .sentinel, .sentinel, .sentinel, .sentinel, .sentinel, .sentinel, .sentinel, .sentinel, .sentinel, .sentinel, .sentinel, .sentinel, .sentinel, .sentinel, .sentinel, .sentinel, .sentinel, .sentinel, .sentinel, .sentinel], laidTests := true, laidLooks := .later }
def ReachTakesCardSaid : Prop := Claim7.holds Tryd.pinned (.plain (OpenSpec.ofChange reachTakesSpec)) reachTakesCard

/-- THE SECOND FORM's CARD OF 'trawllaw18.WalkEnds'. -/
def walkEndsUptoCard : Claim7 := { stood := { row := walkEndsUptoRow, standIns := [], harness := (true, "5ee5aabd645f1d9f3aa62702257024a738f5bb808d4853d9aaa3714e71b0d24b"), looks := true }, kinds := [], alts := [], laidByText := true, laidKinds := [.sentinel, .sentinel, .sentinel, .sentinel, .sentinel, .sentinel, .sentinel, .sentinel, .sentinel, .sentinel, .sentinel, .sentinel, .sentinel, .sentinel, .sentinel, .sentinel, .sentinel, .sentinel, .sentinel, .sentinel, .sentinel], laidTests := true, laidLooks := .later }
def WalkEndsUptoCardSaid : Prop := Claim7.holds Tryd.pinned (.plain (OpenSpec.upto walkEndsSpec)) walkEndsUptoCard

/-- THE SECOND FORM's CARD OF 'trawllaw11.ReachRounds'. -/
def reachRoundsUptoCard : Claim7 := { stood := { row := reachRoundsUptoRow, standIns := [], harness := (true, "5ee5aabd645f1d9f3aa62702257024a738f5bb808d4853d9aaa3714e71b0d24b"), looks := true }, kinds := [], alts := [], laidByText := true, laidKinds := [.data, .sentinel, .sentinel, .sentinel, .sentinel, .sentinel], laidTests := true, laidLooks := .later }
def ReachRoundsUptoCardSaid : Prop := Claim7.holds Tryd.pinned (.plain (OpenSpec.upto reachRoundsSpec)) reachRoundsUptoCard

/-- THE SECOND FORM's CARD OF 'trawllaw18.WalkStarts'. -/
def walkStartsUptoCard : Claim7 := { stood := { row := walkStartsUptoRow, standIns := [], harness := (true, "5ee5aabd645f1d9f3aa62702257024a738f5bb808d4853d9aaa3714e71b0d24b"), looks := true }, kinds := [], alts := [], laidByText := true, laidKinds := [.sentinel, .sentinel, .sentinel, .sentinel, .sentinel, .sentinel, .sentinel, .sentinel, .sentinel, .sentinel, .sentinel, .sentinel, .sentinel, .sentinel, .sentinel, .sentinel, .sentinel, .sentinel, .sentinel, .sentinel, .sentinel], laidTests := true, laidLooks := .later }
def WalkStartsUptoCardSaid : Prop := Claim7.holds Tryd.pinned (.plain (OpenSpec.upto walkStartsSpec)) walkStartsUptoCard

/-- THE SECOND FORM's CARD OF 'trawllaw18.WalkTogether'. -/
def walkTogetherUptoCard : Claim7 := { stood := { row := walkTogetherUptoRow, standIns := [], harness := (true, "5ee5aabd645f1d9f3aa62702257024a738f5bb808d4853d9aaa3714e71b0d24b"), looks := true }, kinds := [], alts := [], laidByText := true, laidKinds := [.sentinel, .sentinel, .sentinel, .sentinel, .sentinel, .sentinel, .sentinel, .sentinel, .sentinel, .sentinel, .sentinel, .sentinel, .sentinel, .sentinel, .sentinel, .sentinel, .sentinel, .sentinel, .sentinel, .sentinel, .sentinel], laidTests := true, laidLooks := .later }
def WalkTogetherUptoCardSaid : Prop := Claim7.holds Tryd.pinned (.plain (OpenSpec.upto walkTogetherSpec)) walkTogetherUptoCard

/-- THE SECOND FORM's CARD OF 'trawllaw11.ReachParts'. -/
def reachPartsUptoCard : Claim7 := { stood := { row := reachPartsUptoRow, standIns := [], harness := (true, "5ee5aabd645f1d9f3aa62702257024a738f5bb808d4853d9aaa3714e71b0d24b"), looks := true }, kinds := [], alts := [], laidByText := true, laidKinds := [.data, .sentinel, .sentinel, .sentinel, .sentinel, .sentinel], laidTests := true, laidLooks := .later }
def ReachPartsUptoCardSaid : Prop := Claim7.holds Tryd.pinned (.plain (OpenSpec.upto reachPartsSpec)) reachPartsUptoCard

/-- THE SECOND FORM's CARD OF 'trawllaw11.ReachEnds'. -/
def reachEndsUptoCard : Claim7 := { stood := { row := reachEndsUptoRow, standIns := [], harness := (true, "5ee5aabd645f1d9f3aa62702257024a738f5bb808d4853d9aaa3714e71b0d24b"), looks := true }, kinds := [], alts := [], laidByText := true, laidKinds := [.data, .sentinel, .sentinel, .sentinel, .sentinel, .sentinel, .sentinel, .sentinel, .sentinel, .sentinel, .sentinel, .sentinel, .sentinel, .sentinel, .sentinel, .sentinel, .sentinel, .sentinel, .sentinel, .sentinel, .sentinel, .sentinel], laidTests := true, laidLooks := .later }
def ReachEndsUptoCardSaid : Prop := Claim7.holds Tryd.pinned (.plain (OpenSpec.upto reachEndsSpec)) reachEndsUptoCard

/-- THE SECOND FORM's CARD OF 'trawllaw11.ReachTakes'. -/
def reachTakesUptoCard : Claim7 := { stood := { row := reachTakesUptoRow, standIns := [], harness := (true, "5ee5aabd645f1d9f3aa62702257024a738f5bb808d4853d9aaa3714e71b0d24b"), looks := true }, kinds := [], alts := [], laidByText := true, laidKinds := [.data, .sentinel, .sentinel, .sentinel, .sentinel, .sentinel, .sentinel, .sentinel, .sentinel, .sentinel, .sentinel, .sentinel, .sentinel, .sentinel, .sentinel, .sentinel, .sentinel, .sentinel, .sentinel, .sentinel, .sentinel, .sentinel], laidTests := true, laidLooks := .later }
def ReachTakesUptoCardSaid : Prop := Claim7.holds Tryd.pinned (.plain (OpenSpec.upto reachTakesSpec)) reachTakesUptoCard
end Rows
end Go.Proofs.YtgpmiflfgpnhaaaDoor
