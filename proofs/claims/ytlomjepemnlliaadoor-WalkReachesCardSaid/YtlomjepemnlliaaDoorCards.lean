/-
  DERIVED. GIVEN WITH THE SEED: THE CARDS: each row of YtlomjepemnlliaaDoorRows.lean that lists a variable, with what it lists TIED to the program's text (the seventh form; the later family's looks); each row that meets fmt, with fmt's text TOLD by the authors' own Lean function (tested against real Go, not proved from fmt's source: count such statements apart). THE CARD IS WHAT COUNTS. Prove the row's statement (the work); the ties are given (YtlomjepemnlliaaDoorTie.lean); close each card by the builder's one call (the guide's Derived/Test/ToyasCard.lean, 'card_holds'). Laid BY PROGRAM, IN A SANDBOX (cutbox-door.mjs). By AI agents, Wed Nov 11 2026. No macro, syntax, notation, axiom, sorry.
-/
import Derived.Test.YtlomjepemnlliaaDoorRows
import GoSem.ClaimSeven
namespace Go.Proofs.YtlomjepemnlliaaDoor
namespace Rows

/-- THE TIED CARD OF 'trawllaw18.WalkEnds'. -/
def walkEndsCard : Claim7 := { stood := { row := walkEndsRow, standIns := [], harness := (true, "7437bf4f4d61c0963adcf475ea63aa8207cd7c8e94f24479069af5d188eb07ed"), looks := true }, kinds := [], alts := [], laidByText := true, laidKinds := [.sentinel, .sentinel, .sentinel, .sentinel, .sentinel, .sentinel, .sentinel, .sentinel, .sentinel, .sentinel, .sentinel, .sentinel, .sentinel, .sentinel, .sentinel, .sentinel, .sentinel, .sentinel, .sentinel, .sentinel, .sentinel], laidTests := true, laidLooks := .later }
def WalkEndsCardSaid : Prop := Claim7.holds Tryd.pinned (.plain (OpenSpec.ofChange walkEndsSpec)) walkEndsCard

/-- THE TIED CARD OF 'trawllaw18.WalkStarts'. -/
def walkStartsCard : Claim7 := { stood := { row := walkStartsRow, standIns := [], harness := (true, "7437bf4f4d61c0963adcf475ea63aa8207cd7c8e94f24479069af5d188eb07ed"), looks := true }, kinds := [], alts := [], laidByText := true, laidKinds := [.sentinel, .sentinel, .sentinel, .sentinel, .sentinel, .sentinel, .sentinel, .sentinel, .sentinel, .sentinel, .sentinel, .sentinel, .sentinel, .sentinel, .sentinel, .sentinel, .sentinel, .sentinel, .sentinel, .sentinel, .sentinel], laidTests := true, laidLooks := .later }
def WalkStartsCardSaid : Prop := Claim7.holds Tryd.pinned (.plain (OpenSpec.ofChange walkStartsSpec)) walkStartsCard

/-- THE TIED CARD OF 'trawllaw18.WalkTogether'. -/
def walkTogetherCard : Claim7 := { stood := { row := walkTogetherRow, standIns := [], harness := (true, "7437bf4f4d61c0963adcf475ea63aa8207cd7c8e94f24479069af5d188eb07ed"), looks := true }, kinds := [], alts := [], laidByText := true, laidKinds := [.sentinel, .sentinel, .sentinel, .sentinel, .sentinel, .sentinel, .sentinel, .sentinel, .sentinel, .sentinel, .sentinel, .sentinel, .sentinel, .sentinel, .sentinel, .sentinel, .sentinel, .sentinel, .sentinel, .sentinel, .sentinel], laidTests := true, laidLooks := .later }
def WalkTogetherCardSaid : Prop := Claim7.holds Tryd.pinned (.plain (OpenSpec.ofChange walkTogetherSpec)) walkTogetherCard

/-- THE TIED CARD OF 'trawllaw17.PositMakes'. -/
def positMakesCard : Claim7 := { stood := { row := positMakesRow, standIns := [], harness := (true, "7437bf4f4d61c0963adcf475ea63aa8207cd7c8e94f24479069af5d188eb07ed"), looks := true }, kinds := [], alts := [], laidByText := true, laidKinds := [.sentinel, .sentinel, .sentinel, .sentinel, .sentinel, .sentinel, .sentinel, .sentinel, .sentinel, .sentinel, .sentinel, .sentinel, .sentinel, .sentinel, .sentinel, .sentinel, .sentinel, .sentinel, .sentinel, .sentinel, .sentinel], laidTests := true, laidLooks := .later }
def PositMakesCardSaid : Prop := Claim7.holds Tryd.pinned (.plain (OpenSpec.ofChange positMakesSpec)) positMakesCard

/-- THE TIED CARD OF 'trawllaw17.PositChecks'. -/
def positChecksCard : Claim7 := { stood := { row := positChecksRow, standIns := [], harness := (true, "7437bf4f4d61c0963adcf475ea63aa8207cd7c8e94f24479069af5d188eb07ed"), looks := true }, kinds := [], alts := [], laidByText := true, laidKinds := [.sentinel, .sentinel, .sentinel, .sentinel, .sentinel, .sentinel, .sentinel, .sentinel, .sentinel, .sentinel, .sentinel, .sentinel, .sentinel, .sentinel, .sentinel, .sentinel, .sentinel, .sentinel, .sentinel, .sentinel, .sentinel], laidTests := true, laidLooks := .later }
def PositChecksCardSaid : Prop := Claim7.holds Tryd.pinned (.plain (OpenSpec.ofChange positChecksSpec)) positChecksCard

/-- THE TIED CARD OF 'trawllaw17.PositForms'. -/
def positFormsCard : Claim7 := { stood := { row := positFormsRow, standIns := [], harness := (true, "7437bf4f4d61c0963adcf475ea63aa8207cd7c8e94f24479069af5d188eb07ed"), looks := true }, kinds := [], alts := [], laidByText := true, laidKinds := [.sentinel, .sentinel, .sentinel, .sentinel, .sentinel, .sentinel, .sentinel, .sentinel, .sentinel, .sentinel, .sentinel, .sentinel, .sentinel, .sentinel, .sentinel, .sentinel, .sentinel, .sentinel, .sentinel, .sentinel, .sentinel], laidTests := true, laidLooks := .later }
def PositFormsCardSaid : Prop := Claim7.holds Tryd.pinned (.plain (OpenSpec.ofChange positFormsSpec)) positFormsCard

/-- THE TIED CARD OF 'trawllaw17.PositMeans'. -/
def positMeansCard : Claim7 := { stood := { row := positMeansRow, standIns := [], harness := (true, "7437bf4f4d61c0963adcf475ea63aa8207cd7c8e94f24479069af5d188eb07ed"), looks := true }, kinds := [], alts := [], laidByText := true, laidKinds := [.data, .sentinel, .sentinel, .sentinel, .sentinel, .sentinel], laidTests := true, laidLooks := .later }
def PositMeansCardSaid : Prop := Claim7.holds Tryd.pinned (.plain (OpenSpec.ofChange positMeansSpec)) positMeansCard

/-- THE TIED CARD OF 'trawllaw18.WalkReaches'. -/
def walkReachesCard : Claim7 := { stood := { row := walkReachesRow, standIns := [], harness := (true, "7437bf4f4d61c0963adcf475ea63aa8207cd7c8e94f24479069af5d188eb07ed"), looks := true }, kinds := [], alts := [], laidByText := true, laidKinds := [.data, .sentinel, .sentinel, .sentinel, .sentinel, .sentinel, .sentinel, .sentinel, .sentinel, .sentinel, .sentinel, .sentinel, .sentinel, .sentinel, .sentinel, .sentinel, .sentinel, .sentinel, .sentinel, .sentinel, .sentinel, .sentinel], laidTests := true, laidLooks := .later }
def WalkReachesCardSaid : Prop := Claim7.holds Tryd.pinned (.plain (OpenSpec.ofChange walkReachesSpec)) walkReachesCard

/-- THE SECOND FORM's CARD OF 'trawllaw18.WalkEnds'. -/
def walkEndsUptoCard : Claim7 := { stood := { row := walkEndsUptoRow, standIns := [], harness := (true, "7437bf4f4d61c0963adcf475ea63aa8207cd7c8e94f24479069af5d188eb07ed"), looks := true }, kinds := [], alts := [], laidByText := true, laidKinds := [.sentinel, .sentinel, .sentinel, .sentinel, .sentinel, .sentinel, .sentinel, .sentinel, .sentinel, .sentinel, .sentinel, .sentinel, .sentinel, .sentinel, .sentinel, .sentinel, .sentinel, .sentinel, .sentinel, .sentinel, .sentinel], laidTests := true, laidLooks := .later }
def WalkEndsUptoCardSaid : Prop := Claim7.holds Tryd.pinned (.plain (OpenSpec.upto walkEndsSpec)) walkEndsUptoCard

/-- THE SECOND FORM's CARD OF 'trawllaw18.WalkStarts'. -/
def walkStartsUptoCard : Claim7 := { stood := { row := walkStartsUptoRow, standIns := [], harness := (true, "7437bf4f4d61c0963adcf475ea63aa8207cd7c8e94f24479069af5d188eb07ed"), looks := true }, kinds := [], alts := [], laidByText := true, laidKinds := [.sentinel, .sentinel, .sentinel, .sentinel, .sentinel, .sentinel, .sentinel, .sentinel, .sentinel, .sentinel, .sentinel, .sentinel, .sentinel, .sentinel, .sentinel, .sentinel, .sentinel, .sentinel, .sentinel, .sentinel, .sentinel], laidTests := true, laidLooks := .later }
def WalkStartsUptoCardSaid : Prop := Claim7.holds Tryd.pinned (.plain (OpenSpec.upto walkStartsSpec)) walkStartsUptoCard

/-- THE SECOND FORM's CARD OF 'trawllaw18.WalkTogether'. -/
def walkTogetherUptoCard : Claim7 := { stood := { row := walkTogetherUptoRow, standIns := [], harness := (true, "7437bf4f4d61c0963adcf475ea63aa8207cd7c8e94f24479069af5d188eb07ed"), looks := true }, kinds := [], alts := [], laidByText := true, laidKinds := [.sentinel, .sentinel, .sentinel, .sentinel, .sentinel, .sentinel, .sentinel, .sentinel, .sentinel, .sentinel, .sentinel, .sentinel, .sentinel, .sentinel, .sentinel, .sentinel, .sentinel, .sentinel, .sentinel, .sentinel, .sentinel], laidTests := true, laidLooks := .later }
def WalkTogetherUptoCardSaid : Prop := Claim7.holds Tryd.pinned (.plain (OpenSpec.upto walkTogetherSpec)) walkTogetherUptoCard

/-- THE SECOND FORM's CARD OF 'trawllaw17.PositMakes'. -/
def positMakesUptoCard : Claim7 := { stood := { row := positMakesUptoRow, standIns := [], harness := (true, "7437bf4f4d61c0963adcf475ea63aa8207cd7c8e94f24479069af5d188eb07ed"), looks := true }, kinds := [], alts := [], laidByText := true, laidKinds := [.sentinel, .sentinel, .sentinel, .sentinel, .sentinel, .sentinel, .sentinel, .sentinel, .sentinel, .sentinel, .sentinel, .sentinel, .sentinel, .sentinel, .sentinel, .sentinel, .sentinel, .sentinel, .sentinel, .sentinel, .sentinel], laidTests := true, laidLooks := .later }
def PositMakesUptoCardSaid : Prop := Claim7.holds Tryd.pinned (.plain (OpenSpec.upto positMakesSpec)) positMakesUptoCard

/-- THE SECOND FORM's CARD OF 'trawllaw17.PositChecks'. -/
def positChecksUptoCard : Claim7 := { stood := { row := positChecksUptoRow, standIns := [], harness := (true, "7437bf4f4d61c0963adcf475ea63aa8207cd7c8e94f24479069af5d188eb07ed"), looks := true }, kinds := [], alts := [], laidByText := true, laidKinds := [.sentinel, .sentinel, .sentinel, .sentinel, .sentinel, .sentinel, .sentinel, .sentinel, .sentinel, .sentinel, .sentinel, .sentinel, .sentinel, .sentinel, .sentinel, .sentinel, .sentinel, .sentinel, .sentinel, .sentinel, .sentinel], laidTests := true, laidLooks := .later }
def PositChecksUptoCardSaid : Prop := Claim7.holds Tryd.pinned (.plain (OpenSpec.upto positChecksSpec)) positChecksUptoCard

/-- THE SECOND FORM's CARD OF 'trawllaw17.PositForms'. -/
def positFormsUptoCard : Claim7 := { stood := { row := positFormsUptoRow, standIns := [], harness := (true, "7437bf4f4d61c0963adcf475ea63aa8207cd7c8e94f24479069af5d188eb07ed"), looks := true }, kinds := [], alts := [], laidByText := true, laidKinds := [.sentinel, .sentinel, .sentinel, .sentinel, .sentinel, .sentinel, .sentinel, .sentinel, .sentinel, .sentinel, .sentinel, .sentinel, .sentinel, .sentinel, .sentinel, .sentinel, .sentinel, .sentinel, .sentinel, .sentinel, .sentinel], laidTests := true, laidLooks := .later }
def PositFormsUptoCardSaid : Prop := Claim7.holds Tryd.pinned (.plain (OpenSpec.upto positFormsSpec)) positFormsUptoCard

/-- THE SECOND FORM's CARD OF 'trawllaw17.PositMeans'. -/
def positMeansUptoCard : Claim7 := { stood := { row := positMeansUptoRow, standIns := [], harness := (true, "7437bf4f4d61c0963adcf475ea63aa8207cd7c8e94f24479069af5d188eb07ed"), looks := true }, kinds := [], alts := [], laidByText := true, laidKinds := [.data, .sentinel, .sentinel, .sentinel, .sentinel, .sentinel], laidTests := true, laidLooks := .later }
def PositMeansUptoCardSaid : Prop := Claim7.holds Tryd.pinned (.plain (OpenSpec.upto positMeansSpec)) positMeansUptoCard

/-- THE SECOND FORM's CARD OF 'trawllaw18.WalkReaches'. -/
def walkReachesUptoCard : Claim7 := { stood := { row := walkReachesUptoRow, standIns := [], harness := (true, "7437bf4f4d61c0963adcf475ea63aa8207cd7c8e94f24479069af5d188eb07ed"), looks := true }, kinds := [], alts := [], laidByText := true, laidKinds := [.data, .sentinel, .sentinel, .sentinel, .sentinel, .sentinel, .sentinel, .sentinel, .sentinel, .sentinel, .sentinel, .sentinel, .sentinel, .sentinel, .sentinel, .sentinel, .sentinel, .sentinel, .sentinel, .sentinel, .sentinel, .sentinel], laidTests := true, laidLooks := .later }
def WalkReachesUptoCardSaid : Prop := Claim7.holds Tryd.pinned (.plain (OpenSpec.upto walkReachesSpec)) walkReachesUptoCard
end Rows
end Go.Proofs.YtlomjepemnlliaaDoor
