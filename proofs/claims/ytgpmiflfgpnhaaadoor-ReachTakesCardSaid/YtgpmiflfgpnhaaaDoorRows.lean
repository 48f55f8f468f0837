/-
  NARROWER THAN 'FOR EVERY INPUT', by the rows' own cells (each row's printed sentence says how): WalkEnds: laid · ReachRounds: loops, laid · WalkStarts: laid · WalkTogether: laid · ReachParts: loops, laid · ReachEnds: loops, laid · ReachTakes: loops, laid.
  DERIVED. THE GIVEN ROWS OF THIS SEAT. 7 by the template 'for every input the law returns true; each argument reads behind the call as it read before'; 0 by the template 'total and deterministic' (their statements: YtgpmiflfgpnhaaaDoorTotals.lean).
  GIVEN WITH THE SEED: the statements are not yours to turn. If you find one false, say at which input.
  Laid BY PROGRAM, IN A SANDBOX (cutbox-rows.mjs): the forced cells as the released guide's own fill.sh prints them over the translation 981f796b14a9a056… (all of the seat's roots in one cut). By AI agents, Wed Nov 11 2026. No macro, syntax, notation, axiom, sorry.
-/
import Derived.Test.YtgpmiflfgpnhaaaDoorChecked
import GoSem.Claim
import GoSem.ClaimJoined
import GoSem.ClaimMapViews
import Derived.JoinedTies
import Derived.KernelRfl
namespace Go.Proofs.YtgpmiflfgpnhaaaDoor
/- THE CELL 'sum', in the pinned program and in every row, IS THE sha256 OF THE DUMP (.gsa) THAT YtgpmiflfgpnhaaaDoorProg.lean LOADS. Nothing in Lean hashes anything: it is a label: what it is worth is what the hold of that sum in a sandbox is worth. -/
noncomputable def Tryd.pinned : Pinned := { name := "ytgpmiflfgpnhaaadoor", sum := "981f796b14a9a0563e3eb3742514f6cb9174a5afcc9518f559a6e409bf121033", checked := Tryd.checked }
namespace Rows
def none {H : Type} : Left H := { results := [], args := [] }

/- WHAT THE LISTED PACKAGE-LEVEL VARIABLES READ AS WHEN THE CALL BEGINS. Each datum BY PROGRAM (the guide's laid-datum.mjs) off the statement by which the dump's own 'gosem.cut.vars' lays the variable. In a bare row this is a premise. The card (YtgpmiflfgpnhaaaDoorCards.lean) ties it to the program's text. -/
def laid_trawl_api_ErrBracket {H : Type} : DataW H := .iface "*errors.errorString" (.ptr (.agg [.lit (.string [116, 114, 97, 119, 108, 58, 32, 98, 114, 97, 99, 107, 101, 116])]))
def laid_trawl_api_ErrParen {H : Type} : DataW H := .iface "*errors.errorString" (.ptr (.agg [.lit (.string [116, 114, 97, 119, 108, 58, 32, 112, 97, 114, 101, 110, 116, 104, 101, 115, 105, 115])]))
def laid_trawl_api_ErrBrace {H : Type} : DataW H := .iface "*errors.errorString" (.ptr (.agg [.lit (.string [116, 114, 97, 119, 108, 58, 32, 98, 114, 97, 99, 101])]))
def laid_trawl_api_ErrCount {H : Type} : DataW H := .iface "*errors.errorString" (.ptr (.agg [.lit (.string [116, 114, 97, 119, 108, 58, 32, 99, 111, 117, 110, 116])]))
def laid_trawl_api_ErrRange {H : Type} : DataW H := .iface "*errors.errorString" (.ptr (.agg [.lit (.string [116, 114, 97, 119, 108, 58, 32, 114, 97, 110, 103, 101])]))
def laid_trawl_api_ErrClass {H : Type} : DataW H := .iface "*errors.errorString" (.ptr (.agg [.lit (.string [116, 114, 97, 119, 108, 58, 32, 99, 108, 97, 115, 115])]))
def laid_trawl_api_ErrCollate {H : Type} : DataW H := .iface "*errors.errorString" (.ptr (.agg [.lit (.string [116, 114, 97, 119, 108, 58, 32, 99, 111, 108, 108, 97, 116, 105, 110, 103])]))
def laid_trawl_api_ErrEscape {H : Type} : DataW H := .iface "*errors.errorString" (.ptr (.agg [.lit (.string [116, 114, 97, 119, 108, 58, 32, 101, 115, 99, 97, 112, 101])]))
def laid_trawl_api_ErrRepeat {H : Type} : DataW H := .iface "*errors.errorString" (.ptr (.agg [.lit (.string [116, 114, 97, 119, 108, 58, 32, 114, 101, 112, 101, 97, 116])]))
def laid_trawl_api_ErrTooBig {H : Type} : DataW H := .iface "*errors.errorString" (.ptr (.agg [.lit (.string [116, 114, 97, 119, 108, 58, 32, 116, 111, 111, 32, 98, 105, 103])]))
def laid_trawl_api_ErrNest {H : Type} : DataW H := .iface "*errors.errorString" (.ptr (.agg [.lit (.string [116, 114, 97, 119, 108, 58, 32, 110, 101, 115, 116, 105, 110, 103])]))
def laid_trawl_api_ErrLong {H : Type} : DataW H := .iface "*errors.errorString" (.ptr (.agg [.lit (.string [116, 114, 97, 119, 108, 58, 32, 108, 111, 110, 103])]))
def laid_trawl_api_ErrTree {H : Type} : DataW H := .iface "*errors.errorString" (.ptr (.agg [.lit (.string [116, 114, 97, 119, 108, 58, 32, 116, 114, 101, 101])]))
def laid_trawl_api_ErrDeep {H : Type} : DataW H := .iface "*errors.errorString" (.ptr (.agg [.lit (.string [116, 114, 97, 119, 108, 58, 32, 100, 101, 101, 112])]))
def laid_trawl_api_ErrArgument {H : Type} : DataW H := .iface "*errors.errorString" (.ptr (.agg [.lit (.string [116, 114, 97, 119, 108, 58, 32, 97, 114, 103, 117, 109, 101, 110, 116])]))
def laid_trawl_api_ErrNoMatch {H : Type} : DataW H := .iface "*errors.errorString" (.ptr (.agg [.lit (.string [116, 114, 97, 119, 108, 58, 32, 110, 111, 32, 109, 97, 116, 99, 104])]))
def laid_trawl_api_ErrImage {H : Type} : DataW H := .iface "*errors.errorString" (.ptr (.agg [.lit (.string [116, 114, 97, 119, 108, 58, 32, 105, 109, 97, 103, 101])]))
def laid_trawl_api_ErrMany {H : Type} : DataW H := .iface "*errors.errorString" (.ptr (.agg [.lit (.string [116, 114, 97, 119, 108, 58, 32, 109, 97, 110, 121])]))
def laid_trawl_api_ErrOption {H : Type} : DataW H := .iface "*errors.errorString" (.ptr (.agg [.lit (.string [116, 114, 97, 119, 108, 58, 32, 111, 112, 116, 105, 111, 110])]))
def laid_trawl_api_ErrCommand {H : Type} : DataW H := .iface "*errors.errorString" (.ptr (.agg [.lit (.string [116, 114, 97, 119, 108, 58, 32, 99, 111, 109, 109, 97, 110, 100])]))
def laid_trawl_api_ErrClosed {H : Type} : DataW H := .iface "*errors.errorString" (.ptr (.agg [.lit (.string [116, 114, 97, 119, 108, 58, 32, 99, 108, 111, 115, 101, 100])]))
def laid_math_bits_deBruijn64tab {H : Type} : DataW H := .agg [.lit (.int .u8 0), .lit (.int .u8 1), .lit (.int .u8 56), .lit (.int .u8 2), .lit (.int .u8 57), .lit (.int .u8 49), .lit (.int .u8 28), .lit (.int .u8 3), .lit (.int .u8 61), .lit (.int .u8 58), .lit (.int .u8 42), .lit (.int .u8 50), .lit (.int .u8 38), .lit (.int .u8 29), .lit (.int .u8 17), .lit (.int .u8 4), .lit (.int .u8 62), .lit (.int .u8 47), .lit (.int .u8 59), .lit (.int .u8 36), .lit (.int .u8 45), .lit (.int .u8 43), .lit (.int .u8 51), .lit (.int .u8 22), .lit (.int .u8 53), .lit (.int .u8 39), .lit (.int .u8 33), .lit (.int .u8 30), .lit (.int .u8 24), .lit (.int .u8 18), .lit (.int .u8 12), .lit (.int .u8 5), .lit (.int .u8 63), .lit (.int .u8 55), .lit (.int .u8 48), .lit (.int .u8 27), .lit (.int .u8 60), .lit (.int .u8 41), .lit (.int .u8 37), .lit (.int .u8 16), .lit (.int .u8 46), .lit (.int .u8 35), .lit (.int .u8 44), .lit (.int .u8 21), .lit (.int .u8 52), .lit (.int .u8 32), .lit (.int .u8 23), .lit (.int .u8 11), .lit (.int .u8 54), .lit (.int .u8 26), .lit (.int .u8 40), .lit (.int .u8 15), .lit (.int .u8 34), .lit (.int .u8 20), .lit (.int .u8 31), .lit (.int .u8 10), .lit (.int .u8 25), .lit (.int .u8 14), .lit (.int .u8 19), .lit (.int .u8 9), .lit (.int .u8 13), .lit (.int .u8 8), .lit (.int .u8 7), .lit (.int .u8 6)]

/-- 'trawllaw18.WalkEnds': WHATEVER THE INPUT: true; the input reads as it did. -/
def walkEndsSpec : ChangeSpec := { name := "walkEnds", fn := fun _ => fun
  | [d1, d2, d3] => { results := [.lit (.bool true)], args := [d1, d2, d3] }
  | _ => none }
def walkEndsRow : OpenClaim := { program := "ytgpmiflfgpnhaaadoor", sum := "981f796b14a9a0563e3eb3742514f6cb9174a5afcc9518f559a6e409bf121033", func := "trawl/trawllaw18.WalkEnds", spec := "walkEnds", inPlace := ["internal/reflectlite.TypeOf"], unfollowed := true, recurses := true, named := ["trawl/api.ErrArgument", "trawl/api.ErrTree", "trawl/api.ErrBracket", "trawl/api.ErrParen", "trawl/api.ErrBrace", "trawl/api.ErrCount", "trawl/api.ErrRange", "trawl/api.ErrClass", "trawl/api.ErrCollate", "trawl/api.ErrEscape", "trawl/api.ErrRepeat", "trawl/api.ErrTooBig", "trawl/api.ErrNest", "trawl/api.ErrLong", "trawl/api.ErrDeep", "trawl/api.ErrNoMatch", "trawl/api.ErrImage", "trawl/api.ErrMany", "trawl/api.ErrOption", "trawl/api.ErrCommand", "trawl/api.ErrClosed"], apart := false, laid := [("trawl/api.ErrBracket", laid_trawl_api_ErrBracket), ("trawl/api.ErrParen", laid_trawl_api_ErrParen), ("trawl/api.ErrBrace", laid_trawl_api_ErrBrace), ("trawl/api.ErrCount", laid_trawl_api_ErrCount), ("trawl/api.ErrRange", laid_trawl_api_ErrRange), ("trawl/api.ErrClass", laid_trawl_api_ErrClass), ("trawl/api.ErrCollate", laid_trawl_api_ErrCollate), ("trawl/api.ErrEscape", laid_trawl_api_ErrEscape), ("trawl/api.ErrRepeat", laid_trawl_api_ErrRepeat), ("trawl/api.ErrTooBig", laid_trawl_api_ErrTooBig), ("trawl/api.ErrNest", laid_trawl_api_ErrNest), ("trawl/api.ErrLong", laid_trawl_api_ErrLong), ("trawl/api.ErrTree", laid_trawl_api_ErrTree), ("trawl/api.ErrDeep", laid_trawl_api_ErrDeep), ("trawl/api.ErrArgument", laid_trawl_api_ErrArgument), ("trawl/api.ErrNoMatch", laid_trawl_api_ErrNoMatch), ("trawl/api.ErrImage", laid_trawl_api_ErrImage), ("trawl/api.ErrMany", laid_trawl_api_ErrMany), ("trawl/api.ErrOption", laid_trawl_api_ErrOption), ("trawl/api.ErrCommand", laid_trawl_api_ErrCommand), ("trawl/api.ErrClosed", laid_trawl_api_ErrClosed)] }
def WalkEndsSaid : Prop := walkEndsRow.holds Tryd.pinned (OpenSpec.ofChange walkEndsSpec)

/-- ITS FALSE NEIGHBOUR: 'it returns false'. Refute it at one input. -/
def walkEndsWrong : ChangeSpec := { name := "walkEnds", fn := fun _ => fun
  | [d1, d2, d3] => { results := [.lit (.bool false)], args := [d1, d2, d3] }
  | _ => none }
def WalkEndsWrongFalsely : Prop := walkEndsRow.holds Tryd.pinned (OpenSpec.ofChange walkEndsWrong)

/-- 'trawllaw11.ReachRounds': WHATEVER THE INPUT: true; the input reads as it did. -/
def reachRoundsSpec : ChangeSpec := { name := "reachRounds", fn := fun _ => fun
  | [d1, d2, d3, d4, d5] => { results := [.lit (.bool true)], args := [d1, d2, d3, d4, d5] }
  | _ => none }
def reachRoundsRow : OpenClaim := { program := "ytgpmiflfgpnhaaadoor", sum := "981f796b14a9a0563e3eb3742514f6cb9174a5afcc9518f559a6e409bf121033", func := "trawl/trawllaw11.ReachRounds", spec := "reachRounds", recurses := true, named := ["trawl/api.ErrLong", "trawl/api.ErrArgument", "trawl/api.ErrTree", "trawl/api.ErrDeep", "trawl/api.ErrTooBig", "math/bits.deBruijn64tab"], loops := true, apart := false, laid := [("math/bits.deBruijn64tab", laid_math_bits_deBruijn64tab), ("trawl/api.ErrTooBig", laid_trawl_api_ErrTooBig), ("trawl/api.ErrLong", laid_trawl_api_ErrLong), ("trawl/api.ErrTree", laid_trawl_api_ErrTree), ("trawl/api.ErrDeep", laid_trawl_api_ErrDeep), ("trawl/api.ErrArgument", laid_trawl_api_ErrArgument)] }
def ReachRoundsSaid : Prop := reachRoundsRow.holds Tryd.pinned (OpenSpec.ofChange reachRoundsSpec)

/-- ITS FALSE NEIGHBOUR: 'it returns false'. Refute it at one input. -/
def reachRoundsWrong : ChangeSpec := { name := "reachRounds", fn := fun _ => fun
  | [d1, d2, d3, d4, d5] => { results := [.lit (.bool false)], args := [d1, d2, d3, d4, d5] }
  | _ => none }
def ReachRoundsWrongFalsely : Prop := reachRoundsRow.holds Tryd.pinned (OpenSpec.ofChange reachRoundsWrong)

/-- 'trawllaw18.WalkStarts': WHATEVER THE INPUT: true; the input reads as it did. -/
def walkStartsSpec : ChangeSpec := { name := "walkStarts", fn := fun _ => fun
  | [d1, d2, d3] => { results := [.lit (.bool true)], args := [d1, d2, d3] }
  | _ => none }
def walkStartsRow : OpenClaim := { program := "ytgpmiflfgpnhaaadoor", sum := "981f796b14a9a0563e3eb3742514f6cb9174a5afcc9518f559a6e409bf121033", func := "trawl/trawllaw18.WalkStarts", spec := "walkStarts", inPlace := ["internal/reflectlite.TypeOf"], unfollowed := true, recurses := true, named := ["trawl/api.ErrArgument", "trawl/api.ErrTree", "trawl/api.ErrBracket", "trawl/api.ErrParen", "trawl/api.ErrBrace", "trawl/api.ErrCount", "trawl/api.ErrRange", "trawl/api.ErrClass", "trawl/api.ErrCollate", "trawl/api.ErrEscape", "trawl/api.ErrRepeat", "trawl/api.ErrTooBig", "trawl/api.ErrNest", "trawl/api.ErrLong", "trawl/api.ErrDeep", "trawl/api.ErrNoMatch", "trawl/api.ErrImage", "trawl/api.ErrMany", "trawl/api.ErrOption", "trawl/api.ErrCommand", "trawl/api.ErrClosed"], apart := false, laid := [("trawl/api.ErrBracket", laid_trawl_api_ErrBracket), ("trawl/api.ErrParen", laid_trawl_api_ErrParen), ("trawl/api.ErrBrace", laid_trawl_api_ErrBrace), ("trawl/api.ErrCount", laid_trawl_api_ErrCount), ("trawl/api.ErrRange", laid_trawl_api_ErrRange), ("trawl/api.ErrClass", laid_trawl_api_ErrClass), ("trawl/api.ErrCollate", laid_trawl_api_ErrCollate), ("trawl/api.ErrEscape", laid_trawl_api_ErrEscape), ("trawl/api.ErrRepeat", laid_trawl_api_ErrRepeat), ("trawl/api.ErrTooBig", laid_trawl_api_ErrTooBig), ("trawl/api.ErrNest", laid_trawl_api_ErrNest), ("trawl/api.ErrLong", laid_trawl_api_ErrLong), ("trawl/api.ErrTree", laid_trawl_api_ErrTree), ("trawl/api.ErrDeep", laid_trawl_api_ErrDeep), ("trawl/api.ErrArgument", laid_trawl_api_ErrArgument), ("trawl/api.ErrNoMatch", laid_trawl_api_ErrNoMatch), ("trawl/api.ErrImage", laid_trawl_api_ErrImage), ("trawl/api.ErrMany", laid_trawl_api_ErrMany), ("trawl/api.ErrOption", laid_trawl_api_ErrOption), ("trawl/api.ErrCommand", laid_trawl_api_ErrCommand), ("trawl/api.ErrClosed", laid_trawl_api_ErrClosed)] }
def WalkStartsSaid : Prop := walkStartsRow.holds Tryd.pinned (OpenSpec.ofChange walkStartsSpec)

/-- ITS FALSE NEIGHBOUR: 'it returns false'. Refute it at one input. -/
def walkStartsWrong : ChangeSpec := { name := "walkStarts", fn := fun _ => fun
  | [d1, d2, d3] => { results := [.lit (.bool false)], args := [d1, d2, d3] }
  | _ => none }
def WalkStartsWrongFalsely : Prop := walkStartsRow.holds Tryd.pinned (OpenSpec.ofChange walkStartsWrong)

/-- 'trawllaw18.WalkTogether': WHATEVER THE INPUT: true; the input reads as it did. -/
def walkTogetherSpec : ChangeSpec := { name := "walkTogether", fn := fun _ => fun
  | [d1, d2, d3] => { results := [.lit (.bool true)], args := [d1, d2, d3] }
  | _ => none }
def walkTogetherRow : OpenClaim := { program := "ytgpmiflfgpnhaaadoor", sum := "981f796b14a9a0563e3eb3742514f6cb9174a5afcc9518f559a6e409bf121033", func := "trawl/trawllaw18.WalkTogether", spec := "walkTogether", inPlace := ["internal/reflectlite.TypeOf"], unfollowed := true, recurses := true, named := ["trawl/api.ErrArgument", "trawl/api.ErrTree", "trawl/api.ErrBracket", "trawl/api.ErrParen", "trawl/api.ErrBrace", "trawl/api.ErrCount", "trawl/api.ErrRange", "trawl/api.ErrClass", "trawl/api.ErrCollate", "trawl/api.ErrEscape", "trawl/api.ErrRepeat", "trawl/api.ErrTooBig", "trawl/api.ErrNest", "trawl/api.ErrLong", "trawl/api.ErrDeep", "trawl/api.ErrNoMatch", "trawl/api.ErrImage", "trawl/api.ErrMany", "trawl/api.ErrOption", "trawl/api.ErrCommand", "trawl/api.ErrClosed"], apart := false, laid := [("trawl/api.ErrBracket", laid_trawl_api_ErrBracket), ("trawl/api.ErrParen", laid_trawl_api_ErrParen), ("trawl/api.ErrBrace", laid_trawl_api_ErrBrace), ("trawl/api.ErrCount", laid_trawl_api_ErrCount), ("trawl/api.ErrRange", laid_trawl_api_ErrRange), ("trawl/api.ErrClass", laid_trawl_api_ErrClass), ("trawl/api.ErrCollate", laid_trawl_api_ErrCollate), ("trawl/api.ErrEscape", laid_trawl_api_ErrEscape), ("trawl/api.ErrRepeat", laid_trawl_api_ErrRepeat), ("trawl/api.ErrTooBig", laid_trawl_api_ErrTooBig), ("trawl/api.ErrNest", laid_trawl_api_ErrNest), ("trawl/api.ErrLong", laid_trawl_api_ErrLong), ("trawl/api.ErrTree", laid_trawl_api_ErrTree), ("trawl/api.ErrDeep", laid_trawl_api_ErrDeep), ("trawl/api.ErrArgument", laid_trawl_api_ErrArgument), ("trawl/api.ErrNoMatch", laid_trawl_api_ErrNoMatch), ("trawl/api.ErrImage", laid_trawl_api_ErrImage), ("trawl/api.ErrMany", laid_trawl_api_ErrMany), ("trawl/api.ErrOption", laid_trawl_api_ErrOption), ("trawl/api.ErrCommand", laid_trawl_api_ErrCommand), ("trawl/api.ErrClosed", laid_trawl_api_ErrClosed)] }
def WalkTogetherSaid : Prop := walkTogetherRow.holds Tryd.pinned (OpenSpec.ofChange walkTogetherSpec)

/-- ITS FALSE NEIGHBOUR: 'it returns false'. Refute it at one input. -/
def walkTogetherWrong : ChangeSpec := { name := "walkTogether", fn := fun _ => fun
  | [d1, d2, d3] => { results := [.lit (.bool false)], args := [d1, d2, d3] }
  | _ => none }
def WalkTogetherWrongFalsely : Prop := walkTogetherRow.holds Tryd.pinned (OpenSpec.ofChange walkTogetherWrong)

/-- 'trawllaw11.ReachParts': WHATEVER THE INPUT: true; the input reads as it did. -/
def reachPartsSpec : ChangeSpec := { name := "reachParts", fn := fun _ => fun
  | [d1, d2, d3, d4, d5] => { results := [.lit (.bool true)], args := [d1, d2, d3, d4, d5] }
  | _ => none }
def reachPartsRow : OpenClaim := { program := "ytgpmiflfgpnhaaadoor", sum := "981f796b14a9a0563e3eb3742514f6cb9174a5afcc9518f559a6e409bf121033", func := "trawl/trawllaw11.ReachParts", spec := "reachParts", recurses := true, named := ["trawl/api.ErrLong", "trawl/api.ErrArgument", "trawl/api.ErrTree", "trawl/api.ErrDeep", "trawl/api.ErrTooBig", "math/bits.deBruijn64tab"], loops := true, apart := false, laid := [("math/bits.deBruijn64tab", laid_math_bits_deBruijn64tab), ("trawl/api.ErrTooBig", laid_trawl_api_ErrTooBig), ("trawl/api.ErrLong", laid_trawl_api_ErrLong), ("trawl/api.ErrTree", laid_trawl_api_ErrTree), ("trawl/api.ErrDeep", laid_trawl_api_ErrDeep), ("trawl/api.ErrArgument", laid_trawl_api_ErrArgument)] }
def ReachPartsSaid : Prop := reachPartsRow.holds Tryd.pinned (OpenSpec.ofChange reachPartsSpec)

/-- ITS FALSE NEIGHBOUR: 'it returns false'. Refute it at one input. -/
def reachPartsWrong : ChangeSpec := { name := "reachParts", fn := fun _ => fun
  | [d1, d2, d3, d4, d5] => { results := [.lit (.bool false)], args := [d1, d2, d3, d4, d5] }
  | _ => none }
def ReachPartsWrongFalsely : Prop := reachPartsRow.holds Tryd.pinned (OpenSpec.ofChange reachPartsWrong)

/-- 'trawllaw11.ReachEnds': WHATEVER THE INPUT: true; the input reads as it did. -/
def reachEndsSpec : ChangeSpec := { name := "reachEnds", fn := fun _ => fun
  | [d1, d2, d3] => { results := [.lit (.bool true)], args := [d1, d2, d3] }
  | _ => none }
def reachEndsRow : OpenClaim := { program := "ytgpmiflfgpnhaaadoor", sum := "981f796b14a9a0563e3eb3742514f6cb9174a5afcc9518f559a6e409bf121033", func := "trawl/trawllaw11.ReachEnds", spec := "reachEnds", inPlace := ["internal/reflectlite.TypeOf"], unfollowed := true, recurses := true, named := ["trawl/api.ErrLong", "trawl/api.ErrArgument", "trawl/api.ErrTree", "trawl/api.ErrDeep", "trawl/api.ErrTooBig", "math/bits.deBruijn64tab", "trawl/api.ErrBracket", "trawl/api.ErrParen", "trawl/api.ErrBrace", "trawl/api.ErrCount", "trawl/api.ErrRange", "trawl/api.ErrClass", "trawl/api.ErrCollate", "trawl/api.ErrEscape", "trawl/api.ErrRepeat", "trawl/api.ErrNest", "trawl/api.ErrNoMatch", "trawl/api.ErrImage", "trawl/api.ErrMany", "trawl/api.ErrOption", "trawl/api.ErrCommand", "trawl/api.ErrClosed"], loops := true, apart := false, laid := [("math/bits.deBruijn64tab", laid_math_bits_deBruijn64tab), ("trawl/api.ErrBracket", laid_trawl_api_ErrBracket), ("trawl/api.ErrParen", laid_trawl_api_ErrParen), ("trawl/api.ErrBrace", laid_trawl_api_ErrBrace), ("trawl/api.ErrCount", laid_trawl_api_ErrCount), ("trawl/api.ErrRange", laid_trawl_api_ErrRange), ("trawl/api.ErrClass", laid_trawl_api_ErrClass), ("trawl/api.ErrCollate", laid_trawl_api_ErrCollate), ("trawl/api.ErrEscape", laid_trawl_api_ErrEscape), ("trawl/api.ErrRepeat", laid_trawl_api_ErrRepeat), ("trawl/api.ErrTooBig", laid_trawl_api_ErrTooBig), ("trawl/api.ErrNest", laid_trawl_api_ErrNest), ("trawl/api.ErrLong", laid_trawl_api_ErrLong), ("trawl/api.ErrTree", laid_trawl_api_ErrTree), ("trawl/api.ErrDeep", laid_trawl_api_ErrDeep), ("trawl/api.ErrArgument", laid_trawl_api_ErrArgument), ("trawl/api.ErrNoMatch", laid_trawl_api_ErrNoMatch), ("trawl/api.ErrImage", laid_trawl_api_ErrImage), ("trawl/api.ErrMany", laid_trawl_api_ErrMany), ("trawl/api.ErrOption", laid_trawl_api_ErrOption), ("trawl/api.ErrCommand", laid_trawl_api_ErrCommand), ("trawl/api.ErrClosed", laid_trawl_api_ErrClosed)] }
def ReachEndsSaid : Prop := reachEndsRow.holds Tryd.pinned (OpenSpec.ofChange reachEndsSpec)

/-- ITS FALSE NEIGHBOUR: 'it returns false'. Refute it at one input. -/
def reachEndsWrong : ChangeSpec := { name := "reachEnds", fn := fun _ => fun
  | [d1, d2, d3] => { results := [.lit (.bool false)], args := [d1, d2, d3] }
  | _ => none }
def ReachEndsWrongFalsely : Prop := reachEndsRow.holds Tryd.pinned (OpenSpec.ofChange reachEndsWrong)

/-- 'trawllaw11.ReachTakes': WHATEVER THE INPUT: true; the input reads as it did. -/
def reachTakesSpec : ChangeSpec := { name := "reachTakes", fn := fun _ => fun
  | [d1, d2, d3, d4] => { results := [.lit (.bool true)], args := [d1, d2, d3, d4] }
  | _ => none }
def reachTakesRow : OpenClaim := { program := "ytgpmiflfgpnhaaadoor", sum := "981f796b14a9a0563e3eb3742514f6cb9174a5afcc9518f559a6e409bf121033", func := "trawl/trawllaw11.ReachTakes", spec := "reachTakes", inPlace := ["internal/reflectlite.TypeOf"], unfollowed := true, recurses := true, named := ["trawl/api.ErrLong", "trawl/api.ErrArgument", "trawl/api.ErrTree", "trawl/api.ErrDeep", "trawl/api.ErrTooBig", "math/bits.deBruijn64tab", "trawl/api.ErrBracket", "trawl/api.ErrParen", "trawl/api.ErrBrace", "trawl/api.ErrCount", "trawl/api.ErrRange", "trawl/api.ErrClass", "trawl/api.ErrCollate", "trawl/api.ErrEscape", "trawl/api.ErrRepeat", "trawl/api.ErrNest", "trawl/api.ErrNoMatch", "trawl/api.ErrImage", "trawl/api.ErrMany", "trawl/api.ErrOption", "trawl/api.ErrCommand", "trawl/api.ErrClosed"], loops := true, apart := false, laid := [("math/bits.deBruijn64tab", laid_math_bits_deBruijn64tab), ("trawl/api.ErrBracket", laid_trawl_api_ErrBracket), ("trawl/api.ErrParen", laid_trawl_api_ErrParen), ("trawl/api.ErrBrace", laid_trawl_api_ErrBrace), ("trawl/api.ErrCount", laid_trawl_api_ErrCount), ("trawl/api.ErrRange", laid_trawl_api_ErrRange), ("trawl/api.ErrClass", laid_trawl_api_ErrClass), ("trawl/api.ErrCollate", laid_trawl_api_ErrCollate), ("trawl/api.ErrEscape", laid_trawl_api_ErrEscape), ("trawl/api.ErrRepeat", laid_trawl_api_ErrRepeat), ("trawl/api.ErrTooBig", laid_trawl_api_ErrTooBig), ("trawl/api.ErrNest", laid_trawl_api_ErrNest), ("trawl/api.ErrLong", laid_trawl_api_ErrLong), ("trawl/api.ErrTree", laid_trawl_api_ErrTree), ("trawl/api.ErrDeep", laid_trawl_api_ErrDeep), ("trawl/api.ErrArgument", laid_trawl_api_ErrArgument), ("trawl/api.ErrNoMatch", laid_trawl_api_ErrNoMatch), ("trawl/api.ErrImage", laid_trawl_api_ErrImage), ("trawl/api.ErrMany", laid_trawl_api_ErrMany), ("trawl/api.ErrOption", laid_trawl_api_ErrOption), ("trawl/api.ErrCommand", laid_trawl_api_ErrCommand), ("trawl/api.ErrClosed", laid_trawl_api_ErrClosed)] }
def ReachTakesSaid : Prop := reachTakesRow.holds Tryd.pinned (OpenSpec.ofChange reachTakesSpec)

/-- ITS FALSE NEIGHBOUR: 'it returns false'. Refute it at one input. -/
def reachTakesWrong : ChangeSpec := { name := "reachTakes", fn := fun _ => fun
  | [d1, d2, d3, d4] => { results := [.lit (.bool false)], args := [d1, d2, d3, d4] }
  | _ => none }
def ReachTakesWrongFalsely : Prop := reachTakesRow.holds Tryd.pinned (OpenSpec.ofChange reachTakesWrong)

/- THE SECOND FORM. 'bulk': how many values and letters a reading holds, each counted each time it is reached (what is shared counts as often as it is met; a slice's spare places count too). A statement '..UptoSaid' is the law's where the arguments, and the package variables that the reading takes, are together of bulk at most 1048576: NARROWER than '..Said'. Prove '..Said' where nothing that the law and all that it calls make is longer than what came in: it says more and counts as full. Else prove '..UptoSaid'. A law counts once. -/
mutual
def uptoBulk {H : Type} : DataW H → Nat
  | .lit (.string bytes) => bytes.length + 1
  | .lit _ => 1
  | .nil => 1
  | .ptr d => uptoBulk d + 1
  | .slice elems spare => uptoBulkAll elems + uptoBulkAll spare + 1
  | .agg parts => uptoBulkAll parts + 1
  | .iface _ d => uptoBulk d + 1
  | .map entries => uptoBulkEntries entries + 1
  | .held _ => 1
def uptoBulkAll {H : Type} : List (DataW H) → Nat
  | [] => 0
  | d :: r => uptoBulk d + uptoBulkAll r
def uptoBulkEntries {H : Type} : List (Lit × DataW H) → Nat
  | [] => 0
  | x :: r => uptoBulkEntry x + uptoBulkEntries r
def uptoBulkEntry {H : Type} : Lit × DataW H → Nat
  | (.string bytes, d) => bytes.length + uptoBulk d + 1
  | (_, d) => uptoBulk d + 1
 end
def uptoSmall : (H : Type) → List (DataW H) → Bool := fun _ ds => decide (uptoBulkAll ds ≤ 1048576)
def OpenSpec.upto (s : _root_.Go.ChangeSpec) : _root_.Go.OpenSpec := { _root_.Go.OpenSpec.ofChange s with cond := some uptoSmall }

/-- 'trawllaw18.WalkEnds', WHERE WHAT IT READS IS OF BULK AT MOST 1048576: true; the input reads as it did. -/
def walkEndsUptoRow : OpenClaim := { program := "ytgpmiflfgpnhaaadoor", sum := "981f796b14a9a0563e3eb3742514f6cb9174a5afcc9518f559a6e409bf121033", func := "trawl/trawllaw18.WalkEnds", spec := "walkEnds", inPlace := ["internal/reflectlite.TypeOf"], unfollowed := true, recurses := true, named := ["trawl/api.ErrArgument", "trawl/api.ErrTree", "trawl/api.ErrBracket", "trawl/api.ErrParen", "trawl/api.ErrBrace", "trawl/api.ErrCount", "trawl/api.ErrRange", "trawl/api.ErrClass", "trawl/api.ErrCollate", "trawl/api.ErrEscape", "trawl/api.ErrRepeat", "trawl/api.ErrTooBig", "trawl/api.ErrNest", "trawl/api.ErrLong", "trawl/api.ErrDeep", "trawl/api.ErrNoMatch", "trawl/api.ErrImage", "trawl/api.ErrMany", "trawl/api.ErrOption", "trawl/api.ErrCommand", "trawl/api.ErrClosed"], apart := false, laid := [("trawl/api.ErrBracket", laid_trawl_api_ErrBracket), ("trawl/api.ErrParen", laid_trawl_api_ErrParen), ("trawl/api.ErrBrace", laid_trawl_api_ErrBrace), ("trawl/api.ErrCount", laid_trawl_api_ErrCount), ("trawl/api.ErrRange", laid_trawl_api_ErrRange), ("trawl/api.ErrClass", laid_trawl_api_ErrClass), ("trawl/api.ErrCollate", laid_trawl_api_ErrCollate), ("trawl/api.ErrEscape", laid_trawl_api_ErrEscape), ("trawl/api.ErrRepeat", laid_trawl_api_ErrRepeat), ("trawl/api.ErrTooBig", laid_trawl_api_ErrTooBig), ("trawl/api.ErrNest", laid_trawl_api_ErrNest), ("trawl/api.ErrLong", laid_trawl_api_ErrLong), ("trawl/api.ErrTree", laid_trawl_api_ErrTree), ("trawl/api.ErrDeep", laid_trawl_api_ErrDeep), ("trawl/api.ErrArgument", laid_trawl_api_ErrArgument), ("trawl/api.ErrNoMatch", laid_trawl_api_ErrNoMatch), ("trawl/api.ErrImage", laid_trawl_api_ErrImage), ("trawl/api.ErrMany", laid_trawl_api_ErrMany), ("trawl/api.ErrOption", laid_trawl_api_ErrOption), ("trawl/api.ErrCommand", laid_trawl_api_ErrCommand), ("trawl/api.ErrClosed", laid_trawl_api_ErrClosed)], narrowed := true }
def WalkEndsUptoSaid : Prop := walkEndsUptoRow.holds Tryd.pinned (OpenSpec.upto walkEndsSpec)

/-- 'trawllaw11.ReachRounds', WHERE WHAT IT READS IS OF BULK AT MOST 1048576: true; the input reads as it did. -/
def reachRoundsUptoRow : OpenClaim := { program := "ytgpmiflfgpnhaaadoor", sum := "981f796b14a9a0563e3eb3742514f6cb9174a5afcc9518f559a6e409bf121033", func := "trawl/trawllaw11.ReachRounds", spec := "reachRounds", recurses := true, named := ["trawl/api.ErrLong", "trawl/api.ErrArgument", "trawl/api.ErrTree", "trawl/api.ErrDeep", "trawl/api.ErrTooBig", "math/bits.deBruijn64tab"], loops := true, apart := false, laid := [("math/bits.deBruijn64tab", laid_math_bits_deBruijn64tab), ("trawl/api.ErrTooBig", laid_trawl_api_ErrTooBig), ("trawl/api.ErrLong", laid_trawl_api_ErrLong), ("trawl/api.ErrTree", laid_trawl_api_ErrTree), ("trawl/api.ErrDeep", laid_trawl_api_ErrDeep), ("trawl/api.ErrArgument", laid_trawl_api_ErrArgument)], narrowed := true }
def ReachRoundsUptoSaid : Prop := reachRoundsUptoRow.holds Tryd.pinned (OpenSpec.upto reachRoundsSpec)

/-- 'trawllaw18.WalkStarts', WHERE WHAT IT READS IS OF BULK AT MOST 1048576: true; the input reads as it did. -/
def walkStartsUptoRow : OpenClaim := { program := "ytgpmiflfgpnhaaadoor", sum := "981f796b14a9a0563e3eb3742514f6cb9174a5afcc9518f559a6e409bf121033", func := "trawl/trawllaw18.WalkStarts", spec := "walkStarts", inPlace := ["internal/reflectlite.TypeOf"], unfollowed := true, recurses := true, named := ["trawl/api.ErrArgument", "trawl/api.ErrTree", "trawl/api.ErrBracket", "trawl/api.ErrParen", "trawl/api.ErrBrace", "trawl/api.ErrCount", "trawl/api.ErrRange", "trawl/api.ErrClass", "trawl/api.ErrCollate", "trawl/api.ErrEscape", "trawl/api.ErrRepeat", "trawl/api.ErrTooBig", "trawl/api.ErrNest", "trawl/api.ErrLong", "trawl/api.ErrDeep", "trawl/api.ErrNoMatch", "trawl/api.ErrImage", "trawl/api.ErrMany", "trawl/api.ErrOption", "trawl/api.ErrCommand", "trawl/api.ErrClosed"], apart := false, laid := [("trawl/api.ErrBracket", laid_trawl_api_ErrBracket), ("trawl/api.ErrParen", laid_trawl_api_ErrParen), ("trawl/api.ErrBrace", laid_trawl_api_ErrBrace), ("trawl/api.ErrCount", laid_trawl_api_ErrCount), ("trawl/api.ErrRange", laid_trawl_api_ErrRange), ("trawl/api.ErrClass", laid_trawl_api_ErrClass), ("trawl/api.ErrCollate", laid_trawl_api_ErrCollate), ("trawl/api.ErrEscape", laid_trawl_api_ErrEscape), ("trawl/api.ErrRepeat", laid_trawl_api_ErrRepeat), ("trawl/api.ErrTooBig", laid_trawl_api_ErrTooBig), ("trawl/api.ErrNest", laid_trawl_api_ErrNest), ("trawl/api.ErrLong", laid_trawl_api_ErrLong), ("trawl/api.ErrTree", laid_trawl_api_ErrTree), ("trawl/api.ErrDeep", laid_trawl_api_ErrDeep), ("trawl/api.ErrArgument", laid_trawl_api_ErrArgument), ("trawl/api.ErrNoMatch", laid_trawl_api_ErrNoMatch), ("trawl/api.ErrImage", laid_trawl_api_ErrImage), ("trawl/api.ErrMany", laid_trawl_api_ErrMany), ("trawl/api.ErrOption", laid_trawl_api_ErrOption), ("trawl/api.ErrCommand", laid_trawl_api_ErrCommand), ("trawl/api.ErrClosed", laid_trawl_api_ErrClosed)], narrowed := true }
def WalkStartsUptoSaid : Prop := walkStartsUptoRow.holds Tryd.pinned (OpenSpec.upto walkStartsSpec)

/-- 'trawllaw18.WalkTogether', WHERE WHAT IT READS IS OF BULK AT MOST 1048576: true; the input reads as it did. -/
def walkTogetherUptoRow : OpenClaim := { program := "ytgpmiflfgpnhaaadoor", sum := "981f796b14a9a0563e3eb3742514f6cb9174a5afcc9518f559a6e409bf121033", func := "trawl/trawllaw18.WalkTogether", spec := "walkTogether", inPlace := ["internal/reflectlite.TypeOf"], unfollowed := true, recurses := true, named := ["trawl/api.ErrArgument", "trawl/api.ErrTree", "trawl/api.ErrBracket", "trawl/api.ErrParen", "trawl/api.ErrBrace", "trawl/api.ErrCount", "trawl/api.ErrRange", "trawl/api.ErrClass", "trawl/api.ErrCollate", "trawl/api.ErrEscape", "trawl/api.ErrRepeat", "trawl/api.ErrTooBig", "trawl/api.ErrNest", "trawl/api.ErrLong", "trawl/api.ErrDeep", "trawl/api.ErrNoMatch", "trawl/api.ErrImage", "trawl/api.ErrMany", "trawl/api.ErrOption", "trawl/api.ErrCommand", "trawl/api.ErrClosed"], apart := false, laid := [("trawl/api.ErrBracket", laid_trawl_api_ErrBracket), ("trawl/api.ErrParen", laid_trawl_api_ErrParen), ("trawl/api.ErrBrace", laid_trawl_api_ErrBrace), ("trawl/api.ErrCount", laid_trawl_api_ErrCount), ("trawl/api.ErrRange", laid_trawl_api_ErrRange), ("trawl/api.ErrClass", laid_trawl_api_ErrClass), ("trawl/api.ErrCollate", laid_trawl_api_ErrCollate), ("trawl/api.ErrEscape", laid_trawl_api_ErrEscape), ("trawl/api.ErrRepeat", laid_trawl_api_ErrRepeat), ("trawl/api.ErrTooBig", laid_trawl_api_ErrTooBig), ("trawl/api.ErrNest", laid_trawl_api_ErrNest), ("trawl/api.ErrLong", laid_trawl_api_ErrLong), ("trawl/api.ErrTree", laid_trawl_api_ErrTree), ("trawl/api.ErrDeep", laid_trawl_api_ErrDeep), ("trawl/api.ErrArgument", laid_trawl_api_ErrArgument), ("trawl/api.ErrNoMatch", laid_trawl_api_ErrNoMatch), ("trawl/api.ErrImage", laid_trawl_api_ErrImage), ("trawl/api.ErrMany", laid_trawl_api_ErrMany), ("trawl/api.ErrOption", laid_trawl_api_ErrOption), ("trawl/api.ErrCommand", laid_trawl_api_ErrCommand), ("trawl/api.ErrClosed", laid_trawl_api_ErrClosed)], narrowed := true }
def WalkTogetherUptoSaid : Prop := walkTogetherUptoRow.holds Tryd.pinned (OpenSpec.upto walkTogetherSpec)

/-- 'trawllaw11.ReachParts', WHERE WHAT IT READS IS OF BULK AT MOST 1048576: true; the input reads as it did. -/
def reachPartsUptoRow : OpenClaim := { program := "ytgpmiflfgpnhaaadoor", sum := "981f796b14a9a0563e3eb3742514f6cb9174a5afcc9518f559a6e409bf121033", func := "trawl/trawllaw11.ReachParts", spec := "reachParts", recurses := true, named := ["trawl/api.ErrLong", "trawl/api.ErrArgument", "trawl/api.ErrTree", "trawl/api.ErrDeep", "trawl/api.ErrTooBig", "math/bits.deBruijn64tab"], loops := true, apart := false, laid := [("math/bits.deBruijn64tab", laid_math_bits_deBruijn64tab), ("trawl/api.ErrTooBig", laid_trawl_api_ErrTooBig), ("trawl/api.ErrLong", laid_trawl_api_ErrLong), ("trawl/api.ErrTree", laid_trawl_api_ErrTree), ("trawl/api.ErrDeep", laid_trawl_api_ErrDeep), ("trawl/api.ErrArgument", laid_trawl_api_ErrArgument)], narrowed := true }
def ReachPartsUptoSaid : Prop := reachPartsUptoRow.holds Tryd.pinned (OpenSpec.upto reachPartsSpec)

/-- 'trawllaw11.ReachEnds', WHERE WHAT IT READS IS OF BULK AT MOST 1048576: true; the input reads as it did. -/
def reachEndsUptoRow : OpenClaim := { program := "ytgpmiflfgpnhaaadoor", sum := "981f796b14a9a0563e3eb3742514f6cb9174a5afcc9518f559a6e409bf121033", func := "trawl/trawllaw11.ReachEnds", spec := "reachEnds", inPlace := ["internal/reflectlite.TypeOf"], unfollowed := true, recurses := true, named := ["trawl/api.ErrLong", "trawl/api.ErrArgument", "trawl/api.ErrTree", "trawl/api.ErrDeep", "trawl/api.ErrTooBig", "math/bits.deBruijn64tab", "trawl/api.ErrBracket", "trawl/api.ErrParen", "trawl/api.ErrBrace", "trawl/api.ErrCount", "trawl/api.ErrRange", "trawl/api.ErrClass", "trawl/api.ErrCollate", "trawl/api.ErrEscape", "trawl/api.ErrRepeat", "trawl/api.ErrNest", "trawl/api.ErrNoMatch", "trawl/api.ErrImage", "trawl/api.ErrMany", "trawl/api.ErrOption", "trawl/api.ErrCommand", "trawl/api.ErrClosed"], loops := true, apart := false, laid := [("math/bits.deBruijn64tab", laid_math_bits_deBruijn64tab), ("trawl/api.ErrBracket", laid_trawl_api_ErrBracket), ("trawl/api.ErrParen", laid_trawl_api_ErrParen), ("trawl/api.ErrBrace", laid_trawl_api_ErrBrace), ("trawl/api.ErrCount", laid_trawl_api_ErrCount), ("trawl/api.ErrRange", laid_trawl_api_ErrRange), ("trawl/api.ErrClass", laid_trawl_api_ErrClass), ("trawl/api.ErrCollate", laid_trawl_api_ErrCollate), ("trawl/api.ErrEscape", laid_trawl_api_ErrEscape), ("trawl/api.ErrRepeat", laid_trawl_api_ErrRepeat), ("trawl/api.ErrTooBig", laid_trawl_api_ErrTooBig), ("trawl/api.ErrNest", laid_trawl_api_ErrNest), ("trawl/api.ErrLong", laid_trawl_api_ErrLong), ("trawl/api.ErrTree", laid_trawl_api_ErrTree), ("trawl/api.ErrDeep", laid_trawl_api_ErrDeep), ("trawl/api.ErrArgument", laid_trawl_api_ErrArgument), ("trawl/api.ErrNoMatch", laid_trawl_api_ErrNoMatch), ("trawl/api.ErrImage", laid_trawl_api_ErrImage), ("trawl/api.ErrMany", laid_trawl_api_ErrMany), ("trawl/api.ErrOption", laid_trawl_api_ErrOption), ("trawl/api.ErrCommand", laid_trawl_api_ErrCommand), ("trawl/api.ErrClosed", laid_trawl_api_ErrClosed)], narrowed := true }
def ReachEndsUptoSaid : Prop := reachEndsUptoRow.holds Tryd.pinned (OpenSpec.upto reachEndsSpec)

/-- 'trawllaw11.ReachTakes', WHERE WHAT IT READS IS OF BULK AT MOST 1048576: true; the input reads as it did. -/
def reachTakesUptoRow : OpenClaim := { program := "ytgpmiflfgpnhaaadoor", sum := "981f796b14a9a0563e3eb3742514f6cb9174a5afcc9518f559a6e409bf121033", func := "trawl/trawllaw11.ReachTakes", spec := "reachTakes", inPlace := ["internal/reflectlite.TypeOf"], unfollowed := true, recurses := true, named := ["trawl/api.ErrLong", "trawl/api.ErrArgument", "trawl/api.ErrTree", "trawl/api.ErrDeep", "trawl/api.ErrTooBig", "math/bits.deBruijn64tab", "trawl/api.ErrBracket", "trawl/api.ErrParen", "trawl/api.ErrBrace", "trawl/api.ErrCount", "trawl/api.ErrRange", "trawl/api.ErrClass", "trawl/api.ErrCollate", "trawl/api.ErrEscape", "trawl/api.ErrRepeat", "trawl/api.ErrNest", "trawl/api.ErrNoMatch", "trawl/api.ErrImage", "trawl/api.ErrMany", "trawl/api.ErrOption", "trawl/api.ErrCommand", "trawl/api.ErrClosed"], loops := true, apart := false, laid := [("math/bits.deBruijn64tab", laid_math_bits_deBruijn64tab), ("trawl/api.ErrBracket", laid_trawl_api_ErrBracket), ("trawl/api.ErrParen", laid_trawl_api_ErrParen), ("trawl/api.ErrBrace", laid_trawl_api_ErrBrace), ("trawl/api.ErrCount", laid_trawl_api_ErrCount), ("trawl/api.ErrRange", laid_trawl_api_ErrRange), ("trawl/api.ErrClass", laid_trawl_api_ErrClass), ("trawl/api.ErrCollate", laid_trawl_api_ErrCollate), ("trawl/api.ErrEscape", laid_trawl_api_ErrEscape), ("trawl/api.ErrRepeat", laid_trawl_api_ErrRepeat), ("trawl/api.ErrTooBig", laid_trawl_api_ErrTooBig), ("trawl/api.ErrNest", laid_trawl_api_ErrNest), ("trawl/api.ErrLong", laid_trawl_api_ErrLong), ("trawl/api.ErrTree", laid_trawl_api_ErrTree), ("trawl/api.ErrDeep", laid_trawl_api_ErrDeep), ("trawl/api.ErrArgument", laid_trawl_api_ErrArgument), ("trawl/api.ErrNoMatch", laid_trawl_api_ErrNoMatch), ("trawl/api.ErrImage", laid_trawl_api_ErrImage), ("trawl/api.ErrMany", laid_trawl_api_ErrMany), ("trawl/api.ErrOption", laid_trawl_api_ErrOption), ("trawl/api.ErrCommand", laid_trawl_api_ErrCommand), ("trawl/api.ErrClosed", laid_trawl_api_ErrClosed)], narrowed := true }
def ReachTakesUptoSaid : Prop := reachTakesUptoRow.holds Tryd.pinned (OpenSpec.upto reachTakesSpec)

end Rows
end Go.Proofs.YtgpmiflfgpnhaaaDoor
