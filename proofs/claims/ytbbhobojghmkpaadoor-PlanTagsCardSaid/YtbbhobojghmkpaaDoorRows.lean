/-
  NARROWER THAN 'FOR EVERY INPUT', by the rows' own cells (each row's printed sentence says how): NeedTexts: loops, laid · NeedNexts: loops, laid · PlanTags: loops, laid · PlanChooses: laid · PlanGoes: loops, laid · NeedPasses: loops, laid · NeedHolds: loops, laid · PlanMeans: loops, laid.
  DERIVED. THE GIVEN ROWS OF THIS SEAT. 8 by the template 'for every input the law returns true; each argument reads behind the call as it read before'; 0 by the template 'total and deterministic' (their statements: YtbbhobojghmkpaaDoorTotals.lean).
  GIVEN WITH THE SEED: the statements are not yours to turn. If you find one false, say at which input.
  Laid BY PROGRAM, IN A SANDBOX (cutbox-rows.mjs): the forced cells as the released guide's own fill.sh prints them over the translation ecddeef71c69e5bc… (all of the seat's roots in one cut). By AI agents, Wed Nov 11 2026. No macro, syntax, notation, axiom, sorry.
-/
import Derived.Test.YtbbhobojghmkpaaDoorChecked
import GoSem.Claim
import GoSem.ClaimJoined
import GoSem.ClaimMapViews
import Derived.JoinedTies
import Derived.KernelRfl
namespace Go.Proofs.YtbbhobojghmkpaaDoor
/- THE CELL 'sum', in the pinned program and in every row, IS THE sha256 OF THE DUMP (.gsa) THAT YtbbhobojghmkpaaDoorProg.lean LOADS. Nothing in Lean hashes anything: it is a label: what it is worth is what the hold of that sum in a sandbox is worth. -/
noncomputable def Tryd.pinned : Pinned := { name := "ytbbhobojghmkpaadoor", sum := "ecddeef71c69e5bc98e9bacff96201d98332c75a744dbb5254fbb9eac9f00774", checked := Tryd.checked }
namespace Rows
def none {H : Type} : Left H := { results := [], args := [] }

/- WHAT THE LISTED PACKAGE-LEVEL VARIABLES READ AS WHEN THE CALL BEGINS. Each datum BY PROGRAM (the guide's laid-datum.mjs) off the statement by which the dump's own 'gosem.cut.vars' lays the variable. In a bare row this is a premise. The card (YtbbhobojghmkpaaDoorCards.lean) ties it to the program's text. -/
def laid_math_bits_deBruijn64tab {H : Type} : DataW H := .agg [.lit (.int .u8 0), .lit (.int .u8 1), .lit (.int .u8 56), .lit (.int .u8 2), .lit (.int .u8 57), .lit (.int .u8 49), .lit (.int .u8 28), .lit (.int .u8 3), .lit (.int .u8 61), .lit (.int .u8 58), .lit (.int .u8 42), .lit (.int .u8 50), .lit (.int .u8 38), .lit (.int .u8 29), .lit (.int .u8 17), .lit (.int .u8 4), .lit (.int .u8 62), .lit (.int .u8 47), .lit (.int .u8 59), .lit (.int .u8 36), .lit (.int .u8 45), .lit (.int .u8 43), .lit (.int .u8 51), .lit (.int .u8 22), .lit (.int .u8 53), .lit (.int .u8 39), .lit (.int .u8 33), .lit (.int .u8 30), .lit (.int .u8 24), .lit (.int .u8 18), .lit (.int .u8 12), .lit (.int .u8 5), .lit (.int .u8 63), .lit (.int .u8 55), .lit (.int .u8 48), .lit (.int .u8 27), .lit (.int .u8 60), .lit (.int .u8 41), .lit (.int .u8 37), .lit (.int .u8 16), .lit (.int .u8 46), .lit (.int .u8 35), .lit (.int .u8 44), .lit (.int .u8 21), .lit (.int .u8 52), .lit (.int .u8 32), .lit (.int .u8 23), .lit (.int .u8 11), .lit (.int .u8 54), .lit (.int .u8 26), .lit (.int .u8 40), .lit (.int .u8 15), .lit (.int .u8 34), .lit (.int .u8 20), .lit (.int .u8 31), .lit (.int .u8 10), .lit (.int .u8 25), .lit (.int .u8 14), .lit (.int .u8 19), .lit (.int .u8 9), .lit (.int .u8 13), .lit (.int .u8 8), .lit (.int .u8 7), .lit (.int .u8 6)]
def laid_trawl_api_ErrTooBig {H : Type} : DataW H := .iface "*errors.errorString" (.ptr (.agg [.lit (.string [116, 114, 97, 119, 108, 58, 32, 116, 111, 111, 32, 98, 105, 103])]))
def laid_trawl_api_ErrTree {H : Type} : DataW H := .iface "*errors.errorString" (.ptr (.agg [.lit (.string [116, 114, 97, 119, 108, 58, 32, 116, 114, 101, 101])]))
def laid_trawl_api_ErrDeep {H : Type} : DataW H := .iface "*errors.errorString" (.ptr (.agg [.lit (.string [116, 114, 97, 119, 108, 58, 32, 100, 101, 101, 112])]))
def laid_trawl_api_ErrLong {H : Type} : DataW H := .iface "*errors.errorString" (.ptr (.agg [.lit (.string [116, 114, 97, 119, 108, 58, 32, 108, 111, 110, 103])]))
def laid_trawl_api_ErrArgument {H : Type} : DataW H := .iface "*errors.errorString" (.ptr (.agg [.lit (.string [116, 114, 97, 119, 108, 58, 32, 97, 114, 103, 117, 109, 101, 110, 116])]))

/-- 'trawllaw20.NeedTexts': WHATEVER THE INPUT: true; the input reads as it did. -/
def needTextsSpec : ChangeSpec := { name := "needTexts", fn := fun _ => fun
  | [d] => { results := [.lit (.bool true)], args := [d] }
  | _ => none }
def needTextsRow : OpenClaim := { program := "ytbbhobojghmkpaadoor", sum := "ecddeef71c69e5bc98e9bacff96201d98332c75a744dbb5254fbb9eac9f00774", func := "trawl/trawllaw20.NeedTexts", spec := "needTexts", inPlace := ["internal/abi.NoEscape", "internal/bytealg.MakeNoZero"], unfollowed := true, recurses := true, named := ["trawl/api.ErrTree", "trawl/api.ErrDeep", "trawl/api.ErrTooBig", "math/bits.deBruijn64tab"], loops := true, apart := false, laid := [("math/bits.deBruijn64tab", laid_math_bits_deBruijn64tab), ("trawl/api.ErrTooBig", laid_trawl_api_ErrTooBig), ("trawl/api.ErrTree", laid_trawl_api_ErrTree), ("trawl/api.ErrDeep", laid_trawl_api_ErrDeep)] }
def NeedTextsSaid : Prop := needTextsRow.holds Tryd.pinned (OpenSpec.ofChange needTextsSpec)

/-- ITS FALSE NEIGHBOUR: 'it returns false'. Refute it at one input. -/
def needTextsWrong : ChangeSpec := { name := "needTexts", fn := fun _ => fun
  | [d] => { results := [.lit (.bool false)], args := [d] }
  | _ => none }
def NeedTextsWrongFalsely : Prop := needTextsRow.holds Tryd.pinned (OpenSpec.ofChange needTextsWrong)

/-- 'trawllaw20.NeedNexts': WHATEVER THE INPUT: true; the input reads as it did. -/
def needNextsSpec : ChangeSpec := { name := "needNexts", fn := fun _ => fun
  | [d1, d2, d3] => { results := [.lit (.bool true)], args := [d1, d2, d3] }
  | _ => none }
def needNextsRow : OpenClaim := { program := "ytbbhobojghmkpaadoor", sum := "ecddeef71c69e5bc98e9bacff96201d98332c75a744dbb5254fbb9eac9f00774", func := "trawl/trawllaw20.NeedNexts", spec := "needNexts", inPlace := ["internal/abi.NoEscape", "internal/bytealg.MakeNoZero"], unfollowed := true, recurses := true, named := ["trawl/api.ErrTree", "trawl/api.ErrDeep", "trawl/api.ErrTooBig", "math/bits.deBruijn64tab"], loops := true, apart := false, laid := [("math/bits.deBruijn64tab", laid_math_bits_deBruijn64tab), ("trawl/api.ErrTooBig", laid_trawl_api_ErrTooBig), ("trawl/api.ErrTree", laid_trawl_api_ErrTree), ("trawl/api.ErrDeep", laid_trawl_api_ErrDeep)] }
def NeedNextsSaid : Prop := needNextsRow.holds Tryd.pinned (OpenSpec.ofChange needNextsSpec)

/-- ITS FALSE NEIGHBOUR: 'it returns false'. Refute it at one input. -/
def needNextsWrong : ChangeSpec := { name := "needNexts", fn := fun _ => fun
  | [d1, d2, d3] => { results := [.lit (.bool false)], args := [d1, d2, d3] }
  | _ => none }
def NeedNextsWrongFalsely : Prop := needNextsRow.holds Tryd.pinned (OpenSpec.ofChange needNextsWrong)

/-- 'trawllaw23.PlanTags': WHATEVER THE INPUT: true; the input reads as it did. -/
def planTagsSpec : ChangeSpec := { name := "planTags", fn := fun _ => fun
  | [d] => { results := [.lit (.bool true)], args := [d] }
  | _ => none }
def planTagsRow : OpenClaim := { program := "ytbbhobojghmkpaadoor", sum := "ecddeef71c69e5bc98e9bacff96201d98332c75a744dbb5254fbb9eac9f00774", func := "trawl/trawllaw23.PlanTags", spec := "planTags", inPlace := ["internal/abi.NoEscape", "internal/bytealg.MakeNoZero"], unfollowed := true, recurses := true, named := ["trawl/api.ErrTree", "trawl/api.ErrDeep", "trawl/api.ErrTooBig", "math/bits.deBruijn64tab"], loops := true, apart := false, laid := [("math/bits.deBruijn64tab", laid_math_bits_deBruijn64tab), ("trawl/api.ErrTooBig", laid_trawl_api_ErrTooBig), ("trawl/api.ErrTree", laid_trawl_api_ErrTree), ("trawl/api.ErrDeep", laid_trawl_api_ErrDeep)] }
def PlanTagsSaid : Prop := planTagsRow.holds Tryd.pinned (OpenSpec.ofChange planTagsSpec)

/-- ITS FALSE NEIGHBOUR: 'it returns false'. Refute it at one input. -/
def planTagsWrong : ChangeSpec := { name := "planTags", fn := fun _ => fun
  | [d] => { results := [.lit (.bool false)], args := [d] }
  | _ => none }
def PlanTagsWrongFalsely : Prop := planTagsRow.holds Tryd.pinned (OpenSpec.ofChange planTagsWrong)

/-- 'trawllaw23.PlanChooses': WHATEVER THE INPUT: true; the input reads as it did. -/
def planChoosesSpec : ChangeSpec := { name := "planChooses", fn := fun _ => fun
  | [d1, d2, d3] => { results := [.lit (.bool true)], args := [d1, d2, d3] }
  | _ => none }
def planChoosesRow : OpenClaim := { program := "ytbbhobojghmkpaadoor", sum := "ecddeef71c69e5bc98e9bacff96201d98332c75a744dbb5254fbb9eac9f00774", func := "trawl/trawllaw23.PlanChooses", spec := "planChooses", inPlace := ["internal/abi.NoEscape", "internal/bytealg.MakeNoZero"], unfollowed := true, recurses := true, named := ["trawl/api.ErrTree", "trawl/api.ErrDeep", "trawl/api.ErrTooBig", "math/bits.deBruijn64tab"], apart := false, laid := [("math/bits.deBruijn64tab", laid_math_bits_deBruijn64tab), ("trawl/api.ErrTooBig", laid_trawl_api_ErrTooBig), ("trawl/api.ErrTree", laid_trawl_api_ErrTree), ("trawl/api.ErrDeep", laid_trawl_api_ErrDeep)] }
def PlanChoosesSaid : Prop := planChoosesRow.holds Tryd.pinned (OpenSpec.ofChange planChoosesSpec)

/-- ITS FALSE NEIGHBOUR: 'it returns false'. Refute it at one input. -/
def planChoosesWrong : ChangeSpec := { name := "planChooses", fn := fun _ => fun
  | [d1, d2, d3] => { results := [.lit (.bool false)], args := [d1, d2, d3] }
  | _ => none }
def PlanChoosesWrongFalsely : Prop := planChoosesRow.holds Tryd.pinned (OpenSpec.ofChange planChoosesWrong)

/-- 'trawllaw23.PlanGoes': WHATEVER THE INPUT: true; the input reads as it did. -/
def planGoesSpec : ChangeSpec := { name := "planGoes", fn := fun _ => fun
  | [d1, d2] => { results := [.lit (.bool true)], args := [d1, d2] }
  | _ => none }
def planGoesRow : OpenClaim := { program := "ytbbhobojghmkpaadoor", sum := "ecddeef71c69e5bc98e9bacff96201d98332c75a744dbb5254fbb9eac9f00774", func := "trawl/trawllaw23.PlanGoes", spec := "planGoes", inPlace := ["internal/abi.NoEscape", "internal/bytealg.MakeNoZero"], unfollowed := true, recurses := true, named := ["trawl/api.ErrTree", "trawl/api.ErrDeep", "trawl/api.ErrTooBig", "math/bits.deBruijn64tab"], loops := true, apart := false, laid := [("math/bits.deBruijn64tab", laid_math_bits_deBruijn64tab), ("trawl/api.ErrTooBig", laid_trawl_api_ErrTooBig), ("trawl/api.ErrTree", laid_trawl_api_ErrTree), ("trawl/api.ErrDeep", laid_trawl_api_ErrDeep)] }
def PlanGoesSaid : Prop := planGoesRow.holds Tryd.pinned (OpenSpec.ofChange planGoesSpec)

/-- ITS FALSE NEIGHBOUR: 'it returns false'. Refute it at one input. -/
def planGoesWrong : ChangeSpec := { name := "planGoes", fn := fun _ => fun
  | [d1, d2] => { results := [.lit (.bool false)], args := [d1, d2] }
  | _ => none }
def PlanGoesWrongFalsely : Prop := planGoesRow.holds Tryd.pinned (OpenSpec.ofChange planGoesWrong)

/-- 'trawllaw20.NeedPasses': WHATEVER THE INPUT: true; the input reads as it did. -/
def needPassesSpec : ChangeSpec := { name := "needPasses", fn := fun _ => fun
  | [d1, d2, d3] => { results := [.lit (.bool true)], args := [d1, d2, d3] }
  | _ => none }
def needPassesRow : OpenClaim := { program := "ytbbhobojghmkpaadoor", sum := "ecddeef71c69e5bc98e9bacff96201d98332c75a744dbb5254fbb9eac9f00774", func := "trawl/trawllaw20.NeedPasses", spec := "needPasses", inPlace := ["internal/abi.NoEscape", "internal/bytealg.MakeNoZero"], unfollowed := true, recurses := true, named := ["trawl/api.ErrTree", "trawl/api.ErrDeep", "trawl/api.ErrTooBig", "math/bits.deBruijn64tab", "trawl/api.ErrLong", "trawl/api.ErrArgument"], loops := true, apart := false, laid := [("math/bits.deBruijn64tab", laid_math_bits_deBruijn64tab), ("trawl/api.ErrTooBig", laid_trawl_api_ErrTooBig), ("trawl/api.ErrLong", laid_trawl_api_ErrLong), ("trawl/api.ErrTree", laid_trawl_api_ErrTree), ("trawl/api.ErrDeep", laid_trawl_api_ErrDeep), ("trawl/api.ErrArgument", laid_trawl_api_ErrArgument)] }
def NeedPassesSaid : Prop := needPassesRow.holds Tryd.pinned (OpenSpec.ofChange needPassesSpec)

/-- ITS FALSE NEIGHBOUR: 'it returns false'. Refute it at one input. -/
def needPassesWrong : ChangeSpec := { name := "needPasses", fn := fun _ => fun
  | [d1, d2, d3] => { results := [.lit (.bool false)], args := [d1, d2, d3] }
  | _ => none }
def NeedPassesWrongFalsely : Prop := needPassesRow.holds Tryd.pinned (OpenSpec.ofChange needPassesWrong)

/-- 'trawllaw20.NeedHolds': WHATEVER THE INPUT: true; the input reads as it did. -/
def needHoldsSpec : ChangeSpec := { name := "needHolds", fn := fun _ => fun
  | [d1, d2] => { results := [.lit (.bool true)], args := [d1, d2] }
  | _ => none }
def needHoldsRow : OpenClaim := { program := "ytbbhobojghmkpaadoor", sum := "ecddeef71c69e5bc98e9bacff96201d98332c75a744dbb5254fbb9eac9f00774", func := "trawl/trawllaw20.NeedHolds", spec := "needHolds", inPlace := ["internal/abi.NoEscape", "internal/bytealg.MakeNoZero", "internal/bytealg.IndexByteString", "internal/bytealg.IndexString"], unfollowed := true, recurses := true, named := ["trawl/api.ErrTree", "trawl/api.ErrDeep", "trawl/api.ErrTooBig", "math/bits.deBruijn64tab", "trawl/api.ErrLong", "trawl/api.ErrArgument", "internal/bytealg.MaxLen"], loops := true, apart := false, laid := [("math/bits.deBruijn64tab", laid_math_bits_deBruijn64tab), ("trawl/api.ErrTooBig", laid_trawl_api_ErrTooBig), ("trawl/api.ErrLong", laid_trawl_api_ErrLong), ("trawl/api.ErrTree", laid_trawl_api_ErrTree), ("trawl/api.ErrDeep", laid_trawl_api_ErrDeep), ("trawl/api.ErrArgument", laid_trawl_api_ErrArgument)] }
def NeedHoldsSaid : Prop := needHoldsRow.holds Tryd.pinned (OpenSpec.ofChange needHoldsSpec)

/-- ITS FALSE NEIGHBOUR: 'it returns false'. Refute it at one input. -/
def needHoldsWrong : ChangeSpec := { name := "needHolds", fn := fun _ => fun
  | [d1, d2] => { results := [.lit (.bool false)], args := [d1, d2] }
  | _ => none }
def NeedHoldsWrongFalsely : Prop := needHoldsRow.holds Tryd.pinned (OpenSpec.ofChange needHoldsWrong)

/-- 'trawllaw23.PlanMeans': WHATEVER THE INPUT: true; the input reads as it did. -/
def planMeansSpec : ChangeSpec := { name := "planMeans", fn := fun _ => fun
  | [d1, d2, d3] => { results := [.lit (.bool true)], args := [d1, d2, d3] }
  | _ => none }
def planMeansRow : OpenClaim := { program := "ytbbhobojghmkpaadoor", sum := "ecddeef71c69e5bc98e9bacff96201d98332c75a744dbb5254fbb9eac9f00774", func := "trawl/trawllaw23.PlanMeans", spec := "planMeans", inPlace := ["internal/abi.NoEscape", "internal/bytealg.MakeNoZero"], unfollowed := true, recurses := true, named := ["trawl/api.ErrTree", "trawl/api.ErrDeep", "trawl/api.ErrTooBig", "math/bits.deBruijn64tab", "trawl/api.ErrLong", "trawl/api.ErrArgument"], loops := true, apart := false, laid := [("math/bits.deBruijn64tab", laid_math_bits_deBruijn64tab), ("trawl/api.ErrTooBig", laid_trawl_api_ErrTooBig), ("trawl/api.ErrLong", laid_trawl_api_ErrLong), ("trawl/api.ErrTree", laid_trawl_api_ErrTree), ("trawl/api.ErrDeep", laid_trawl_api_ErrDeep), ("trawl/api.ErrArgument", laid_trawl_api_ErrArgument)] }
def PlanMeansSaid : Prop := planMeansRow.holds Tryd.pinned (OpenSpec.ofChange planMeansSpec)

/-- ITS FALSE NEIGHBOUR: 'it returns false'. Refute it at one input. -/
def planMeansWrong : ChangeSpec := { name := "planMeans", fn := fun _ => fun
  | [d1, d2, d3] => { results := [.lit (.bool false)], args := [d1, d2, d3] }
  | _ => none }
def PlanMeansWrongFalsely : Prop := planMeansRow.holds Tryd.pinned (OpenSpec.ofChange planMeansWrong)

/- THE SECOND FORM. 'bulk': how many values and letters a reading holds, each counted each time it is reached (what is shared counts as often as it is met; a slice's spare places count too). A statement '..UptoSaid' is the law's where the arguments, and the package variables that the reading takes, are together of bulk at most 1048576: NARROWER than '..Said'. Prove '..Said' where nothing that the law and all that it calls make is longer than what came in: it says more and counts as full. Else prove '..UptoSaid'. A law counts once. -/
mutual
def uptoBulk {H : Type} : DataW H → Nat
  | .lit (.string bytes) => bytes.length + 1
  | .lit _ => 1
  | .nil => 1
  | .ptr d => uptoBulk d + 1
  | .slice elems spare => uptoBulkAll elems + uptoBulkAll spare + 1
  | .agg parts => uptoBulkAll parts + 1
  | .iface _ d => uptoBulk d + 1
  | .map entries => uptoBulkEntries entries + 1
  | .held _ => 1
def uptoBulkAll {H : Type} : List (DataW H) → Nat
  | [] => 0
  | d :: r => uptoBulk d + uptoBulkAll r
def uptoBulkEntries {H : Type} : List (Lit × DataW H) → Nat
  | [] => 0
  | x :: r => uptoBulkEntry x + uptoBulkEntries r
def uptoBulkEntry {H : Type} : Lit × DataW H → Nat
  | (.string bytes, d) => bytes.length + uptoBulk d + 1
  | (_, d) => uptoBulk d + 1
 end
def uptoSmall : (H : Type) → List (DataW H) → Bool := fun _ ds => decide (uptoBulkAll ds ≤ 1048576)
def OpenSpec.upto (s : _root_.Go.ChangeSpec) : _root_.Go.OpenSpec := { _root_.Go.OpenSpec.ofChange s with cond := some uptoSmall }

/-- 'trawllaw20.NeedTexts', WHERE WHAT IT READS IS OF BULK AT MOST 1048576: true; the input reads as it did. -/
def needTextsUptoRow : OpenClaim := { program := "ytbbhobojghmkpaadoor", sum := "ecddeef71c69e5bc98e9bacff96201d98332c75a744dbb5254fbb9eac9f00774", func := "trawl/trawllaw20.NeedTexts", spec := "needTexts", inPlace := ["internal/abi.NoEscape", "internal/bytealg.MakeNoZero"], unfollowed := true, recurses := true, named := ["trawl/api.ErrTree", "trawl/api.ErrDeep", "trawl/api.ErrTooBig", "math/bits.deBruijn64tab"], loops := true, apart := false, laid := [("math/bits.deBruijn64tab", laid_math_bits_deBruijn64tab), ("trawl/api.ErrTooBig", laid_trawl_api_ErrTooBig), ("trawl/api.ErrTree", laid_trawl_api_ErrTree), ("trawl/api.ErrDeep", laid_trawl_api_ErrDeep)], narrowed := true }
def NeedTextsUptoSaid : Prop := needTextsUptoRow.holds Tryd.pinned (OpenSpec.upto needTextsSpec)

/-- 'trawllaw20.NeedNexts', WHERE WHAT IT READS IS OF BULK AT MOST 1048576: true; the input reads as it did. -/
def needNextsUptoRow : OpenClaim := { program := "ytbbhobojghmkpaadoor", sum := "ecddeef71c69e5bc98e9bacff96201d98332c75a744dbb5254fbb9eac9f00774", func := "trawl/trawllaw20.NeedNexts", spec := "needNexts", inPlace := ["internal/abi.NoEscape", "internal/bytealg.MakeNoZero"], unfollowed := true, recurses := true, named := ["trawl/api.ErrTree", "trawl/api.ErrDeep", "trawl/api.ErrTooBig", "math/bits.deBruijn64tab"], loops := true, apart := false, laid := [("math/bits.deBruijn64tab", laid_math_bits_deBruijn64tab), ("trawl/api.ErrTooBig", laid_trawl_api_ErrTooBig), ("trawl/api.ErrTree", laid_trawl_api_ErrTree), ("trawl/api.ErrDeep", laid_trawl_api_ErrDeep)], narrowed := true }
def NeedNextsUptoSaid : Prop := needNextsUptoRow.holds Tryd.pinned (OpenSpec.upto needNextsSpec)

/-- 'trawllaw23.PlanTags', WHERE WHAT IT READS IS OF BULK AT MOST 1048576: true; the input reads as it did. -/
def planTagsUptoRow : OpenClaim := { program := "ytbbhobojghmkpaadoor", sum := "ecddeef71c69e5bc98e9bacff96201d98332c75a744dbb5254fbb9eac9f00774", func := "trawl/trawllaw23.PlanTags", spec := "planTags", inPlace := ["internal/abi.NoEscape", "internal/bytealg.MakeNoZero"], unfollowed := true, recurses := true, named := ["trawl/api.ErrTree", "trawl/api.ErrDeep", "trawl/api.ErrTooBig", "math/bits.deBruijn64tab"], loops := true, apart := false, laid := [("math/bits.deBruijn64tab", laid_math_bits_deBruijn64tab), ("trawl/api.ErrTooBig", laid_trawl_api_ErrTooBig), ("trawl/api.ErrTree", laid_trawl_api_ErrTree), ("trawl/api.ErrDeep", laid_trawl_api_ErrDeep)], narrowed := true }
def PlanTagsUptoSaid : Prop := planTagsUptoRow.holds Tryd.pinned (OpenSpec.upto planTagsSpec)

/-- 'trawllaw23.PlanChooses', WHERE WHAT IT READS IS OF BULK AT MOST 1048576: true; the input reads as it did. -/
def planChoosesUptoRow : OpenClaim := { program := "ytbbhobojghmkpaadoor", sum := "ecddeef71c69e5bc98e9bacff96201d98332c75a744dbb5254fbb9eac9f00774", func := "trawl/trawllaw23.PlanChooses", spec := "planChooses", inPlace := ["internal/abi.NoEscape", "internal/bytealg.MakeNoZero"], unfollowed := true, recurses := true, named := ["trawl/api.ErrTree", "trawl/api.ErrDeep", "trawl/api.ErrTooBig", "math/bits.deBruijn64tab"], apart := false, laid := [("math/bits.deBruijn64tab", laid_math_bits_deBruijn64tab), ("trawl/api.ErrTooBig", laid_trawl_api_ErrTooBig), ("trawl/api.ErrTree", laid_trawl_api_ErrTree), ("trawl/api.ErrDeep", laid_trawl_api_ErrDeep)], narrowed := true }
def PlanChoosesUptoSaid : Prop := planChoosesUptoRow.holds Tryd.pinned (OpenSpec.upto planChoosesSpec)

/-- 'trawllaw23.PlanGoes', WHERE WHAT IT READS IS OF BULK AT MOST 1048576: true; the input reads as it did. -/
def planGoesUptoRow : OpenClaim := { program := "ytbbhobojghmkpaadoor", sum := "ecddeef71c69e5bc98e9bacff96201d98332c75a744dbb5254fbb9eac9f00774", func := "trawl/trawllaw23.PlanGoes", spec := "planGoes", inPlace := ["internal/abi.NoEscape", "internal/bytealg.MakeNoZero"], unfollowed := true, recurses := true, named := ["trawl/api.ErrTree", "trawl/api.ErrDeep", "trawl/api.ErrTooBig", "math/bits.deBruijn64tab"], loops := true, apart := false, laid := [("math/bits.deBruijn64tab", laid_math_bits_deBruijn64tab), ("trawl/api.ErrTooBig", laid_trawl_api_ErrTooBig), ("trawl/api.ErrTree", laid_trawl_api_ErrTree), ("trawl/api.ErrDeep", laid_trawl_api_ErrDeep)], narrowed := true }
def PlanGoesUptoSaid : Prop := planGoesUptoRow.holds Tryd.pinned (OpenSpec.upto planGoesSpec)

/-- 'trawllaw20.NeedPasses', WHERE WHAT IT READS IS OF BULK AT MOST 1048576: true; the input reads as it did. -/
def needPassesUptoRow : OpenClaim := { program := "ytbbhobojghmkpaadoor", sum := "ecddeef71c69e5bc98e9bacff96201d98332c75a744dbb5254fbb9eac9f00774", func := "trawl/trawllaw20.NeedPasses", spec := "needPasses", inPlace := ["internal/abi.NoEscape", "internal/bytealg.MakeNoZero"], unfollowed := true, recurses := true, named := ["trawl/api.ErrTree", "trawl/api.ErrDeep", "trawl/api.ErrTooBig", "math/bits.deBruijn64tab", "trawl/api.ErrLong", "trawl/api.ErrArgument"], loops := true, apart := false, laid := [("math/bits.deBruijn64tab", laid_math_bits_deBruijn64tab), ("trawl/api.ErrTooBig", laid_trawl_api_ErrTooBig), ("trawl/api.ErrLong", laid_trawl_api_ErrLong), ("trawl/api.ErrTree", laid_trawl_api_ErrTree), ("trawl/api.ErrDeep", laid_trawl_api_ErrDeep), ("trawl/api.ErrArgument", laid_trawl_api_ErrArgument)], narrowed := true }
def NeedPassesUptoSaid : Prop := needPassesUptoRow.holds Tryd.pinned (OpenSpec.upto needPassesSpec)

/-- 'trawllaw20.NeedHolds', WHERE WHAT IT READS IS OF BULK AT MOST 1048576: true; the input reads as it did. -/
def needHoldsUptoRow : OpenClaim := { program := "ytbbhobojghmkpaadoor", sum := "ecddeef71c69e5bc98e9bacff96201d98332c75a744dbb5254fbb9eac9f00774", func := "trawl/trawllaw20.NeedHolds", spec := "needHolds", inPlace := ["internal/abi.NoEscape", "internal/bytealg.MakeNoZero", "internal/bytealg.IndexByteString", "internal/bytealg.IndexString"], unfollowed := true, recurses := true, named := ["trawl/api.ErrTree", "trawl/api.ErrDeep", "trawl/api.ErrTooBig", "math/bits.deBruijn64tab", "trawl/api.ErrLong", "trawl/api.ErrArgument", "internal/bytealg.MaxLen"], loops := true, apart := false, laid := [("math/bits.deBruijn64tab", laid_math_bits_deBruijn64tab), ("trawl/api.ErrTooBig", laid_trawl_api_ErrTooBig), ("trawl/api.ErrLong", laid_trawl_api_ErrLong), ("trawl/api.ErrTree", laid_trawl_api_ErrTree), ("trawl/api.ErrDeep", laid_trawl_api_ErrDeep), ("trawl/api.ErrArgument", laid_trawl_api_ErrArgument)], narrowed := true }
def NeedHoldsUptoSaid : Prop := needHoldsUptoRow.holds Tryd.pinned (OpenSpec.upto needHoldsSpec)

/-- 'trawllaw23.PlanMeans', WHERE WHAT IT READS IS OF BULK AT MOST 1048576: true; the input reads as it did. -/
def planMeansUptoRow : OpenClaim := { program := "ytbbhobojghmkpaadoor", sum := "ecddeef71c69e5bc98e9bacff96201d98332c75a744dbb5254fbb9eac9f00774", func := "trawl/trawllaw23.PlanMeans", spec := "planMeans", inPlace := ["internal/abi.NoEscape", "internal/bytealg.MakeNoZero"], unfollowed := true, recurses := true, named := ["trawl/api.ErrTree", "trawl/api.ErrDeep", "trawl/api.ErrTooBig", "math/bits.deBruijn64tab", "trawl/api.ErrLong", "trawl/api.ErrArgument"], loops := true, apart := false, laid := [("math/bits.deBruijn64tab", laid_math_bits_deBruijn64tab), ("trawl/api.ErrTooBig", laid_trawl_api_ErrTooBig), ("trawl/api.ErrLong", laid_trawl_api_ErrLong), ("trawl/api.ErrTree", laid_trawl_api_ErrTree), ("trawl/api.ErrDeep", laid_trawl_api_ErrDeep), ("trawl/api.ErrArgument", laid_trawl_api_ErrArgument)], narrowed := true }
def PlanMeansUptoSaid : Prop := planMeansUptoRow.holds Tryd.pinned (OpenSpec.upto planMeansSpec)

end Rows
end Go.Proofs.YtbbhobojghmkpaaDoor
