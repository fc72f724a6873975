/-
  NARROWER THAN 'FOR EVERY INPUT', by the rows' own cells (each row's printed sentence says how): TypecheckErrors: loops, laid · TypecheckTypes: loops, laid · TypecheckRanges: loops, laid · TypecheckSteps: loops, laid · TypecheckNames: loops, laid · TypecheckWait: loops, laid · TypecheckWider: loops, laid · TypecheckAgain: loops, laid.
  DERIVED. THE GIVEN ROWS OF THIS SEAT. 8 by the template 'for every input the law returns true; each argument reads behind the call as it read before'; 0 by the template 'total and deterministic' (their statements: YtdkabnfphmmmnaaGreatDoorTotals.lean).
  GIVEN WITH THE SEED: the statements are not yours to turn. If you find one false, say at which input.
  Laid BY PROGRAM, IN A SANDBOX (cutbox-rows.mjs): the forced cells as the released guide's own fill.sh prints them over the translation 092adfa003e003b6… (all of the seat's roots in one cut). By AI agents, Wed Nov 11 2026. No macro, syntax, notation, axiom, sorry.
-/
import Derived.Test.YtdkabnfphmmmnaaGreatDoorChecked
import GoSem.Claim
import GoSem.ClaimJoined
import GoSem.ClaimMapViews
import Derived.JoinedTies
import Derived.KernelRfl
namespace Go.Proofs.YtdkabnfphmmmnaaGreatDoor
/- THE CELL 'sum', in the pinned program and in every row, IS THE sha256 OF THE DUMP (.gsa) THAT YtdkabnfphmmmnaaGreatDoorProg.lean LOADS. Nothing in Lean hashes anything: it is a label: what it is worth is what the hold of that sum in a sandbox is worth. -/
noncomputable def Tryz.pinned : Pinned := { name := "ytdkabnfphmmmnaagreatdoor", sum := "092adfa003e003b64d0f6cdeaa0295d7a6cbb2b8a60ae0384ae57fb6f188921e", checked := Tryz.checked }
namespace Rows
def none {H : Type} : Left H := { results := [], args := [] }

/- WHAT THE LISTED PACKAGE-LEVEL VARIABLES READ AS WHEN THE CALL BEGINS. Each datum BY PROGRAM (the guide's laid-datum.mjs) off the statement by which the dump's own 'gosem.cut.vars' lays the variable. In a bare row this is a premise. The card (YtdkabnfphmmmnaaGreatDoorCards.lean) ties it to the program's text. -/
def laid_math_bits_deBruijn32tab {H : Type} : DataW H := .agg [.lit (.int .u8 0), .lit (.int .u8 1), .lit (.int .u8 28), .lit (.int .u8 2), .lit (.int .u8 29), .lit (.int .u8 14), .lit (.int .u8 24), .lit (.int .u8 3), .lit (.int .u8 30), .lit (.int .u8 22), .lit (.int .u8 20), .lit (.int .u8 15), .lit (.int .u8 25), .lit (.int .u8 17), .lit (.int .u8 4), .lit (.int .u8 8), .lit (.int .u8 31), .lit (.int .u8 27), .lit (.int .u8 13), .lit (.int .u8 23), .lit (.int .u8 21), .lit (.int .u8 19), .lit (.int .u8 16), .lit (.int .u8 7), .lit (.int .u8 26), .lit (.int .u8 12), .lit (.int .u8 18), .lit (.int .u8 6), .lit (.int .u8 11), .lit (.int .u8 5), .lit (.int .u8 10), .lit (.int .u8 9)]
def laid_math_bits_deBruijn64tab {H : Type} : DataW H := .agg [.lit (.int .u8 0), .lit (.int .u8 1), .lit (.int .u8 56), .lit (.int .u8 2), .lit (.int .u8 57), .lit (.int .u8 49), .lit (.int .u8 28), .lit (.int .u8 3), .lit (.int .u8 61), .lit (.int .u8 58), .lit (.int .u8 42), .lit (.int .u8 50), .lit (.int .u8 38), .lit (.int .u8 29), .lit (.int .u8 17), .lit (.int .u8 4), .lit (.int .u8 62), .lit (.int .u8 47), .lit (.int .u8 59), .lit (.int .u8 36), .lit (.int .u8 45), .lit (.int .u8 43), .lit (.int .u8 51), .lit (.int .u8 22), .lit (.int .u8 53), .lit (.int .u8 39), .lit (.int .u8 33), .lit (.int .u8 30), .lit (.int .u8 24), .lit (.int .u8 18), .lit (.int .u8 12), .lit (.int .u8 5), .lit (.int .u8 63), .lit (.int .u8 55), .lit (.int .u8 48), .lit (.int .u8 27), .lit (.int .u8 60), .lit (.int .u8 41), .lit (.int .u8 37), .lit (.int .u8 16), .lit (.int .u8 46), .lit (.int .u8 35), .lit (.int .u8 44), .lit (.int .u8 21), .lit (.int .u8 52), .lit (.int .u8 32), .lit (.int .u8 23), .lit (.int .u8 11), .lit (.int .u8 54), .lit (.int .u8 26), .lit (.int .u8 40), .lit (.int .u8 15), .lit (.int .u8 34), .lit (.int .u8 20), .lit (.int .u8 31), .lit (.int .u8 10), .lit (.int .u8 25), .lit (.int .u8 14), .lit (.int .u8 19), .lit (.int .u8 9), .lit (.int .u8 13), .lit (.int .u8 8), .lit (.int .u8 7), .lit (.int .u8 6)]
def laid_internal_strconv_uint64pow10 {H : Type} : DataW H := .agg [.lit (.int .u64 1), .lit (.int .u64 10), .lit (.int .u64 100), .lit (.int .u64 1000), .lit (.int .u64 10000), .lit (.int .u64 100000), .lit (.int .u64 1000000), .lit (.int .u64 10000000), .lit (.int .u64 100000000), .lit (.int .u64 1000000000), .lit (.int .u64 10000000000), .lit (.int .u64 100000000000), .lit (.int .u64 1000000000000), .lit (.int .u64 10000000000000), .lit (.int .u64 100000000000000), .lit (.int .u64 1000000000000000), .lit (.int .u64 10000000000000000), .lit (.int .u64 100000000000000000), .lit (.int .u64 1000000000000000000), .lit (.int .u64 10000000000000000000)]

/-- 'keyholelaw14.TypecheckErrors': WHATEVER THE INPUT: true; the input reads as it did. -/
def typecheckErrorsSpec : ChangeSpec := { name := "typecheckErrors", fn := fun _ => fun
  | [d] => { results := [.lit (.bool true)], args := [d] }
  | _ => none }
def typecheckErrorsRow : OpenClaim := { program := "ytdkabnfphmmmnaagreatdoor", sum := "092adfa003e003b64d0f6cdeaa0295d7a6cbb2b8a60ae0384ae57fb6f188921e", func := "keyhole/keyholelaw14.TypecheckErrors", spec := "typecheckErrors", inPlace := ["internal/bytealg.IndexByteString", "internal/bytealg.IndexString"], unfollowed := true, recurses := true, named := ["internal/bytealg.MaxLen", "internal/strconv.uint64pow10", "math/bits.deBruijn32tab", "math/bits.deBruijn64tab"], loops := true, apart := false, laid := [("math/bits.deBruijn32tab", laid_math_bits_deBruijn32tab), ("math/bits.deBruijn64tab", laid_math_bits_deBruijn64tab), ("internal/strconv.uint64pow10", laid_internal_strconv_uint64pow10)] }
def TypecheckErrorsSaid : Prop := typecheckErrorsRow.holds Tryz.pinned (OpenSpec.ofChange typecheckErrorsSpec)

/-- ITS FALSE NEIGHBOUR: 'it returns false'. Refute it at one input. -/
def typecheckErrorsWrong : ChangeSpec := { name := "typecheckErrors", fn := fun _ => fun
  | [d] => { results := [.lit (.bool false)], args := [d] }
  | _ => none }
def TypecheckErrorsWrongFalsely : Prop := typecheckErrorsRow.holds Tryz.pinned (OpenSpec.ofChange typecheckErrorsWrong)

/-- 'keyholelaw14.TypecheckTypes': WHATEVER THE INPUT: true; the input reads as it did. -/
def typecheckTypesSpec : ChangeSpec := { name := "typecheckTypes", fn := fun _ => fun
  | [d1, d2] => { results := [.lit (.bool true)], args := [d1, d2] }
  | _ => none }
def typecheckTypesRow : OpenClaim := { program := "ytdkabnfphmmmnaagreatdoor", sum := "092adfa003e003b64d0f6cdeaa0295d7a6cbb2b8a60ae0384ae57fb6f188921e", func := "keyhole/keyholelaw14.TypecheckTypes", spec := "typecheckTypes", inPlace := ["internal/bytealg.IndexByteString", "internal/bytealg.IndexString"], unfollowed := true, recurses := true, named := ["internal/bytealg.MaxLen", "internal/strconv.uint64pow10", "math/bits.deBruijn32tab", "math/bits.deBruijn64tab"], loops := true, apart := false, laid := [("math/bits.deBruijn32tab", laid_math_bits_deBruijn32tab), ("math/bits.deBruijn64tab", laid_math_bits_deBruijn64tab), ("internal/strconv.uint64pow10", laid_internal_strconv_uint64pow10)] }
def TypecheckTypesSaid : Prop := typecheckTypesRow.holds Tryz.pinned (OpenSpec.ofChange typecheckTypesSpec)

/-- ITS FALSE NEIGHBOUR: 'it returns false'. Refute it at one input. -/
def typecheckTypesWrong : ChangeSpec := { name := "typecheckTypes", fn := fun _ => fun
  | [d1, d2] => { results := [.lit (.bool false)], args := [d1, d2] }
  | _ => none }
def TypecheckTypesWrongFalsely : Prop := typecheckTypesRow.holds Tryz.pinned (OpenSpec.ofChange typecheckTypesWrong)

/-- 'keyholelaw14.TypecheckRanges': WHATEVER THE INPUT: true; the input reads as it did. -/
def typecheckRangesSpec : ChangeSpec := { name := "typecheckRanges", fn := fun _ => fun
  | [d1, d2] => { results := [.lit (.bool true)], args := [d1, d2] }
  | _ => none }
def typecheckRangesRow : OpenClaim := { program := "ytdkabnfphmmmnaagreatdoor", sum := "092adfa003e003b64d0f6cdeaa0295d7a6cbb2b8a60ae0384ae57fb6f188921e", func := "keyhole/keyholelaw14.TypecheckRanges", spec := "typecheckRanges", inPlace := ["internal/bytealg.IndexByteString", "internal/bytealg.IndexString"], unfollowed := true, recurses := true, named := ["internal/bytealg.MaxLen", "internal/strconv.uint64pow10", "math/bits.deBruijn32tab", "math/bits.deBruijn64tab"], loops := true, apart := false, laid := [("math/bits.deBruijn32tab", laid_math_bits_deBruijn32tab), ("math/bits.deBruijn64tab", laid_math_bits_deBruijn64tab), ("internal/strconv.uint64pow10", laid_internal_strconv_uint64pow10)] }
def TypecheckRangesSaid : Prop := typecheckRangesRow.holds Tryz.pinned (OpenSpec.ofChange typecheckRangesSpec)

/-- ITS FALSE NEIGHBOUR: 'it returns false'. Refute it at one input. -/
def typecheckRangesWrong : ChangeSpec := { name := "typecheckRanges", fn := fun _ => fun
  | [d1, d2] => { results := [.lit (.bool false)], args := [d1, d2] }
  | _ => none }
def TypecheckRangesWrongFalsely : Prop := typecheckRangesRow.holds Tryz.pinned (OpenSpec.ofChange typecheckRangesWrong)

/-- 'keyholelaw14.TypecheckSteps': WHATEVER THE INPUT: true; the input reads as it did. -/
def typecheckStepsSpec : ChangeSpec := { name := "typecheckSteps", fn := fun _ => fun
  | [d] => { results := [.lit (.bool true)], args := [d] }
  | _ => none }
def typecheckStepsRow : OpenClaim := { program := "ytdkabnfphmmmnaagreatdoor", sum := "092adfa003e003b64d0f6cdeaa0295d7a6cbb2b8a60ae0384ae57fb6f188921e", func := "keyhole/keyholelaw14.TypecheckSteps", spec := "typecheckSteps", inPlace := ["internal/bytealg.IndexByteString", "internal/bytealg.IndexString"], unfollowed := true, recurses := true, named := ["internal/bytealg.MaxLen", "internal/strconv.uint64pow10", "math/bits.deBruijn32tab", "math/bits.deBruijn64tab"], loops := true, apart := false, laid := [("math/bits.deBruijn32tab", laid_math_bits_deBruijn32tab), ("math/bits.deBruijn64tab", laid_math_bits_deBruijn64tab), ("internal/strconv.uint64pow10", laid_internal_strconv_uint64pow10)] }
def TypecheckStepsSaid : Prop := typecheckStepsRow.holds Tryz.pinned (OpenSpec.ofChange typecheckStepsSpec)

/-- ITS FALSE NEIGHBOUR: 'it returns false'. Refute it at one input. -/
def typecheckStepsWrong : ChangeSpec := { name := "typecheckSteps", fn := fun _ => fun
  | [d] => { results := [.lit (.bool false)], args := [d] }
  | _ => none }
def TypecheckStepsWrongFalsely : Prop := typecheckStepsRow.holds Tryz.pinned (OpenSpec.ofChange typecheckStepsWrong)

/-- 'keyholelaw14.TypecheckNames': WHATEVER THE INPUT: true; the input reads as it did. -/
def typecheckNamesSpec : ChangeSpec := { name := "typecheckNames", fn := fun _ => fun
  | [d1, d2, d3] => { results := [.lit (.bool true)], args := [d1, d2, d3] }
  | _ => none }
def typecheckNamesRow : OpenClaim := { program := "ytdkabnfphmmmnaagreatdoor", sum := "092adfa003e003b64d0f6cdeaa0295d7a6cbb2b8a60ae0384ae57fb6f188921e", func := "keyhole/keyholelaw14.TypecheckNames", spec := "typecheckNames", inPlace := ["internal/bytealg.IndexByteString", "internal/bytealg.IndexString"], unfollowed := true, recurses := true, named := ["internal/bytealg.MaxLen", "internal/strconv.uint64pow10", "math/bits.deBruijn32tab", "math/bits.deBruijn64tab"], loops := true, apart := false, laid := [("math/bits.deBruijn32tab", laid_math_bits_deBruijn32tab), ("math/bits.deBruijn64tab", laid_math_bits_deBruijn64tab), ("internal/strconv.uint64pow10", laid_internal_strconv_uint64pow10)] }
def TypecheckNamesSaid : Prop := typecheckNamesRow.holds Tryz.pinned (OpenSpec.ofChange typecheckNamesSpec)

/-- ITS FALSE NEIGHBOUR: 'it returns false'. Refute it at one input. -/
def typecheckNamesWrong : ChangeSpec := { name := "typecheckNames", fn := fun _ => fun
  | [d1, d2, d3] => { results := [.lit (.bool false)], args := [d1, d2, d3] }
  | _ => none }
def TypecheckNamesWrongFalsely : Prop := typecheckNamesRow.holds Tryz.pinned (OpenSpec.ofChange typecheckNamesWrong)

/-- 'keyholelaw14.TypecheckWait': WHATEVER THE INPUT: true; the input reads as it did. -/
def typecheckWaitSpec : ChangeSpec := { name := "typecheckWait", fn := fun _ => fun
  | [d1, d2] => { results := [.lit (.bool true)], args := [d1, d2] }
  | _ => none }
def typecheckWaitRow : OpenClaim := { program := "ytdkabnfphmmmnaagreatdoor", sum := "092adfa003e003b64d0f6cdeaa0295d7a6cbb2b8a60ae0384ae57fb6f188921e", func := "keyhole/keyholelaw14.TypecheckWait", spec := "typecheckWait", inPlace := ["internal/bytealg.IndexByteString", "internal/bytealg.IndexString"], unfollowed := true, recurses := true, named := ["internal/bytealg.MaxLen", "internal/strconv.uint64pow10", "math/bits.deBruijn32tab", "math/bits.deBruijn64tab"], loops := true, apart := false, laid := [("math/bits.deBruijn32tab", laid_math_bits_deBruijn32tab), ("math/bits.deBruijn64tab", laid_math_bits_deBruijn64tab), ("internal/strconv.uint64pow10", laid_internal_strconv_uint64pow10)] }
def TypecheckWaitSaid : Prop := typecheckWaitRow.holds Tryz.pinned (OpenSpec.ofChange typecheckWaitSpec)

/-- ITS FALSE NEIGHBOUR: 'it returns false'. Refute it at one input. -/
def typecheckWaitWrong : ChangeSpec := { name := "typecheckWait", fn := fun _ => fun
  | [d1, d2] => { results := [.lit (.bool false)], args := [d1, d2] }
  | _ => none }
def TypecheckWaitWrongFalsely : Prop := typecheckWaitRow.holds Tryz.pinned (OpenSpec.ofChange typecheckWaitWrong)

/-- 'keyholelaw14.TypecheckWider': WHATEVER THE INPUT: true; the input reads as it did. -/
def typecheckWiderSpec : ChangeSpec := { name := "typecheckWider", fn := fun _ => fun
  | [d1, d2, d3] => { results := [.lit (.bool true)], args := [d1, d2, d3] }
  | _ => none }
def typecheckWiderRow : OpenClaim := { program := "ytdkabnfphmmmnaagreatdoor", sum := "092adfa003e003b64d0f6cdeaa0295d7a6cbb2b8a60ae0384ae57fb6f188921e", func := "keyhole/keyholelaw14.TypecheckWider", spec := "typecheckWider", inPlace := ["internal/bytealg.IndexByteString", "internal/bytealg.IndexString"], unfollowed := true, recurses := true, named := ["internal/bytealg.MaxLen", "internal/strconv.uint64pow10", "math/bits.deBruijn32tab", "math/bits.deBruijn64tab"], loops := true, apart := false, laid := [("math/bits.deBruijn32tab", laid_math_bits_deBruijn32tab), ("math/bits.deBruijn64tab", laid_math_bits_deBruijn64tab), ("internal/strconv.uint64pow10", laid_internal_strconv_uint64pow10)] }
def TypecheckWiderSaid : Prop := typecheckWiderRow.holds Tryz.pinned (OpenSpec.ofChange typecheckWiderSpec)

/-- ITS FALSE NEIGHBOUR: 'it returns false'. Refute it at one input. -/
def typecheckWiderWrong : ChangeSpec := { name := "typecheckWider", fn := fun _ => fun
  | [d1, d2, d3] => { results := [.lit (.bool false)], args := [d1, d2, d3] }
  | _ => none }
def TypecheckWiderWrongFalsely : Prop := typecheckWiderRow.holds Tryz.pinned (OpenSpec.ofChange typecheckWiderWrong)

/-- 'keyholelaw14.TypecheckAgain': WHATEVER THE INPUT: true; the input reads as it did. -/
def typecheckAgainSpec : ChangeSpec := { name := "typecheckAgain", fn := fun _ => fun
  | [d] => { results := [.lit (.bool true)], args := [d] }
  | _ => none }
def typecheckAgainRow : OpenClaim := { program := "ytdkabnfphmmmnaagreatdoor", sum := "092adfa003e003b64d0f6cdeaa0295d7a6cbb2b8a60ae0384ae57fb6f188921e", func := "keyhole/keyholelaw14.TypecheckAgain", spec := "typecheckAgain", inPlace := ["internal/bytealg.IndexByteString", "internal/bytealg.IndexString"], unfollowed := true, recurses := true, named := ["internal/bytealg.MaxLen", "internal/strconv.uint64pow10", "math/bits.deBruijn32tab", "math/bits.deBruijn64tab"], loops := true, apart := false, laid := [("math/bits.deBruijn32tab", laid_math_bits_deBruijn32tab), ("math/bits.deBruijn64tab", laid_math_bits_deBruijn64tab), ("internal/strconv.uint64pow10", laid_internal_strconv_uint64pow10)] }
def TypecheckAgainSaid : Prop := typecheckAgainRow.holds Tryz.pinned (OpenSpec.ofChange typecheckAgainSpec)

/-- ITS FALSE NEIGHBOUR: 'it returns false'. Refute it at one input. -/
def typecheckAgainWrong : ChangeSpec := { name := "typecheckAgain", fn := fun _ => fun
  | [d] => { results := [.lit (.bool false)], args := [d] }
  | _ => none }
def TypecheckAgainWrongFalsely : Prop := typecheckAgainRow.holds Tryz.pinned (OpenSpec.ofChange typecheckAgainWrong)

/- THE SECOND FORM. 'bulk': how many values and letters a reading holds, each counted each time it is reached (what is shared counts as often as it is met; a slice's spare places count too). A statement '..UptoSaid' is the law's where the arguments, and the package variables that the reading takes, are together of bulk at most 1048576: NARROWER than '..Said'. Prove '..Said' where nothing that the law and all that it calls make is longer than what came in: it says more and counts as full. Else prove '..UptoSaid'. A law counts once. -/
mutual
def uptoBulk {H : Type} : DataW H → Nat
  | .lit (.string bytes) => bytes.length + 1
  | .lit _ => 1
  | .nil => 1
  | .ptr d => uptoBulk d + 1
  | .slice elems spare => uptoBulkAll elems + uptoBulkAll spare + 1
  | .agg parts => uptoBulkAll parts + 1
  | .iface _ d => uptoBulk d + 1
  | .map entries => uptoBulkEntries entries + 1
  | .held _ => 1
def uptoBulkAll {H : Type} : List (DataW H) → Nat
  | [] => 0
  | d :: r => uptoBulk d + uptoBulkAll r
def uptoBulkEntries {H : Type} : List (Lit × DataW H) → Nat
  | [] => 0
  | x :: r => uptoBulkEntry x + uptoBulkEntries r
def uptoBulkEntry {H : Type} : Lit × DataW H → Nat
  | (.string bytes, d) => bytes.length + uptoBulk d + 1
  | (_, d) => uptoBulk d + 1
 end
def uptoSmall : (H : Type) → List (DataW H) → Bool := fun _ ds => decide (uptoBulkAll ds ≤ 1048576)
def OpenSpec.upto (s : _root_.Go.ChangeSpec) : _root_.Go.OpenSpec := { _root_.Go.OpenSpec.ofChange s with cond := some uptoSmall }

/-- 'keyholelaw14.TypecheckErrors', WHERE WHAT IT READS IS OF BULK AT MOST 1048576: true; the input reads as it did. -/
def typecheckErrorsUptoRow : OpenClaim := { program := "ytdkabnfphmmmnaagreatdoor", sum := "092adfa003e003b64d0f6cdeaa0295d7a6cbb2b8a60ae0384ae57fb6f188921e", func := "keyhole/keyholelaw14.TypecheckErrors", spec := "typecheckErrors", inPlace := ["internal/bytealg.IndexByteString", "internal/bytealg.IndexString"], unfollowed := true, recurses := true, named := ["internal/bytealg.MaxLen", "internal/strconv.uint64pow10", "math/bits.deBruijn32tab", "math/bits.deBruijn64tab"], loops := true, apart := false, laid := [("math/bits.deBruijn32tab", laid_math_bits_deBruijn32tab), ("math/bits.deBruijn64tab", laid_math_bits_deBruijn64tab), ("internal/strconv.uint64pow10", laid_internal_strconv_uint64pow10)], narrowed := true }
def TypecheckErrorsUptoSaid : Prop := typecheckErrorsUptoRow.holds Tryz.pinned (OpenSpec.upto typecheckErrorsSpec)

/-- 'keyholelaw14.TypecheckTypes', WHERE WHAT IT READS IS OF BULK AT MOST 1048576: true; the input reads as it did. -/
def typecheckTypesUptoRow : OpenClaim := { program := "ytdkabnfphmmmnaagreatdoor", sum := "092adfa003e003b64d0f6cdeaa0295d7a6cbb2b8a60ae0384ae57fb6f188921e", func := "keyhole/keyholelaw14.TypecheckTypes", spec := "typecheckTypes", inPlace := ["internal/bytealg.IndexByteString", "internal/bytealg.IndexString"], unfollowed := true, recurses := true, named := ["internal/bytealg.MaxLen", "internal/strconv.uint64pow10", "math/bits.deBruijn32tab", "math/bits.deBruijn64tab"], loops := true, apart := false, laid := [("math/bits.deBruijn32tab", laid_math_bits_deBruijn32tab), ("math/bits.deBruijn64tab", laid_math_bits_deBruijn64tab), ("internal/strconv.uint64pow10", laid_internal_strconv_uint64pow10)], narrowed := true }
def TypecheckTypesUptoSaid : Prop := typecheckTypesUptoRow.holds Tryz.pinned (OpenSpec.upto typecheckTypesSpec)

/-- 'keyholelaw14.TypecheckRanges', WHERE WHAT IT READS IS OF BULK AT MOST 1048576: true; the input reads as it did. -/
def typecheckRangesUptoRow : OpenClaim := { program := "ytdkabnfphmmmnaagreatdoor", sum := "092adfa003e003b64d0f6cdeaa0295d7a6cbb2b8a60ae0384ae57fb6f188921e", func := "keyhole/keyholelaw14.TypecheckRanges", spec := "typecheckRanges", inPlace := ["internal/bytealg.IndexByteString", "internal/bytealg.IndexString"], unfollowed := true, recurses := true, named := ["internal/bytealg.MaxLen", "internal/strconv.uint64pow10", "math/bits.deBruijn32tab", "math/bits.deBruijn64tab"], loops := true, apart := false, laid := [("math/bits.deBruijn32tab", laid_math_bits_deBruijn32tab), ("math/bits.deBruijn64tab", laid_math_bits_deBruijn64tab), ("internal/strconv.uint64pow10", laid_internal_strconv_uint64pow10)], narrowed := true }
def TypecheckRangesUptoSaid : Prop := typecheckRangesUptoRow.holds Tryz.pinned (OpenSpec.upto typecheckRangesSpec)

/-- 'keyholelaw14.TypecheckSteps', WHERE WHAT IT READS IS OF BULK AT MOST 1048576: true; the input reads as it did. -/
def typecheckStepsUptoRow : OpenClaim := { program := "ytdkabnfphmmmnaagreatdoor", sum := "092adfa003e003b64d0f6cdeaa0295d7a6cbb2b8a60ae0384ae57fb6f188921e", func := "keyhole/keyholelaw14.TypecheckSteps", spec := "typecheckSteps", inPlace := ["internal/bytealg.IndexByteString", "internal/bytealg.IndexString"], unfollowed := true, recurses := true, named := ["internal/bytealg.MaxLen", "internal/strconv.uint64pow10", "math/bits.deBruijn32tab", "math/bits.deBruijn64tab"], loops := true, apart := false, laid := [("math/bits.deBruijn32tab", laid_math_bits_deBruijn32tab), ("math/bits.deBruijn64tab", laid_math_bits_deBruijn64tab), ("internal/strconv.uint64pow10", laid_internal_strconv_uint64pow10)], narrowed := true }
def TypecheckStepsUptoSaid : Prop := typecheckStepsUptoRow.holds Tryz.pinned (OpenSpec.upto typecheckStepsSpec)

/-- 'keyholelaw14.TypecheckNames', WHERE WHAT IT READS IS OF BULK AT MOST 1048576: true; the input reads as it did. -/
def typecheckNamesUptoRow : OpenClaim := { program := "ytdkabnfphmmmnaagreatdoor", sum := "092adfa003e003b64d0f6cdeaa0295d7a6cbb2b8a60ae0384ae57fb6f188921e", func := "keyhole/keyholelaw14.TypecheckNames", spec := "typecheckNames", inPlace := ["internal/bytealg.IndexByteString", "internal/bytealg.IndexString"], unfollowed := true, recurses := true, named := ["internal/bytealg.MaxLen", "internal/strconv.uint64pow10", "math/bits.deBruijn32tab", "math/bits.deBruijn64tab"], loops := true, apart := false, laid := [("math/bits.deBruijn32tab", laid_math_bits_deBruijn32tab), ("math/bits.deBruijn64tab", laid_math_bits_deBruijn64tab), ("internal/strconv.uint64pow10", laid_internal_strconv_uint64pow10)], narrowed := true }
def TypecheckNamesUptoSaid : Prop := typecheckNamesUptoRow.holds Tryz.pinned (OpenSpec.upto typecheckNamesSpec)

/-- 'keyholelaw14.TypecheckWait', WHERE WHAT IT READS IS OF BULK AT MOST 1048576: true; the input reads as it did. -/
def typecheckWaitUptoRow : OpenClaim := { program := "ytdkabnfphmmmnaagreatdoor", sum := "092adfa003e003b64d0f6cdeaa0295d7a6cbb2b8a60ae0384ae57fb6f188921e", func := "keyhole/keyholelaw14.TypecheckWait", spec := "typecheckWait", inPlace := ["internal/bytealg.IndexByteString", "internal/bytealg.IndexString"], unfollowed := true, recurses := true, named := ["internal/bytealg.MaxLen", "internal/strconv.uint64pow10", "math/bits.deBruijn32tab", "math/bits.deBruijn64tab"], loops := true, apart := false, laid := [("math/bits.deBruijn32tab", laid_math_bits_deBruijn32tab), ("math/bits.deBruijn64tab", laid_math_bits_deBruijn64tab), ("internal/strconv.uint64pow10", laid_internal_strconv_uint64pow10)], narrowed := true }
def TypecheckWaitUptoSaid : Prop := typecheckWaitUptoRow.holds Tryz.pinned (OpenSpec.upto typecheckWaitSpec)

/-- 'keyholelaw14.TypecheckWider', WHERE WHAT IT READS IS OF BULK AT MOST 1048576: true; the input reads as it did. -/
def typecheckWiderUptoRow : OpenClaim := { program := "ytdkabnfphmmmnaagreatdoor", sum := "092adfa003e003b64d0f6cdeaa0295d7a6cbb2b8a60ae0384ae57fb6f188921e", func := "keyhole/keyholelaw14.TypecheckWider", spec := "typecheckWider", inPlace := ["internal/bytealg.IndexByteString", "internal/bytealg.IndexString"], unfollowed := true, recurses := true, named := ["internal/bytealg.MaxLen", "internal/strconv.uint64pow10", "math/bits.deBruijn32tab", "math/bits.deBruijn64tab"], loops := true, apart := false, laid := [("math/bits.deBruijn32tab", laid_math_bits_deBruijn32tab), ("math/bits.deBruijn64tab", laid_math_bits_deBruijn64tab), ("internal/strconv.uint64pow10", laid_internal_strconv_uint64pow10)], narrowed := true }
def TypecheckWiderUptoSaid : Prop := typecheckWiderUptoRow.holds Tryz.pinned (OpenSpec.upto typecheckWiderSpec)

/-- 'keyholelaw14.TypecheckAgain', WHERE WHAT IT READS IS OF BULK AT MOST 1048576: true; the input reads as it did. -/
def typecheckAgainUptoRow : OpenClaim := { program := "ytdkabnfphmmmnaagreatdoor", sum := "092adfa003e003b64d0f6cdeaa0295d7a6cbb2b8a60ae0384ae57fb6f188921e", func := "keyhole/keyholelaw14.TypecheckAgain", spec := "typecheckAgain", inPlace := ["internal/bytealg.IndexByteString", "internal/bytealg.IndexString"], unfollowed := true, recurses := true, named := ["internal/bytealg.MaxLen", "internal/strconv.uint64pow10", "math/bits.deBruijn32tab", "math/bits.deBruijn64tab"], loops := true, apart := false, laid := [("math/bits.deBruijn32tab", laid_math_bits_deBruijn32tab), ("math/bits.deBruijn64tab", laid_math_bits_deBruijn64tab), ("internal/strconv.uint64pow10", laid_internal_strconv_uint64pow10)], narrowed := true }
def TypecheckAgainUptoSaid : Prop := typecheckAgainUptoRow.holds Tryz.pinned (OpenSpec.upto typecheckAgainSpec)

end Rows
end Go.Proofs.YtdkabnfphmmmnaaGreatDoor
