/-
  NARROWER THAN 'FOR EVERY INPUT', by the rows' own cells (each row's printed sentence says how): InterpRuns: loops, laid · InterpSpaces: loops, laid · InterpBounds: loops, laid · InterpUntimed: loops, laid · InterpAdditive: loops, laid · InterpRenames: loops, laid · InterpHatches: loops, laid · InterpFinals: loops, laid.
  DERIVED. THE GIVEN ROWS OF THIS SEAT. 8 by the template 'for every input the law returns true; each argument reads behind the call as it read before'; 0 by the template 'total and deterministic' (their statements: YtnabbmegmkdehaaGreatDoorTotals.lean).
  GIVEN WITH THE SEED: the statements are not yours to turn. If you find one false, say at which input.
  Laid BY PROGRAM, IN A SANDBOX (cutbox-rows.mjs): the forced cells as the released guide's own fill.sh prints them over the translation fcef34fcc76236cc… (all of the seat's roots in one cut). By AI agents, Wed Nov 11 2026. No macro, syntax, notation, axiom, sorry.
-/
import Derived.Test.YtnabbmegmkdehaaGreatDoorChecked
import GoSem.Claim
import GoSem.ClaimJoined
import GoSem.ClaimMapViews
import Derived.JoinedTies
import Derived.KernelRfl
namespace Go.Proofs.YtnabbmegmkdehaaGreatDoor
/- THE CELL 'sum', in the pinned program and in every row, IS THE sha256 OF THE DUMP (.gsa) THAT YtnabbmegmkdehaaGreatDoorProg.lean LOADS. Nothing in Lean hashes anything: it is a label: what it is worth is what the hold of that sum in a sandbox is worth. -/
noncomputable def Tryz.pinned : Pinned := { name := "ytnabbmegmkdehaagreatdoor", sum := "fcef34fcc76236cc21938033ed0c00d993f766c40f1e04d389beeb013fdee230", checked := Tryz.checked }
namespace Rows
def none {H : Type} : Left H := { results := [], args := [] }

/- WHAT THE LISTED PACKAGE-LEVEL VARIABLES READ AS WHEN THE CALL BEGINS. Each datum BY PROGRAM (the guide's laid-datum.mjs) off the statement by which the dump's own 'gosem.cut.vars' lays the variable. In a bare row this is a premise. The card (YtnabbmegmkdehaaGreatDoorCards.lean) ties it to the program's text. -/
def laid_math_bits_deBruijn32tab {H : Type} : DataW H := .agg [.lit (.int .u8 0), .lit (.int .u8 1), .lit (.int .u8 28), .lit (.int .u8 2), .lit (.int .u8 29), .lit (.int .u8 14), .lit (.int .u8 24), .lit (.int .u8 3), .lit (.int .u8 30), .lit (.int .u8 22), .lit (.int .u8 20), .lit (.int .u8 15), .lit (.int .u8 25), .lit (.int .u8 17), .lit (.int .u8 4), .lit (.int .u8 8), .lit (.int .u8 31), .lit (.int .u8 27), .lit (.int .u8 13), .lit (.int .u8 23), .lit (.int .u8 21), .lit (.int .u8 19), .lit (.int .u8 16), .lit (.int .u8 7), .lit (.int .u8 26), .lit (.int .u8 12), .lit (.int .u8 18), .lit (.int .u8 6), .lit (.int .u8 11), .lit (.int .u8 5), .lit (.int .u8 10), .lit (.int .u8 9)]
def laid_math_bits_deBruijn64tab {H : Type} : DataW H := .agg [.lit (.int .u8 0), .lit (.int .u8 1), .lit (.int .u8 56), .lit (.int .u8 2), .lit (.int .u8 57), .lit (.int .u8 49), .lit (.int .u8 28), .lit (.int .u8 3), .lit (.int .u8 61), .lit (.int .u8 58), .lit (.int .u8 42), .lit (.int .u8 50), .lit (.int .u8 38), .lit (.int .u8 29), .lit (.int .u8 17), .lit (.int .u8 4), .lit (.int .u8 62), .lit (.int .u8 47), .lit (.int .u8 59), .lit (.int .u8 36), .lit (.int .u8 45), .lit (.int .u8 43), .lit (.int .u8 51), .lit (.int .u8 22), .lit (.int .u8 53), .lit (.int .u8 39), .lit (.int .u8 33), .lit (.int .u8 30), .lit (.int .u8 24), .lit (.int .u8 18), .lit (.int .u8 12), .lit (.int .u8 5), .lit (.int .u8 63), .lit (.int .u8 55), .lit (.int .u8 48), .lit (.int .u8 27), .lit (.int .u8 60), .lit (.int .u8 41), .lit (.int .u8 37), .lit (.int .u8 16), .lit (.int .u8 46), .lit (.int .u8 35), .lit (.int .u8 44), .lit (.int .u8 21), .lit (.int .u8 52), .lit (.int .u8 32), .lit (.int .u8 23), .lit (.int .u8 11), .lit (.int .u8 54), .lit (.int .u8 26), .lit (.int .u8 40), .lit (.int .u8 15), .lit (.int .u8 34), .lit (.int .u8 20), .lit (.int .u8 31), .lit (.int .u8 10), .lit (.int .u8 25), .lit (.int .u8 14), .lit (.int .u8 19), .lit (.int .u8 9), .lit (.int .u8 13), .lit (.int .u8 8), .lit (.int .u8 7), .lit (.int .u8 6)]
def laid_internal_strconv_uint64pow10 {H : Type} : DataW H := .agg [.lit (.int .u64 1), .lit (.int .u64 10), .lit (.int .u64 100), .lit (.int .u64 1000), .lit (.int .u64 10000), .lit (.int .u64 100000), .lit (.int .u64 1000000), .lit (.int .u64 10000000), .lit (.int .u64 100000000), .lit (.int .u64 1000000000), .lit (.int .u64 10000000000), .lit (.int .u64 100000000000), .lit (.int .u64 1000000000000), .lit (.int .u64 10000000000000), .lit (.int .u64 100000000000000), .lit (.int .u64 1000000000000000), .lit (.int .u64 10000000000000000), .lit (.int .u64 100000000000000000), .lit (.int .u64 1000000000000000000), .lit (.int .u64 10000000000000000000)]

/-- 'keyholelaw16.InterpRuns': WHATEVER THE INPUT: true; the input reads as it did. -/
def interpRunsSpec : ChangeSpec := { name := "interpRuns", fn := fun _ => fun
  | [d1, d2, d3] => { results := [.lit (.bool true)], args := [d1, d2, d3] }
  | _ => none }
def interpRunsRow : OpenClaim := { program := "ytnabbmegmkdehaagreatdoor", sum := "fcef34fcc76236cc21938033ed0c00d993f766c40f1e04d389beeb013fdee230", func := "keyhole/keyholelaw16.InterpRuns", spec := "interpRuns", inPlace := ["internal/bytealg.IndexByteString", "internal/bytealg.IndexString", "maps.clone"], unfollowed := true, recurses := true, named := ["internal/bytealg.MaxLen", "internal/strconv.uint64pow10", "math/bits.deBruijn32tab", "math/bits.deBruijn64tab"], loops := true, apart := false, laid := [("math/bits.deBruijn32tab", laid_math_bits_deBruijn32tab), ("math/bits.deBruijn64tab", laid_math_bits_deBruijn64tab), ("internal/strconv.uint64pow10", laid_internal_strconv_uint64pow10)] }
def InterpRunsSaid : Prop := interpRunsRow.holds Tryz.pinned (OpenSpec.ofChange interpRunsSpec)

/-- ITS FALSE NEIGHBOUR: 'it returns false'. Refute it at one input. -/
def interpRunsWrong : ChangeSpec := { name := "interpRuns", fn := fun _ => fun
  | [d1, d2, d3] => { results := [.lit (.bool false)], args := [d1, d2, d3] }
  | _ => none }
def InterpRunsWrongFalsely : Prop := interpRunsRow.holds Tryz.pinned (OpenSpec.ofChange interpRunsWrong)

/-- 'keyholelaw16.InterpSpaces': WHATEVER THE INPUT: true; the input reads as it did. -/
def interpSpacesSpec : ChangeSpec := { name := "interpSpaces", fn := fun _ => fun
  | [d] => { results := [.lit (.bool true)], args := [d] }
  | _ => none }
def interpSpacesRow : OpenClaim := { program := "ytnabbmegmkdehaagreatdoor", sum := "fcef34fcc76236cc21938033ed0c00d993f766c40f1e04d389beeb013fdee230", func := "keyhole/keyholelaw16.InterpSpaces", spec := "interpSpaces", inPlace := ["internal/bytealg.IndexByteString", "internal/bytealg.IndexString", "maps.clone"], unfollowed := true, recurses := true, named := ["internal/bytealg.MaxLen", "internal/strconv.uint64pow10", "math/bits.deBruijn32tab", "math/bits.deBruijn64tab"], loops := true, apart := false, laid := [("math/bits.deBruijn32tab", laid_math_bits_deBruijn32tab), ("math/bits.deBruijn64tab", laid_math_bits_deBruijn64tab), ("internal/strconv.uint64pow10", laid_internal_strconv_uint64pow10)] }
def InterpSpacesSaid : Prop := interpSpacesRow.holds Tryz.pinned (OpenSpec.ofChange interpSpacesSpec)

/-- ITS FALSE NEIGHBOUR: 'it returns false'. Refute it at one input. -/
def interpSpacesWrong : ChangeSpec := { name := "interpSpaces", fn := fun _ => fun
  | [d] => { results := [.lit (.bool false)], args := [d] }
  | _ => none }
def InterpSpacesWrongFalsely : Prop := interpSpacesRow.holds Tryz.pinned (OpenSpec.ofChange interpSpacesWrong)

/-- 'keyholelaw16.InterpBounds': WHATEVER THE INPUT: true; the input reads as it did. -/
def interpBoundsSpec : ChangeSpec := { name := "interpBounds", fn := fun _ => fun
  | [d1, d2, d3] => { results := [.lit (.bool true)], args := [d1, d2, d3] }
  | _ => none }
def interpBoundsRow : OpenClaim := { program := "ytnabbmegmkdehaagreatdoor", sum := "fcef34fcc76236cc21938033ed0c00d993f766c40f1e04d389beeb013fdee230", func := "keyhole/keyholelaw16.InterpBounds", spec := "interpBounds", inPlace := ["internal/bytealg.IndexByteString", "internal/bytealg.IndexString", "maps.clone"], unfollowed := true, recurses := true, named := ["internal/bytealg.MaxLen", "internal/strconv.uint64pow10", "math/bits.deBruijn32tab", "math/bits.deBruijn64tab"], loops := true, apart := false, laid := [("math/bits.deBruijn32tab", laid_math_bits_deBruijn32tab), ("math/bits.deBruijn64tab", laid_math_bits_deBruijn64tab), ("internal/strconv.uint64pow10", laid_internal_strconv_uint64pow10)] }
def InterpBoundsSaid : Prop := interpBoundsRow.holds Tryz.pinned (OpenSpec.ofChange interpBoundsSpec)

/-- ITS FALSE NEIGHBOUR: 'it returns false'. Refute it at one input. -/
def interpBoundsWrong : ChangeSpec := { name := "interpBounds", fn := fun _ => fun
  | [d1, d2, d3] => { results := [.lit (.bool false)], args := [d1, d2, d3] }
  | _ => none }
def InterpBoundsWrongFalsely : Prop := interpBoundsRow.holds Tryz.pinned (OpenSpec.ofChange interpBoundsWrong)

/-- 'keyholelaw16.InterpUntimed': WHATEVER THE INPUT: true; the input reads as it did. -/
def interpUntimedSpec : ChangeSpec := { name := "interpUntimed", fn := fun _ => fun
  | [d1, d2, d3] => { results := [.lit (.bool true)], args := [d1, d2, d3] }
  | _ => none }
def interpUntimedRow : OpenClaim := { program := "ytnabbmegmkdehaagreatdoor", sum := "fcef34fcc76236cc21938033ed0c00d993f766c40f1e04d389beeb013fdee230", func := "keyhole/keyholelaw16.InterpUntimed", spec := "interpUntimed", inPlace := ["internal/bytealg.IndexByteString", "internal/bytealg.IndexString", "maps.clone"], unfollowed := true, recurses := true, named := ["internal/bytealg.MaxLen", "internal/strconv.uint64pow10", "math/bits.deBruijn32tab", "math/bits.deBruijn64tab"], loops := true, apart := false, laid := [("math/bits.deBruijn32tab", laid_math_bits_deBruijn32tab), ("math/bits.deBruijn64tab", laid_math_bits_deBruijn64tab), ("internal/strconv.uint64pow10", laid_internal_strconv_uint64pow10)] }
def InterpUntimedSaid : Prop := interpUntimedRow.holds Tryz.pinned (OpenSpec.ofChange interpUntimedSpec)

/-- ITS FALSE NEIGHBOUR: 'it returns false'. Refute it at one input. -/
def interpUntimedWrong : ChangeSpec := { name := "interpUntimed", fn := fun _ => fun
  | [d1, d2, d3] => { results := [.lit (.bool false)], args := [d1, d2, d3] }
  | _ => none }
def InterpUntimedWrongFalsely : Prop := interpUntimedRow.holds Tryz.pinned (OpenSpec.ofChange interpUntimedWrong)

/-- 'keyholelaw16.InterpAdditive': WHATEVER THE INPUT: true; the input reads as it did. -/
def interpAdditiveSpec : ChangeSpec := { name := "interpAdditive", fn := fun _ => fun
  | [d1, d2, d3] => { results := [.lit (.bool true)], args := [d1, d2, d3] }
  | _ => none }
def interpAdditiveRow : OpenClaim := { program := "ytnabbmegmkdehaagreatdoor", sum := "fcef34fcc76236cc21938033ed0c00d993f766c40f1e04d389beeb013fdee230", func := "keyhole/keyholelaw16.InterpAdditive", spec := "interpAdditive", inPlace := ["internal/bytealg.IndexByteString", "internal/bytealg.IndexString", "maps.clone"], unfollowed := true, recurses := true, named := ["internal/bytealg.MaxLen", "internal/strconv.uint64pow10", "math/bits.deBruijn32tab", "math/bits.deBruijn64tab"], loops := true, apart := false, laid := [("math/bits.deBruijn32tab", laid_math_bits_deBruijn32tab), ("math/bits.deBruijn64tab", laid_math_bits_deBruijn64tab), ("internal/strconv.uint64pow10", laid_internal_strconv_uint64pow10)] }
def InterpAdditiveSaid : Prop := interpAdditiveRow.holds Tryz.pinned (OpenSpec.ofChange interpAdditiveSpec)

/-- ITS FALSE NEIGHBOUR: 'it returns false'. Refute it at one input. -/
def interpAdditiveWrong : ChangeSpec := { name := "interpAdditive", fn := fun _ => fun
  | [d1, d2, d3] => { results := [.lit (.bool false)], args := [d1, d2, d3] }
  | _ => none }
def InterpAdditiveWrongFalsely : Prop := interpAdditiveRow.holds Tryz.pinned (OpenSpec.ofChange interpAdditiveWrong)

/-- 'keyholelaw16.InterpRenames': WHATEVER THE INPUT: true; the input reads as it did. -/
def interpRenamesSpec : ChangeSpec := { name := "interpRenames", fn := fun _ => fun
  | [d1, d2, d3] => { results := [.lit (.bool true)], args := [d1, d2, d3] }
  | _ => none }
def interpRenamesRow : OpenClaim := { program := "ytnabbmegmkdehaagreatdoor", sum := "fcef34fcc76236cc21938033ed0c00d993f766c40f1e04d389beeb013fdee230", func := "keyhole/keyholelaw16.InterpRenames", spec := "interpRenames", inPlace := ["internal/bytealg.IndexByteString", "internal/bytealg.IndexString", "maps.clone"], unfollowed := true, recurses := true, named := ["internal/bytealg.MaxLen", "internal/strconv.uint64pow10", "math/bits.deBruijn32tab", "math/bits.deBruijn64tab"], loops := true, apart := false, laid := [("math/bits.deBruijn32tab", laid_math_bits_deBruijn32tab), ("math/bits.deBruijn64tab", laid_math_bits_deBruijn64tab), ("internal/strconv.uint64pow10", laid_internal_strconv_uint64pow10)] }
def InterpRenamesSaid : Prop := interpRenamesRow.holds Tryz.pinned (OpenSpec.ofChange interpRenamesSpec)

/-- ITS FALSE NEIGHBOUR: 'it returns false'. Refute it at one input. -/
def interpRenamesWrong : ChangeSpec := { name := "interpRenames", fn := fun _ => fun
  | [d1, d2, d3] => { results := [.lit (.bool false)], args := [d1, d2, d3] }
  | _ => none }
def InterpRenamesWrongFalsely : Prop := interpRenamesRow.holds Tryz.pinned (OpenSpec.ofChange interpRenamesWrong)

/-- 'keyholelaw16.InterpHatches': WHATEVER THE INPUT: true; the input reads as it did. -/
def interpHatchesSpec : ChangeSpec := { name := "interpHatches", fn := fun _ => fun
  | [d1, d2, d3] => { results := [.lit (.bool true)], args := [d1, d2, d3] }
  | _ => none }
def interpHatchesRow : OpenClaim := { program := "ytnabbmegmkdehaagreatdoor", sum := "fcef34fcc76236cc21938033ed0c00d993f766c40f1e04d389beeb013fdee230", func := "keyhole/keyholelaw16.InterpHatches", spec := "interpHatches", inPlace := ["internal/bytealg.IndexByteString", "internal/bytealg.IndexString", "maps.clone"], unfollowed := true, recurses := true, named := ["internal/bytealg.MaxLen", "internal/strconv.uint64pow10", "math/bits.deBruijn32tab", "math/bits.deBruijn64tab"], loops := true, apart := false, laid := [("math/bits.deBruijn32tab", laid_math_bits_deBruijn32tab), ("math/bits.deBruijn64tab", laid_math_bits_deBruijn64tab), ("internal/strconv.uint64pow10", laid_internal_strconv_uint64pow10)] }
def InterpHatchesSaid : Prop := interpHatchesRow.holds Tryz.pinned (OpenSpec.ofChange interpHatchesSpec)

/-- ITS FALSE NEIGHBOUR: 'it returns false'. Refute it at one input. -/
def interpHatchesWrong : ChangeSpec := { name := "interpHatches", fn := fun _ => fun
  | [d1, d2, d3] => { results := [.lit (.bool false)], args := [d1, d2, d3] }
  | _ => none }
def InterpHatchesWrongFalsely : Prop := interpHatchesRow.holds Tryz.pinned (OpenSpec.ofChange interpHatchesWrong)

/-- 'keyholelaw16.InterpFinals': WHATEVER THE INPUT: true; the input reads as it did. -/
def interpFinalsSpec : ChangeSpec := { name := "interpFinals", fn := fun _ => fun
  | [d1, d2, d3] => { results := [.lit (.bool true)], args := [d1, d2, d3] }
  | _ => none }
def interpFinalsRow : OpenClaim := { program := "ytnabbmegmkdehaagreatdoor", sum := "fcef34fcc76236cc21938033ed0c00d993f766c40f1e04d389beeb013fdee230", func := "keyhole/keyholelaw16.InterpFinals", spec := "interpFinals", inPlace := ["internal/bytealg.IndexByteString", "internal/bytealg.IndexString", "maps.clone"], unfollowed := true, recurses := true, named := ["internal/bytealg.MaxLen", "internal/strconv.uint64pow10", "math/bits.deBruijn32tab", "math/bits.deBruijn64tab"], loops := true, apart := false, laid := [("math/bits.deBruijn32tab", laid_math_bits_deBruijn32tab), ("math/bits.deBruijn64tab", laid_math_bits_deBruijn64tab), ("internal/strconv.uint64pow10", laid_internal_strconv_uint64pow10)] }
def InterpFinalsSaid : Prop := interpFinalsRow.holds Tryz.pinned (OpenSpec.ofChange interpFinalsSpec)

/-- ITS FALSE NEIGHBOUR: 'it returns false'. Refute it at one input. -/
def interpFinalsWrong : ChangeSpec := { name := "interpFinals", fn := fun _ => fun
  | [d1, d2, d3] => { results := [.lit (.bool false)], args := [d1, d2, d3] }
  | _ => none }
def InterpFinalsWrongFalsely : Prop := interpFinalsRow.holds Tryz.pinned (OpenSpec.ofChange interpFinalsWrong)

/- THE SECOND FORM. 'bulk': how many values and letters a reading holds, each counted each time it is reached (what is shared counts as often as it is met; a slice's spare places count too). A statement '..UptoSaid' is the law's where the arguments, and the package variables that the reading takes, are together of bulk at most 1048576: NARROWER than '..Said'. Prove '..Said' where nothing that the law and all that it calls make is longer than what came in: it says more and counts as full. Else prove '..UptoSaid'. A law counts once. -/
mutual
def uptoBulk {H : Type} : DataW H → Nat
  | .lit (.string bytes) => bytes.length + 1
  | .lit _ => 1
  | .nil => 1
  | .ptr d => uptoBulk d + 1
  | .slice elems spare => uptoBulkAll elems + uptoBulkAll spare + 1
  | .agg parts => uptoBulkAll parts + 1
  | .iface _ d => uptoBulk d + 1
  | .map entries => uptoBulkEntries entries + 1
  | .held _ => 1
def uptoBulkAll {H : Type} : List (DataW H) → Nat
  | [] => 0
  | d :: r => uptoBulk d + uptoBulkAll r
def uptoBulkEntries {H : Type} : List (Lit × DataW H) → Nat
  | [] => 0
  | x :: r => uptoBulkEntry x + uptoBulkEntries r
def uptoBulkEntry {H : Type} : Lit × DataW H → Nat
  | (.string bytes, d) => bytes.length + uptoBulk d + 1
  | (_, d) => uptoBulk d + 1
 end
def uptoSmall : (H : Type) → List (DataW H) → Bool := fun _ ds => decide (uptoBulkAll ds ≤ 1048576)
def OpenSpec.upto (s : _root_.Go.ChangeSpec) : _root_.Go.OpenSpec := { _root_.Go.OpenSpec.ofChange s with cond := some uptoSmall }

/-- 'keyholelaw16.InterpRuns', WHERE WHAT IT READS IS OF BULK AT MOST 1048576: true; the input reads as it did. -/
def interpRunsUptoRow : OpenClaim := { program := "ytnabbmegmkdehaagreatdoor", sum := "fcef34fcc76236cc21938033ed0c00d993f766c40f1e04d389beeb013fdee230", func := "keyhole/keyholelaw16.InterpRuns", spec := "interpRuns", inPlace := ["internal/bytealg.IndexByteString", "internal/bytealg.IndexString", "maps.clone"], unfollowed := true, recurses := true, named := ["internal/bytealg.MaxLen", "internal/strconv.uint64pow10", "math/bits.deBruijn32tab", "math/bits.deBruijn64tab"], loops := true, apart := false, laid := [("math/bits.deBruijn32tab", laid_math_bits_deBruijn32tab), ("math/bits.deBruijn64tab", laid_math_bits_deBruijn64tab), ("internal/strconv.uint64pow10", laid_internal_strconv_uint64pow10)], narrowed := true }
def InterpRunsUptoSaid : Prop := interpRunsUptoRow.holds Tryz.pinned (OpenSpec.upto interpRunsSpec)

/-- 'keyholelaw16.InterpSpaces', WHERE WHAT IT READS IS OF BULK AT MOST 1048576: true; the input reads as it did. -/
def interpSpacesUptoRow : OpenClaim := { program := "ytnabbmegmkdehaagreatdoor", sum := "fcef34fcc76236cc21938033ed0c00d993f766c40f1e04d389beeb013fdee230", func := "keyhole/keyholelaw16.InterpSpaces", spec := "interpSpaces", inPlace := ["internal/bytealg.IndexByteString", "internal/bytealg.IndexString", "maps.clone"], unfollowed := true, recurses := true, named := ["internal/bytealg.MaxLen", "internal/strconv.uint64pow10", "math/bits.deBruijn32tab", "math/bits.deBruijn64tab"], loops := true, apart := false, laid := [("math/bits.deBruijn32tab", laid_math_bits_deBruijn32tab), ("math/bits.deBruijn64tab", laid_math_bits_deBruijn64tab), ("internal/strconv.uint64pow10", laid_internal_strconv_uint64pow10)], narrowed := true }
def InterpSpacesUptoSaid : Prop := interpSpacesUptoRow.holds Tryz.pinned (OpenSpec.upto interpSpacesSpec)

/-- 'keyholelaw16.InterpBounds', WHERE WHAT IT READS IS OF BULK AT MOST 1048576: true; the input reads as it did. -/
def interpBoundsUptoRow : OpenClaim := { program := "ytnabbmegmkdehaagreatdoor", sum := "fcef34fcc76236cc21938033ed0c00d993f766c40f1e04d389beeb013fdee230", func := "keyhole/keyholelaw16.InterpBounds", spec := "interpBounds", inPlace := ["internal/bytealg.IndexByteString", "internal/bytealg.IndexString", "maps.clone"], unfollowed := true, recurses := true, named := ["internal/bytealg.MaxLen", "internal/strconv.uint64pow10", "math/bits.deBruijn32tab", "math/bits.deBruijn64tab"], loops := true, apart := false, laid := [("math/bits.deBruijn32tab", laid_math_bits_deBruijn32tab), ("math/bits.deBruijn64tab", laid_math_bits_deBruijn64tab), ("internal/strconv.uint64pow10", laid_internal_strconv_uint64pow10)], narrowed := true }
def InterpBoundsUptoSaid : Prop := interpBoundsUptoRow.holds Tryz.pinned (OpenSpec.upto interpBoundsSpec)

/-- 'keyholelaw16.InterpUntimed', WHERE WHAT IT READS IS OF BULK AT MOST 1048576: true; the input reads as it did. -/
def interpUntimedUptoRow : OpenClaim := { program := "ytnabbmegmkdehaagreatdoor", sum := "fcef34fcc76236cc21938033ed0c00d993f766c40f1e04d389beeb013fdee230", func := "keyhole/keyholelaw16.InterpUntimed", spec := "interpUntimed", inPlace := ["internal/bytealg.IndexByteString", "internal/bytealg.IndexString", "maps.clone"], unfollowed := true, recurses := true, named := ["internal/bytealg.MaxLen", "internal/strconv.uint64pow10", "math/bits.deBruijn32tab", "math/bits.deBruijn64tab"], loops := true, apart := false, laid := [("math/bits.deBruijn32tab", laid_math_bits_deBruijn32tab), ("math/bits.deBruijn64tab", laid_math_bits_deBruijn64tab), ("internal/strconv.uint64pow10", laid_internal_strconv_uint64pow10)], narrowed := true }
def InterpUntimedUptoSaid : Prop := interpUntimedUptoRow.holds Tryz.pinned (OpenSpec.upto interpUntimedSpec)

/-- 'keyholelaw16.InterpAdditive', WHERE WHAT IT READS IS OF BULK AT MOST 1048576: true; the input reads as it did. -/
def interpAdditiveUptoRow : OpenClaim := { program := "ytnabbmegmkdehaagreatdoor", sum := "fcef34fcc76236cc21938033ed0c00d993f766c40f1e04d389beeb013fdee230", func := "keyhole/keyholelaw16.InterpAdditive", spec := "interpAdditive", inPlace := ["internal/bytealg.IndexByteString", "internal/bytealg.IndexString", "maps.clone"], unfollowed := true, recurses := true, named := ["internal/bytealg.MaxLen", "internal/strconv.uint64pow10", "math/bits.deBruijn32tab", "math/bits.deBruijn64tab"], loops := true, apart := false, laid := [("math/bits.deBruijn32tab", laid_math_bits_deBruijn32tab), ("math/bits.deBruijn64tab", laid_math_bits_deBruijn64tab), ("internal/strconv.uint64pow10", laid_internal_strconv_uint64pow10)], narrowed := true }
def InterpAdditiveUptoSaid : Prop := interpAdditiveUptoRow.holds Tryz.pinned (OpenSpec.upto interpAdditiveSpec)

/-- 'keyholelaw16.InterpRenames', WHERE WHAT IT READS IS OF BULK AT MOST 1048576: true; the input reads as it did. -/
def interpRenamesUptoRow : OpenClaim := { program := "ytnabbmegmkdehaagreatdoor", sum := "fcef34fcc76236cc21938033ed0c00d993f766c40f1e04d389beeb013fdee230", func := "keyhole/keyholelaw16.InterpRenames", spec := "interpRenames", inPlace := ["internal/bytealg.IndexByteString", "internal/bytealg.IndexString", "maps.clone"], unfollowed := true, recurses := true, named := ["internal/bytealg.MaxLen", "internal/strconv.uint64pow10", "math/bits.deBruijn32tab", "math/bits.deBruijn64tab"], loops := true, apart := false, laid := [("math/bits.deBruijn32tab", laid_math_bits_deBruijn32tab), ("math/bits.deBruijn64tab", laid_math_bits_deBruijn64tab), ("internal/strconv.uint64pow10", laid_internal_strconv_uint64pow10)], narrowed := true }
def InterpRenamesUptoSaid : Prop := interpRenamesUptoRow.holds Tryz.pinned (OpenSpec.upto interpRenamesSpec)

/-- 'keyholelaw16.InterpHatches', WHERE WHAT IT READS IS OF BULK AT MOST 1048576: true; the input reads as it did. -/
def interpHatchesUptoRow : OpenClaim := { program := "ytnabbmegmkdehaagreatdoor", sum := "fcef34fcc76236cc21938033ed0c00d993f766c40f1e04d389beeb013fdee230", func := "keyhole/keyholelaw16.InterpHatches", spec := "interpHatches", inPlace := ["internal/bytealg.IndexByteString", "internal/bytealg.IndexString", "maps.clone"], unfollowed := true, recurses := true, named := ["internal/bytealg.MaxLen", "internal/strconv.uint64pow10", "math/bits.deBruijn32tab", "math/bits.deBruijn64tab"], loops := true, apart := false, laid := [("math/bits.deBruijn32tab", laid_math_bits_deBruijn32tab), ("math/bits.deBruijn64tab", laid_math_bits_deBruijn64tab), ("internal/strconv.uint64pow10", laid_internal_strconv_uint64pow10)], narrowed := true }
def InterpHatchesUptoSaid : Prop := interpHatchesUptoRow.holds Tryz.pinned (OpenSpec.upto interpHatchesSpec)

/-- 'keyholelaw16.InterpFinals', WHERE WHAT IT READS IS OF BULK AT MOST 1048576: true; the input reads as it did. -/
def interpFinalsUptoRow : OpenClaim := { program := "ytnabbmegmkdehaagreatdoor", sum := "fcef34fcc76236cc21938033ed0c00d993f766c40f1e04d389beeb013fdee230", func := "keyhole/keyholelaw16.InterpFinals", spec := "interpFinals", inPlace := ["internal/bytealg.IndexByteString", "internal/bytealg.IndexString", "maps.clone"], unfollowed := true, recurses := true, named := ["internal/bytealg.MaxLen", "internal/strconv.uint64pow10", "math/bits.deBruijn32tab", "math/bits.deBruijn64tab"], loops := true, apart := false, laid := [("math/bits.deBruijn32tab", laid_math_bits_deBruijn32tab), ("math/bits.deBruijn64tab", laid_math_bits_deBruijn64tab), ("internal/strconv.uint64pow10", laid_internal_strconv_uint64pow10)], narrowed := true }
def InterpFinalsUptoSaid : Prop := interpFinalsUptoRow.holds Tryz.pinned (OpenSpec.upto interpFinalsSpec)

end Rows
end Go.Proofs.YtnabbmegmkdehaaGreatDoor
