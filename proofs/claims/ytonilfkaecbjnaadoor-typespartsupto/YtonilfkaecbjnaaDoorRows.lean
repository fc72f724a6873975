/-
  NARROWER THAN 'FOR EVERY INPUT', by the rows' own cells (each row's printed sentence says how): TypesExpands: loops, laid · TypesScalars: loops, laid · TypesProducts: loops, laid · TypesClamps: loops, laid · TypesChecks: loops, laid · TypesExpanded: loops, laid · TypesFinds: loops, laid · TypesParts: loops, laid · SyntaxMentions: loops, laid · SyntaxEqual: loops, laid.
  DERIVED. THE GIVEN ROWS OF THIS SEAT. 10 by the template 'for every input the law returns true; each argument reads behind the call as it read before'; 0 by the template 'total and deterministic' (their statements: YtonilfkaecbjnaaDoorTotals.lean).
  GIVEN WITH THE SEED: the statements are not yours to turn. If you find one false, say at which input.
  Laid BY PROGRAM, IN A SANDBOX (cutbox-rows.mjs): the forced cells as the released guide's own fill.sh prints them over the translation 9823f9cbc334e984… (all of the seat's roots in one cut). By AI agents, Wed Nov 11 2026. No macro, syntax, notation, axiom, sorry.
-/
import Derived.Test.YtonilfkaecbjnaaDoorChecked
import GoSem.Claim
import GoSem.ClaimJoined
import GoSem.ClaimMapViews
import Derived.JoinedTies
import Derived.KernelRfl
namespace Go.Proofs.YtonilfkaecbjnaaDoor
/- THE CELL 'sum', in the pinned program and in every row, IS THE sha256 OF THE DUMP (.gsa) THAT YtonilfkaecbjnaaDoorProg.lean LOADS. Nothing in Lean hashes anything: it is a label: what it is worth is what the hold of that sum in a sandbox is worth. -/
noncomputable def Tryd.pinned : Pinned := { name := "ytonilfkaecbjnaadoor", sum := "9823f9cbc334e984ca120e9cfb1f50f70d02f220e36e9595fe01a43244615fb8", checked := Tryd.checked }
namespace Rows
def none {H : Type} : Left H := { results := [], args := [] }

/- WHAT THE LISTED PACKAGE-LEVEL VARIABLES READ AS WHEN THE CALL BEGINS. Each datum BY PROGRAM (the guide's laid-datum.mjs) off the statement by which the dump's own 'gosem.cut.vars' lays the variable. In a bare row this is a premise. The card (YtonilfkaecbjnaaDoorCards.lean) ties it to the program's text. -/
def laid_math_bits_deBruijn32tab {H : Type} : DataW H := .agg [.lit (.int .u8 0), .lit (.int .u8 1), .lit (.int .u8 28), .lit (.int .u8 2), .lit (.int .u8 29), .lit (.int .u8 14), .lit (.int .u8 24), .lit (.int .u8 3), .lit (.int .u8 30), .lit (.int .u8 22), .lit (.int .u8 20), .lit (.int .u8 15), .lit (.int .u8 25), .lit (.int .u8 17), .lit (.int .u8 4), .lit (.int .u8 8), .lit (.int .u8 31), .lit (.int .u8 27), .lit (.int .u8 13), .lit (.int .u8 23), .lit (.int .u8 21), .lit (.int .u8 19), .lit (.int .u8 16), .lit (.int .u8 7), .lit (.int .u8 26), .lit (.int .u8 12), .lit (.int .u8 18), .lit (.int .u8 6), .lit (.int .u8 11), .lit (.int .u8 5), .lit (.int .u8 10), .lit (.int .u8 9)]
def laid_math_bits_deBruijn64tab {H : Type} : DataW H := .agg [.lit (.int .u8 0), .lit (.int .u8 1), .lit (.int .u8 56), .lit (.int .u8 2), .lit (.int .u8 57), .lit (.int .u8 49), .lit (.int .u8 28), .lit (.int .u8 3), .lit (.int .u8 61), .lit (.int .u8 58), .lit (.int .u8 42), .lit (.int .u8 50), .lit (.int .u8 38), .lit (.int .u8 29), .lit (.int .u8 17), .lit (.int .u8 4), .lit (.int .u8 62), .lit (.int .u8 47), .lit (.int .u8 59), .lit (.int .u8 36), .lit (.int .u8 45), .lit (.int .u8 43), .lit (.int .u8 51), .lit (.int .u8 22), .lit (.int .u8 53), .lit (.int .u8 39), .lit (.int .u8 33), .lit (.int .u8 30), .lit (.int .u8 24), .lit (.int .u8 18), .lit (.int .u8 12), .lit (.int .u8 5), .lit (.int .u8 63), .lit (.int .u8 55), .lit (.int .u8 48), .lit (.int .u8 27), .lit (.int .u8 60), .lit (.int .u8 41), .lit (.int .u8 37), .lit (.int .u8 16), .lit (.int .u8 46), .lit (.int .u8 35), .lit (.int .u8 44), .lit (.int .u8 21), .lit (.int .u8 52), .lit (.int .u8 32), .lit (.int .u8 23), .lit (.int .u8 11), .lit (.int .u8 54), .lit (.int .u8 26), .lit (.int .u8 40), .lit (.int .u8 15), .lit (.int .u8 34), .lit (.int .u8 20), .lit (.int .u8 31), .lit (.int .u8 10), .lit (.int .u8 25), .lit (.int .u8 14), .lit (.int .u8 19), .lit (.int .u8 9), .lit (.int .u8 13), .lit (.int .u8 8), .lit (.int .u8 7), .lit (.int .u8 6)]
def laid_internal_strconv_uint64pow10 {H : Type} : DataW H := .agg [.lit (.int .u64 1), .lit (.int .u64 10), .lit (.int .u64 100), .lit (.int .u64 1000), .lit (.int .u64 10000), .lit (.int .u64 100000), .lit (.int .u64 1000000), .lit (.int .u64 10000000), .lit (.int .u64 100000000), .lit (.int .u64 1000000000), .lit (.int .u64 10000000000), .lit (.int .u64 100000000000), .lit (.int .u64 1000000000000), .lit (.int .u64 10000000000000), .lit (.int .u64 100000000000000), .lit (.int .u64 1000000000000000), .lit (.int .u64 10000000000000000), .lit (.int .u64 100000000000000000), .lit (.int .u64 1000000000000000000), .lit (.int .u64 10000000000000000000)]
def laid_keyhole_syntax_signs {H : Type} : DataW H := .agg [.lit (.string [43]), .lit (.string [45]), .lit (.string [42]), .lit (.string [47]), .lit (.string [37]), .lit (.string [61, 61]), .lit (.string [33, 61]), .lit (.string [60]), .lit (.string [60, 61]), .lit (.string [62]), .lit (.string [62, 61]), .lit (.string [38, 38]), .lit (.string [124, 124])]

/-- 'keyholelaw12.TypesExpands': WHATEVER THE INPUT: true; the input reads as it did. -/
def typesExpandsSpec : ChangeSpec := { name := "typesExpands", fn := fun _ => fun
  | [d1, d2] => { results := [.lit (.bool true)], args := [d1, d2] }
  | _ => none }
def typesExpandsRow : OpenClaim := { program := "ytonilfkaecbjnaadoor", sum := "9823f9cbc334e984ca120e9cfb1f50f70d02f220e36e9595fe01a43244615fb8", func := "keyhole/keyholelaw12.TypesExpands", spec := "typesExpands", inPlace := ["internal/bytealg.IndexByteString", "internal/bytealg.IndexString"], unfollowed := true, recurses := true, named := ["internal/bytealg.MaxLen", "internal/strconv.uint64pow10", "math/bits.deBruijn32tab", "math/bits.deBruijn64tab"], loops := true, apart := false, laid := [("math/bits.deBruijn32tab", laid_math_bits_deBruijn32tab), ("math/bits.deBruijn64tab", laid_math_bits_deBruijn64tab), ("internal/strconv.uint64pow10", laid_internal_strconv_uint64pow10)] }
def TypesExpandsSaid : Prop := typesExpandsRow.holds Tryd.pinned (OpenSpec.ofChange typesExpandsSpec)

/-- ITS FALSE NEIGHBOUR: 'it returns false'. Refute it at one input. -/
def typesExpandsWrong : ChangeSpec := { name := "typesExpands", fn := fun _ => fun
  | [d1, d2] => { results := [.lit (.bool false)], args := [d1, d2] }
  | _ => none }
def TypesExpandsWrongFalsely : Prop := typesExpandsRow.holds Tryd.pinned (OpenSpec.ofChange typesExpandsWrong)

/-- 'keyholelaw12.TypesScalars': WHATEVER THE INPUT: true; the input reads as it did. -/
def typesScalarsSpec : ChangeSpec := { name := "typesScalars", fn := fun _ => fun
  | [d] => { results := [.lit (.bool true)], args := [d] }
  | _ => none }
def typesScalarsRow : OpenClaim := { program := "ytonilfkaecbjnaadoor", sum := "9823f9cbc334e984ca120e9cfb1f50f70d02f220e36e9595fe01a43244615fb8", func := "keyhole/keyholelaw12.TypesScalars", spec := "typesScalars", inPlace := ["internal/bytealg.IndexByteString", "internal/bytealg.IndexString"], unfollowed := true, recurses := true, named := ["internal/bytealg.MaxLen", "internal/strconv.uint64pow10", "math/bits.deBruijn32tab", "math/bits.deBruijn64tab"], loops := true, apart := false, laid := [("math/bits.deBruijn32tab", laid_math_bits_deBruijn32tab), ("math/bits.deBruijn64tab", laid_math_bits_deBruijn64tab), ("internal/strconv.uint64pow10", laid_internal_strconv_uint64pow10)] }
def TypesScalarsSaid : Prop := typesScalarsRow.holds Tryd.pinned (OpenSpec.ofChange typesScalarsSpec)

/-- ITS FALSE NEIGHBOUR: 'it returns false'. Refute it at one input. -/
def typesScalarsWrong : ChangeSpec := { name := "typesScalars", fn := fun _ => fun
  | [d] => { results := [.lit (.bool false)], args := [d] }
  | _ => none }
def TypesScalarsWrongFalsely : Prop := typesScalarsRow.holds Tryd.pinned (OpenSpec.ofChange typesScalarsWrong)

/-- 'keyholelaw12.TypesProducts': WHATEVER THE INPUT: true; the input reads as it did. -/
def typesProductsSpec : ChangeSpec := { name := "typesProducts", fn := fun _ => fun
  | [d1, d2, d3] => { results := [.lit (.bool true)], args := [d1, d2, d3] }
  | _ => none }
def typesProductsRow : OpenClaim := { program := "ytonilfkaecbjnaadoor", sum := "9823f9cbc334e984ca120e9cfb1f50f70d02f220e36e9595fe01a43244615fb8", func := "keyhole/keyholelaw12.TypesProducts", spec := "typesProducts", inPlace := ["internal/bytealg.IndexByteString", "internal/bytealg.IndexString"], unfollowed := true, recurses := true, named := ["internal/bytealg.MaxLen", "internal/strconv.uint64pow10", "math/bits.deBruijn32tab", "math/bits.deBruijn64tab"], loops := true, apart := false, laid := [("math/bits.deBruijn32tab", laid_math_bits_deBruijn32tab), ("math/bits.deBruijn64tab", laid_math_bits_deBruijn64tab), ("internal/strconv.uint64pow10", laid_internal_strconv_uint64pow10)] }
def TypesProductsSaid : Prop := typesProductsRow.holds Tryd.pinned (OpenSpec.ofChange typesProductsSpec)

/-- ITS FALSE NEIGHBOUR: 'it returns false'. Refute it at one input. -/
def typesProductsWrong : ChangeSpec := { name := "typesProducts", fn := fun _ => fun
  | [d1, d2, d3] => { results := [.lit (.bool false)], args := [d1, d2, d3] }
  | _ => none }
def TypesProductsWrongFalsely : Prop := typesProductsRow.holds Tryd.pinned (OpenSpec.ofChange typesProductsWrong)

/-- 'keyholelaw12.TypesClamps': WHATEVER THE INPUT: true; the input reads as it did. -/
def typesClampsSpec : ChangeSpec := { name := "typesClamps", fn := fun _ => fun
  | [d1, d2] => { results := [.lit (.bool true)], args := [d1, d2] }
  | _ => none }
def typesClampsRow : OpenClaim := { program := "ytonilfkaecbjnaadoor", sum := "9823f9cbc334e984ca120e9cfb1f50f70d02f220e36e9595fe01a43244615fb8", func := "keyhole/keyholelaw12.TypesClamps", spec := "typesClamps", inPlace := ["internal/bytealg.IndexByteString", "internal/bytealg.IndexString"], unfollowed := true, recurses := true, named := ["internal/bytealg.MaxLen", "internal/strconv.uint64pow10", "math/bits.deBruijn32tab", "math/bits.deBruijn64tab"], loops := true, apart := false, laid := [("math/bits.deBruijn32tab", laid_math_bits_deBruijn32tab), ("math/bits.deBruijn64tab", laid_math_bits_deBruijn64tab), ("internal/strconv.uint64pow10", laid_internal_strconv_uint64pow10)] }
def TypesClampsSaid : Prop := typesClampsRow.holds Tryd.pinned (OpenSpec.ofChange typesClampsSpec)

/-- ITS FALSE NEIGHBOUR: 'it returns false'. Refute it at one input. -/
def typesClampsWrong : ChangeSpec := { name := "typesClamps", fn := fun _ => fun
  | [d1, d2] => { results := [.lit (.bool false)], args := [d1, d2] }
  | _ => none }
def TypesClampsWrongFalsely : Prop := typesClampsRow.holds Tryd.pinned (OpenSpec.ofChange typesClampsWrong)

/-- 'keyholelaw12.TypesChecks': WHATEVER THE INPUT: true; the input reads as it did. -/
def typesChecksSpec : ChangeSpec := { name := "typesChecks", fn := fun _ => fun
  | [d1, d2] => { results := [.lit (.bool true)], args := [d1, d2] }
  | _ => none }
def typesChecksRow : OpenClaim := { program := "ytonilfkaecbjnaadoor", sum := "9823f9cbc334e984ca120e9cfb1f50f70d02f220e36e9595fe01a43244615fb8", func := "keyhole/keyholelaw12.TypesChecks", spec := "typesChecks", inPlace := ["internal/bytealg.IndexByteString", "internal/bytealg.IndexString"], unfollowed := true, recurses := true, named := ["internal/bytealg.MaxLen", "internal/strconv.uint64pow10", "math/bits.deBruijn32tab", "math/bits.deBruijn64tab"], loops := true, apart := false, laid := [("math/bits.deBruijn32tab", laid_math_bits_deBruijn32tab), ("math/bits.deBruijn64tab", laid_math_bits_deBruijn64tab), ("internal/strconv.uint64pow10", laid_internal_strconv_uint64pow10)] }
def TypesChecksSaid : Prop := typesChecksRow.holds Tryd.pinned (OpenSpec.ofChange typesChecksSpec)

/-- ITS FALSE NEIGHBOUR: 'it returns false'. Refute it at one input. -/
def typesChecksWrong : ChangeSpec := { name := "typesChecks", fn := fun _ => fun
  | [d1, d2] => { results := [.lit (.bool false)], args := [d1, d2] }
  | _ => none }
def TypesChecksWrongFalsely : Prop := typesChecksRow.holds Tryd.pinned (OpenSpec.ofChange typesChecksWrong)

/-- 'keyholelaw12.TypesExpanded': WHATEVER THE INPUT: true; the input reads as it did. -/
def typesExpandedSpec : ChangeSpec := { name := "typesExpanded", fn := fun _ => fun
  | [d1, d2, d3] => { results := [.lit (.bool true)], args := [d1, d2, d3] }
  | _ => none }
def typesExpandedRow : OpenClaim := { program := "ytonilfkaecbjnaadoor", sum := "9823f9cbc334e984ca120e9cfb1f50f70d02f220e36e9595fe01a43244615fb8", func := "keyhole/keyholelaw12.TypesExpanded", spec := "typesExpanded", inPlace := ["internal/bytealg.IndexByteString", "internal/bytealg.IndexString"], unfollowed := true, recurses := true, named := ["internal/bytealg.MaxLen", "internal/strconv.uint64pow10", "math/bits.deBruijn32tab", "math/bits.deBruijn64tab"], loops := true, apart := false, laid := [("math/bits.deBruijn32tab", laid_math_bits_deBruijn32tab), ("math/bits.deBruijn64tab", laid_math_bits_deBruijn64tab), ("internal/strconv.uint64pow10", laid_internal_strconv_uint64pow10)] }
def TypesExpandedSaid : Prop := typesExpandedRow.holds Tryd.pinned (OpenSpec.ofChange typesExpandedSpec)

/-- ITS FALSE NEIGHBOUR: 'it returns false'. Refute it at one input. -/
def typesExpandedWrong : ChangeSpec := { name := "typesExpanded", fn := fun _ => fun
  | [d1, d2, d3] => { results := [.lit (.bool false)], args := [d1, d2, d3] }
  | _ => none }
def TypesExpandedWrongFalsely : Prop := typesExpandedRow.holds Tryd.pinned (OpenSpec.ofChange typesExpandedWrong)

/-- 'keyholelaw12.TypesFinds': WHATEVER THE INPUT: true; the input reads as it did. -/
def typesFindsSpec : ChangeSpec := { name := "typesFinds", fn := fun _ => fun
  | [d1, d2] => { results := [.lit (.bool true)], args := [d1, d2] }
  | _ => none }
def typesFindsRow : OpenClaim := { program := "ytonilfkaecbjnaadoor", sum := "9823f9cbc334e984ca120e9cfb1f50f70d02f220e36e9595fe01a43244615fb8", func := "keyhole/keyholelaw12.TypesFinds", spec := "typesFinds", inPlace := ["internal/bytealg.IndexByteString", "internal/bytealg.IndexString"], unfollowed := true, recurses := true, named := ["internal/bytealg.MaxLen", "internal/strconv.uint64pow10", "math/bits.deBruijn32tab", "math/bits.deBruijn64tab"], loops := true, apart := false, laid := [("math/bits.deBruijn32tab", laid_math_bits_deBruijn32tab), ("math/bits.deBruijn64tab", laid_math_bits_deBruijn64tab), ("internal/strconv.uint64pow10", laid_internal_strconv_uint64pow10)] }
def TypesFindsSaid : Prop := typesFindsRow.holds Tryd.pinned (OpenSpec.ofChange typesFindsSpec)

/-- ITS FALSE NEIGHBOUR: 'it returns false'. Refute it at one input. -/
def typesFindsWrong : ChangeSpec := { name := "typesFinds", fn := fun _ => fun
  | [d1, d2] => { results := [.lit (.bool false)], args := [d1, d2] }
  | _ => none }
def TypesFindsWrongFalsely : Prop := typesFindsRow.holds Tryd.pinned (OpenSpec.ofChange typesFindsWrong)

/-- 'keyholelaw12.TypesParts': WHATEVER THE INPUT: true; the input reads as it did. -/
def typesPartsSpec : ChangeSpec := { name := "typesParts", fn := fun _ => fun
  | [d1, d2] => { results := [.lit (.bool true)], args := [d1, d2] }
  | _ => none }
def typesPartsRow : OpenClaim := { program := "ytonilfkaecbjnaadoor", sum := "9823f9cbc334e984ca120e9cfb1f50f70d02f220e36e9595fe01a43244615fb8", func := "keyhole/keyholelaw12.TypesParts", spec := "typesParts", inPlace := ["internal/bytealg.IndexByteString", "internal/bytealg.IndexString"], unfollowed := true, recurses := true, named := ["internal/bytealg.MaxLen", "internal/strconv.uint64pow10", "math/bits.deBruijn32tab", "math/bits.deBruijn64tab"], loops := true, apart := false, laid := [("math/bits.deBruijn32tab", laid_math_bits_deBruijn32tab), ("math/bits.deBruijn64tab", laid_math_bits_deBruijn64tab), ("internal/strconv.uint64pow10", laid_internal_strconv_uint64pow10)] }
def TypesPartsSaid : Prop := typesPartsRow.holds Tryd.pinned (OpenSpec.ofChange typesPartsSpec)

/-- ITS FALSE NEIGHBOUR: 'it returns false'. Refute it at one input. -/
def typesPartsWrong : ChangeSpec := { name := "typesParts", fn := fun _ => fun
  | [d1, d2] => { results := [.lit (.bool false)], args := [d1, d2] }
  | _ => none }
def TypesPartsWrongFalsely : Prop := typesPartsRow.holds Tryd.pinned (OpenSpec.ofChange typesPartsWrong)

/-- 'keyholelaw10.SyntaxMentions': WHATEVER THE INPUT: true; the input reads as it did. -/
def syntaxMentionsSpec : ChangeSpec := { name := "syntaxMentions", fn := fun _ => fun
  | [d1, d2] => { results := [.lit (.bool true)], args := [d1, d2] }
  | _ => none }
def syntaxMentionsRow : OpenClaim := { program := "ytonilfkaecbjnaadoor", sum := "9823f9cbc334e984ca120e9cfb1f50f70d02f220e36e9595fe01a43244615fb8", func := "keyhole/keyholelaw10.SyntaxMentions", spec := "syntaxMentions", inPlace := ["internal/bytealg.IndexByteString", "internal/bytealg.IndexString", "internal/abi.NoEscape"], unfollowed := true, recurses := true, named := ["internal/bytealg.MaxLen", "internal/strconv.uint64pow10", "math/bits.deBruijn32tab", "math/bits.deBruijn64tab", "keyhole/syntax.signs"], loops := true, apart := false, laid := [("math/bits.deBruijn32tab", laid_math_bits_deBruijn32tab), ("math/bits.deBruijn64tab", laid_math_bits_deBruijn64tab), ("internal/strconv.uint64pow10", laid_internal_strconv_uint64pow10), ("keyhole/syntax.signs", laid_keyhole_syntax_signs)] }
def SyntaxMentionsSaid : Prop := syntaxMentionsRow.holds Tryd.pinned (OpenSpec.ofChange syntaxMentionsSpec)

/-- ITS FALSE NEIGHBOUR: 'it returns false'. Refute it at one input. -/
def syntaxMentionsWrong : ChangeSpec := { name := "syntaxMentions", fn := fun _ => fun
  | [d1, d2] => { results := [.lit (.bool false)], args := [d1, d2] }
  | _ => none }
def SyntaxMentionsWrongFalsely : Prop := syntaxMentionsRow.holds Tryd.pinned (OpenSpec.ofChange syntaxMentionsWrong)

/-- 'keyholelaw10.SyntaxEqual': WHATEVER THE INPUT: true; the input reads as it did. -/
def syntaxEqualSpec : ChangeSpec := { name := "syntaxEqual", fn := fun _ => fun
  | [d1, d2, d3] => { results := [.lit (.bool true)], args := [d1, d2, d3] }
  | _ => none }
def syntaxEqualRow : OpenClaim := { program := "ytonilfkaecbjnaadoor", sum := "9823f9cbc334e984ca120e9cfb1f50f70d02f220e36e9595fe01a43244615fb8", func := "keyhole/keyholelaw10.SyntaxEqual", spec := "syntaxEqual", inPlace := ["internal/bytealg.IndexByteString", "internal/bytealg.IndexString", "internal/abi.NoEscape"], unfollowed := true, recurses := true, named := ["internal/bytealg.MaxLen", "internal/strconv.uint64pow10", "math/bits.deBruijn32tab", "math/bits.deBruijn64tab", "keyhole/syntax.signs"], loops := true, apart := false, laid := [("math/bits.deBruijn32tab", laid_math_bits_deBruijn32tab), ("math/bits.deBruijn64tab", laid_math_bits_deBruijn64tab), ("internal/strconv.uint64pow10", laid_internal_strconv_uint64pow10), ("keyhole/syntax.signs", laid_keyhole_syntax_signs)] }
def SyntaxEqualSaid : Prop := syntaxEqualRow.holds Tryd.pinned (OpenSpec.ofChange syntaxEqualSpec)

/-- ITS FALSE NEIGHBOUR: 'it returns false'. Refute it at one input. -/
def syntaxEqualWrong : ChangeSpec := { name := "syntaxEqual", fn := fun _ => fun
  | [d1, d2, d3] => { results := [.lit (.bool false)], args := [d1, d2, d3] }
  | _ => none }
def SyntaxEqualWrongFalsely : Prop := syntaxEqualRow.holds Tryd.pinned (OpenSpec.ofChange syntaxEqualWrong)

/- THE SECOND FORM. 'bulk': how many values and letters a reading holds, each counted each time it is reached (what is shared counts as often as it is met; a slice's spare places count too). A statement '..UptoSaid' is the law's where the arguments, and the package variables that the reading takes, are together of bulk at most 1048576: NARROWER than '..Said'. Prove '..Said' where nothing that the law and all that it calls make is longer than what came in: it says more and counts as full. Else prove '..UptoSaid'. A law counts once. -/
mutual
def uptoBulk {H : Type} : DataW H → Nat
  | .lit (.string bytes) => bytes.length + 1
  | .lit _ => 1
  | .nil => 1
  | .ptr d => uptoBulk d + 1
  | .slice elems spare => uptoBulkAll elems + uptoBulkAll spare + 1
  | .agg parts => uptoBulkAll parts + 1
  | .iface _ d => uptoBulk d + 1
  | .map entries => uptoBulkEntries entries + 1
  | .held _ => 1
def uptoBulkAll {H : Type} : List (DataW H) → Nat
  | [] => 0
  | d :: r => uptoBulk d + uptoBulkAll r
def uptoBulkEntries {H : Type} : List (Lit × DataW H) → Nat
  | [] => 0
  | x :: r => uptoBulkEntry x + uptoBulkEntries r
def uptoBulkEntry {H : Type} : Lit × DataW H → Nat
  | (.string bytes, d) => bytes.length + uptoBulk d + 1
  | (_, d) => uptoBulk d + 1
 end
def uptoSmall : (H : Type) → List (DataW H) → Bool := fun _ ds => decide (uptoBulkAll ds ≤ 1048576)
def OpenSpec.upto (s : _root_.Go.ChangeSpec) : _root_.Go.OpenSpec := { _root_.Go.OpenSpec.ofChange s with cond := some uptoSmall }

/-- 'keyholelaw12.TypesExpands', WHERE WHAT IT READS IS OF BULK AT MOST 1048576: true; the input reads as it did. -/
def typesExpandsUptoRow : OpenClaim := { program := "ytonilfkaecbjnaadoor", sum := "9823f9cbc334e984ca120e9cfb1f50f70d02f220e36e9595fe01a43244615fb8", func := "keyhole/keyholelaw12.TypesExpands", spec := "typesExpands", inPlace := ["internal/bytealg.IndexByteString", "internal/bytealg.IndexString"], unfollowed := true, recurses := true, named := ["internal/bytealg.MaxLen", "internal/strconv.uint64pow10", "math/bits.deBruijn32tab", "math/bits.deBruijn64tab"], loops := true, apart := false, laid := [("math/bits.deBruijn32tab", laid_math_bits_deBruijn32tab), ("math/bits.deBruijn64tab", laid_math_bits_deBruijn64tab), ("internal/strconv.uint64pow10", laid_internal_strconv_uint64pow10)], narrowed := true }
def TypesExpandsUptoSaid : Prop := typesExpandsUptoRow.holds Tryd.pinned (OpenSpec.upto typesExpandsSpec)

/-- 'keyholelaw12.TypesScalars', WHERE WHAT IT READS IS OF BULK AT MOST 1048576: true; the input reads as it did. -/
def typesScalarsUptoRow : OpenClaim := { program := "ytonilfkaecbjnaadoor", sum := "9823f9cbc334e984ca120e9cfb1f50f70d02f220e36e9595fe01a43244615fb8", func := "keyhole/keyholelaw12.TypesScalars", spec := "typesScalars", inPlace := ["internal/bytealg.IndexByteString", "internal/bytealg.IndexString"], unfollowed := true, recurses := true, named := ["internal/bytealg.MaxLen", "internal/strconv.uint64pow10", "math/bits.deBruijn32tab", "math/bits.deBruijn64tab"], loops := true, apart := false, laid := [("math/bits.deBruijn32tab", laid_math_bits_deBruijn32tab), ("math/bits.deBruijn64tab", laid_math_bits_deBruijn64tab), ("internal/strconv.uint64pow10", laid_internal_strconv_uint64pow10)], narrowed := true }
def TypesScalarsUptoSaid : Prop := typesScalarsUptoRow.holds Tryd.pinned (OpenSpec.upto typesScalarsSpec)

/-- 'keyholelaw12.TypesProducts', WHERE WHAT IT READS IS OF BULK AT MOST 1048576: true; the input reads as it did. -/
def typesProductsUptoRow : OpenClaim := { program := "ytonilfkaecbjnaadoor", sum := "9823f9cbc334e984ca120e9cfb1f50f70d02f220e36e9595fe01a43244615fb8", func := "keyhole/keyholelaw12.TypesProducts", spec := "typesProducts", inPlace := ["internal/bytealg.IndexByteString", "internal/bytealg.IndexString"], unfollowed := true, recurses := true, named := ["internal/bytealg.MaxLen", "internal/strconv.uint64pow10", "math/bits.deBruijn32tab", "math/bits.deBruijn64tab"], loops := true, apart := false, laid := [("math/bits.deBruijn32tab", laid_math_bits_deBruijn32tab), ("math/bits.deBruijn64tab", laid_math_bits_deBruijn64tab), ("internal/strconv.uint64pow10", laid_internal_strconv_uint64pow10)], narrowed := true }
def TypesProductsUptoSaid : Prop := typesProductsUptoRow.holds Tryd.pinned (OpenSpec.upto typesProductsSpec)

/-- 'keyholelaw12.TypesClamps', WHERE WHAT IT READS IS OF BULK AT MOST 1048576: true; the input reads as it did. -/
def typesClampsUptoRow : OpenClaim := { program := "ytonilfkaecbjnaadoor", sum := "9823f9cbc334e984ca120e9cfb1f50f70d02f220e36e9595fe01a43244615fb8", func := "keyhole/keyholelaw12.TypesClamps", spec := "typesClamps", inPlace := ["internal/bytealg.IndexByteString", "internal/bytealg.IndexString"], unfollowed := true, recurses := true, named := ["internal/bytealg.MaxLen", "internal/strconv.uint64pow10", "math/bits.deBruijn32tab", "math/bits.deBruijn64tab"], loops := true, apart := false, laid := [("math/bits.deBruijn32tab", laid_math_bits_deBruijn32tab), ("math/bits.deBruijn64tab", laid_math_bits_deBruijn64tab), ("internal/strconv.uint64pow10", laid_internal_strconv_uint64pow10)], narrowed := true }
def TypesClampsUptoSaid : Prop := typesClampsUptoRow.holds Tryd.pinned (OpenSpec.upto typesClampsSpec)

/-- 'keyholelaw12.TypesChecks', WHERE WHAT IT READS IS OF BULK AT MOST 1048576: true; the input reads as it did. -/
def typesChecksUptoRow : OpenClaim := { program := "ytonilfkaecbjnaadoor", sum := "9823f9cbc334e984ca120e9cfb1f50f70d02f220e36e9595fe01a43244615fb8", func := "keyhole/keyholelaw12.TypesChecks", spec := "typesChecks", inPlace := ["internal/bytealg.IndexByteString", "internal/bytealg.IndexString"], unfollowed := true, recurses := true, named := ["internal/bytealg.MaxLen", "internal/strconv.uint64pow10", "math/bits.deBruijn32tab", "math/bits.deBruijn64tab"], loops := true, apart := false, laid := [("math/bits.deBruijn32tab", laid_math_bits_deBruijn32tab), ("math/bits.deBruijn64tab", laid_math_bits_deBruijn64tab), ("internal/strconv.uint64pow10", laid_internal_strconv_uint64pow10)], narrowed := true }
def TypesChecksUptoSaid : Prop := typesChecksUptoRow.holds Tryd.pinned (OpenSpec.upto typesChecksSpec)

/-- 'keyholelaw12.TypesExpanded', WHERE WHAT IT READS IS OF BULK AT MOST 1048576: true; the input reads as it did. -/
def typesExpandedUptoRow : OpenClaim := { program := "ytonilfkaecbjnaadoor", sum := "9823f9cbc334e984ca120e9cfb1f50f70d02f220e36e9595fe01a43244615fb8", func := "keyhole/keyholelaw12.TypesExpanded", spec := "typesExpanded", inPlace := ["internal/bytealg.IndexByteString", "internal/bytealg.IndexString"], unfollowed := true, recurses := true, named := ["internal/bytealg.MaxLen", "internal/strconv.uint64pow10", "math/bits.deBruijn32tab", "math/bits.deBruijn64tab"], loops := true, apart := false, laid := [("math/bits.deBruijn32tab", laid_math_bits_deBruijn32tab), ("math/bits.deBruijn64tab", laid_math_bits_deBruijn64tab), ("internal/strconv.uint64pow10", laid_internal_strconv_uint64pow10)], narrowed := true }
def TypesExpandedUptoSaid : Prop := typesExpandedUptoRow.holds Tryd.pinned (OpenSpec.upto typesExpandedSpec)

/-- 'keyholelaw12.TypesFinds', WHERE WHAT IT READS IS OF BULK AT MOST 1048576: true; the input reads as it did. -/
def typesFindsUptoRow : OpenClaim := { program := "ytonilfkaecbjnaadoor", sum := "9823f9cbc334e984ca120e9cfb1f50f70d02f220e36e9595fe01a43244615fb8", func := "keyhole/keyholelaw12.TypesFinds", spec := "typesFinds", inPlace := ["internal/bytealg.IndexByteString", "internal/bytealg.IndexString"], unfollowed := true, recurses := true, named := ["internal/bytealg.MaxLen", "internal/strconv.uint64pow10", "math/bits.deBruijn32tab", "math/bits.deBruijn64tab"], loops := true, apart := false, laid := [("math/bits.deBruijn32tab", laid_math_bits_deBruijn32tab), ("math/bits.deBruijn64tab", laid_math_bits_deBruijn64tab), ("internal/strconv.uint64pow10", laid_internal_strconv_uint64pow10)], narrowed := true }
def TypesFindsUptoSaid : Prop := typesFindsUptoRow.holds Tryd.pinned (OpenSpec.upto typesFindsSpec)

/-- 'keyholelaw12.TypesParts', WHERE WHAT IT READS IS OF BULK AT MOST 1048576: true; the input reads as it did. -/
def typesPartsUptoRow : OpenClaim := { program := "ytonilfkaecbjnaadoor", sum := "9823f9cbc334e984ca120e9cfb1f50f70d02f220e36e9595fe01a43244615fb8", func := "keyhole/keyholelaw12.TypesParts", spec := "typesParts", inPlace := ["internal/bytealg.IndexByteString", "internal/bytealg.IndexString"], unfollowed := true, recurses := true, named := ["internal/bytealg.MaxLen", "internal/strconv.uint64pow10", "math/bits.deBruijn32tab", "math/bits.deBruijn64tab"], loops := true, apart := false, laid := [("math/bits.deBruijn32tab", laid_math_bits_deBruijn32tab), ("math/bits.deBruijn64tab", laid_math_bits_deBruijn64tab), ("internal/strconv.uint64pow10", laid_internal_strconv_uint64pow10)], narrowed := true }
def TypesPartsUptoSaid : Prop := typesPartsUptoRow.holds Tryd.pinned (OpenSpec.upto typesPartsSpec)

/-- 'keyholelaw10.SyntaxMentions', WHERE WHAT IT READS IS OF BULK AT MOST 1048576: true; the input reads as it did. -/
def syntaxMentionsUptoRow : OpenClaim := { program := "ytonilfkaecbjnaadoor", sum := "9823f9cbc334e984ca120e9cfb1f50f70d02f220e36e9595fe01a43244615fb8", func := "keyhole/keyholelaw10.SyntaxMentions", spec := "syntaxMentions", inPlace := ["internal/bytealg.IndexByteString", "internal/bytealg.IndexString", "internal/abi.NoEscape"], unfollowed := true, recurses := true, named := ["internal/bytealg.MaxLen", "internal/strconv.uint64pow10", "math/bits.deBruijn32tab", "math/bits.deBruijn64tab", "keyhole/syntax.signs"], loops := true, apart := false, laid := [("math/bits.deBruijn32tab", laid_math_bits_deBruijn32tab), ("math/bits.deBruijn64tab", laid_math_bits_deBruijn64tab), ("internal/strconv.uint64pow10", laid_internal_strconv_uint64pow10), ("keyhole/syntax.signs", laid_keyhole_syntax_signs)], narrowed := true }
def SyntaxMentionsUptoSaid : Prop := syntaxMentionsUptoRow.holds Tryd.pinned (OpenSpec.upto syntaxMentionsSpec)

/-- 'keyholelaw10.SyntaxEqual', WHERE WHAT IT READS IS OF BULK AT MOST 1048576: true; the input reads as it did. -/
def syntaxEqualUptoRow : OpenClaim := { program := "ytonilfkaecbjnaadoor", sum := "9823f9cbc334e984ca120e9cfb1f50f70d02f220e36e9595fe01a43244615fb8", func := "keyhole/keyholelaw10.SyntaxEqual", spec := "syntaxEqual", inPlace := ["internal/bytealg.IndexByteString", "internal/bytealg.IndexString", "internal/abi.NoEscape"], unfollowed := true, recurses := true, named := ["internal/bytealg.MaxLen", "internal/strconv.uint64pow10", "math/bits.deBruijn32tab", "math/bits.deBruijn64tab", "keyhole/syntax.signs"], loops := true, apart := false, laid := [("math/bits.deBruijn32tab", laid_math_bits_deBruijn32tab), ("math/bits.deBruijn64tab", laid_math_bits_deBruijn64tab), ("internal/strconv.uint64pow10", laid_internal_strconv_uint64pow10), ("keyhole/syntax.signs", laid_keyhole_syntax_signs)], narrowed := true }
def SyntaxEqualUptoSaid : Prop := syntaxEqualUptoRow.holds Tryd.pinned (OpenSpec.upto syntaxEqualSpec)

end Rows
end Go.Proofs.YtonilfkaecbjnaaDoor
