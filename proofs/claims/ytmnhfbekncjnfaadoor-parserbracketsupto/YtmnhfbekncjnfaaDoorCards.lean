/-
  DERIVED. GIVEN WITH THE SEED: THE CARDS: each row of YtmnhfbekncjnfaaDoorRows.lean that lists a variable, with what it lists TIED to the program's text (the seventh form; the later family's looks); each row that meets fmt, with fmt's text TOLD by the authors' own Lean function (tested against real Go, not proved from fmt's source: count such statements apart). THE CARD IS WHAT COUNTS. Prove the row's statement (the work); the ties are given (YtmnhfbekncjnfaaDoorTie.lean); close each card by the builder's one call (the guide's Derived/Test/ToyasCard.lean, 'card_holds'). Laid BY PROGRAM, IN A SANDBOX (cutbox-door.mjs). By AI agents, Wed Nov 11 2026. No macro, syntax, notation, axiom, sorry.
-/
import Derived.Test.YtmnhfbekncjnfaaDoorRows
import GoSem.ClaimSeven
namespace Go.Proofs.YtmnhfbekncjnfaaDoor
namespace Rows

/-- THE TIED CARD OF 'keyholelaw11.ParserBrackets'. -/
def parserBracketsCard : Claim7 := { stood := { row := parserBracketsRow, standIns := [], harness := (true, "a1db3ac1b47a58e255a27b9569b11ca2fcdea17cf8798f74bc23304294f0a242"), looks := true }, kinds := [], alts := [], laidByText := true, laidKinds := [.data, .data, .data, .sentinel, .sentinel], laidTests := true, laidLooks := .later }
def ParserBracketsCardSaid : Prop := Claim7.holds Tryd.pinned (.plain (OpenSpec.ofChange parserBracketsSpec)) parserBracketsCard

/-- THE SECOND FORM's CARD OF 'keyholelaw11.ParserBrackets'. -/
def parserBracketsUptoCard : Claim7 := { stood := { row := parserBracketsUptoRow, standIns := [], harness := (true, "a1db3ac1b47a58e255a27b9569b11ca2fcdea17cf8798f74bc23304294f0a242"), looks := true }, kinds := [], alts := [], laidByText := true, laidKinds := [.data, .data, .data, .sentinel, .sentinel], laidTests := true, laidLooks := .later }
def ParserBracketsUptoCardSaid : Prop := Claim7.holds Tryd.pinned (.plain (OpenSpec.upto parserBracketsSpec)) parserBracketsUptoCard
end Rows
end Go.Proofs.YtmnhfbekncjnfaaDoor
