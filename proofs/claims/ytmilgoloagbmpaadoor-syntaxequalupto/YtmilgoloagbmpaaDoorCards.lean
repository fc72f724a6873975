/-
  DERIVED. GIVEN WITH THE SEED: THE CARDS: each row of YtmilgoloagbmpaaDoorRows.lean that lists a variable, with what it lists TIED to the program's text (the seventh form; the later family's looks); each row that meets fmt, with fmt's text TOLD by the authors' own Lean function (tested against real Go, not proved from fmt's source: count such statements apart). THE CARD IS WHAT COUNTS. Prove the row's statement (the work); the ties are given (YtmilgoloagbmpaaDoorTie.lean); close each card by the builder's one call (the guide's Derived/Test/ToyasCard.lean, 'card_holds'). Laid BY PROGRAM, IN A SANDBOX (cutbox-door.mjs). By AI agents, Wed Nov 11 2026. No macro, syntax, notation, axiom, sorry.
-/
import Derived.Test.YtmilgoloagbmpaaDoorRows
import GoSem.ClaimSeven
namespace Go.Proofs.YtmilgoloagbmpaaDoor
namespace Rows

/-- THE TIED CARD OF 'keyholelaw10.SyntaxMentions'. -/
def syntaxMentionsCard : Claim7 := { stood := { row := syntaxMentionsRow, standIns := [], harness := (true, "1a47e9155d2397601d284fefc4465e5bda10c68a2bafecced777df67c27e3017"), looks := false }, kinds := [], alts := [], laidByText := true, laidKinds := [.data, .data, .data, .data], laidTests := true, laidLooks := .later }
def SyntaxMentionsCardSaid : Prop := Claim7.holds Tryd.pinned (.plain (OpenSpec.ofChange syntaxMentionsSpec)) syntaxMentionsCard

/-- THE TIED CARD OF 'keyholelaw10.SyntaxEqual'. -/
def syntaxEqualCard : Claim7 := { stood := { row := syntaxEqualRow, standIns := [], harness := (true, "1a47e9155d2397601d284fefc4465e5bda10c68a2bafecced777df67c27e3017"), looks := false }, kinds := [], alts := [], laidByText := true, laidKinds := [.data, .data, .data, .data], laidTests := true, laidLooks := .later }
def SyntaxEqualCardSaid : Prop := Claim7.holds Tryd.pinned (.plain (OpenSpec.ofChange syntaxEqualSpec)) syntaxEqualCard

/-- THE SECOND FORM's CARD OF 'keyholelaw10.SyntaxMentions'. -/
def syntaxMentionsUptoCard : Claim7 := { stood := { row := syntaxMentionsUptoRow, standIns := [], harness := (true, "1a47e9155d2397601d284fefc4465e5bda10c68a2bafecced777df67c27e3017"), looks := false }, kinds := [], alts := [], laidByText := true, laidKinds := [.data, .data, .data, .data], laidTests := true, laidLooks := .later }
def SyntaxMentionsUptoCardSaid : Prop := Claim7.holds Tryd.pinned (.plain (OpenSpec.upto syntaxMentionsSpec)) syntaxMentionsUptoCard

/-- THE SECOND FORM's CARD OF 'keyholelaw10.SyntaxEqual'. -/
def syntaxEqualUptoCard : Claim7 := { stood := { row := syntaxEqualUptoRow, standIns := [], harness := (true, "1a47e9155d2397601d284fefc4465e5bda10c68a2bafecced777df67c27e3017"), looks := false }, kinds := [], alts := [], laidByText := true, laidKinds := [.data, .data, .data, .data], laidTests := true, laidLooks := .later }
def SyntaxEqualUptoCardSaid : Prop := Claim7.holds Tryd.pinned (.plain (OpenSpec.upto syntaxEqualSpec)) syntaxEqualUptoCard
end Rows
end Go.Proofs.YtmilgoloagbmpaaDoor
