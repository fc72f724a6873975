/-
  DERIVED. GIVEN WITH THE SEED: THE CARDS: each row of YtonilfkaecbjnaaDoorRows.lean that lists a variable, with what it lists TIED to the program's text (the seventh form; the later family's looks); each row that meets fmt, with fmt's text TOLD by the authors' own Lean function (tested against real Go, not proved from fmt's source: count such statements apart). THE CARD IS WHAT COUNTS. Prove the row's statement (the work); the ties are given (YtonilfkaecbjnaaDoorTie.lean); close each card by the builder's one call (the guide's Derived/Test/ToyasCard.lean, 'card_holds'). Laid BY PROGRAM, IN A SANDBOX (cutbox-door.mjs). By AI agents, Wed Nov 11 2026. No macro, syntax, notation, axiom, sorry.
-/
import Derived.Test.YtonilfkaecbjnaaDoorRows
import GoSem.ClaimSeven
namespace Go.Proofs.YtonilfkaecbjnaaDoor
namespace Rows

/-- THE TIED CARD OF 'keyholelaw12.TypesExpands'. -/
def typesExpandsCard : Claim7 := { stood := { row := typesExpandsRow, standIns := [], harness := (true, "89ecd22dedf534abd8911b73ee4bb9167603015d1a6c965d06ce2b0fe673eb99"), looks := false }, kinds := [], alts := [], laidByText := true, laidKinds := [.data, .data, .data], laidTests := true, laidLooks := .later }
def TypesExpandsCardSaid : Prop := Claim7.holds Tryd.pinned (.plain (OpenSpec.ofChange typesExpandsSpec)) typesExpandsCard

/-- THE TIED CARD OF 'keyholelaw12.TypesScalars'. -/
def typesScalarsCard : Claim7 := { stood := { row := typesScalarsRow, standIns := [], harness := (true, "89ecd22dedf534abd8911b73ee4bb9167603015d1a6c965d06ce2b0fe673eb99"), looks := false }, kinds := [], alts := [], laidByText := true, laidKinds := [.data, .data, .data], laidTests := true, laidLooks := .later }
def TypesScalarsCardSaid : Prop := Claim7.holds Tryd.pinned (.plain (OpenSpec.ofChange typesScalarsSpec)) typesScalarsCard

/-- THE TIED CARD OF 'keyholelaw12.TypesProducts'. -/
def typesProductsCard : Claim7 := { stood := { row := typesProductsRow, standIns := [], harness := (true, "89ecd22dedf534abd8911b73ee4bb9167603015d1a6c965d06ce2b0fe673eb99"), looks := false }, kinds := [], alts := [], laidByText := true, laidKinds := [.data, .data, .data], laidTests := true, laidLooks := .later }
def TypesProductsCardSaid : Prop := Claim7.holds Tryd.pinned (.plain (OpenSpec.ofChange typesProductsSpec)) typesProductsCard

/-- THE TIED CARD OF 'keyholelaw12.TypesClamps'. -/
def typesClampsCard : Claim7 := { stood := { row := typesClampsRow, standIns := [], harness := (true, "89ecd22dedf534abd8911b73ee4bb9167603015d1a6c965d06ce2b0fe673eb99"), looks := false }, kinds := [], alts := [], laidByText := true, laidKinds := [.data, .data, .data], laidTests := true, laidLooks := .later }
def TypesClampsCardSaid : Prop := Claim7.holds Tryd.pinned (.plain (OpenSpec.ofChange typesClampsSpec)) typesClampsCard

/-- THE TIED CARD OF 'keyholelaw12.TypesChecks'. -/
def typesChecksCard : Claim7 := { stood := { row := typesChecksRow, standIns := [], harness := (true, "89ecd22dedf534abd8911b73ee4bb9167603015d1a6c965d06ce2b0fe673eb99"), looks := false }, kinds := [], alts := [], laidByText := true, laidKinds := [.data, .data, .data], laidTests := true, laidLooks := .later }
def TypesChecksCardSaid : Prop := Claim7.holds Tryd.pinned (.plain (OpenSpec.ofChange typesChecksSpec)) typesChecksCard

/-- THE TIED CARD OF 'keyholelaw12.TypesExpanded'. -/
def typesExpandedCard : Claim7 := { stood := { row := typesExpandedRow, standIns := [], harness := (true, "89ecd22dedf534abd8911b73ee4bb9167603015d1a6c965d06ce2b0fe673eb99"), looks := false }, kinds := [], alts := [], laidByText := true, laidKinds := [.data, .data, .data], laidTests := true, laidLooks := .later }
def TypesExpandedCardSaid : Prop := Claim7.holds Tryd.pinned (.plain (OpenSpec.ofChange typesExpandedSpec)) typesExpandedCard

/-- THE TIED CARD OF 'keyholelaw12.TypesFinds'. -/
def typesFindsCard : Claim7 := { stood := { row := typesFindsRow, standIns := [], harness := (true, "89ecd22dedf534abd8911b73ee4bb9167603015d1a6c965d06ce2b0fe673eb99"), looks := false }, kinds := [], alts := [], laidByText := true, laidKinds := [.data, .data, .data], laidTests := true, laidLooks := .later }
def TypesFindsCardSaid : Prop := Claim7.holds Tryd.pinned (.plain (OpenSpec.ofChange typesFindsSpec)) typesFindsCard

/-- THE TIED CARD OF 'keyholelaw12.TypesParts'. -/
def typesPartsCard : Claim7 := { stood := { row := typesPartsRow, standIns := [], harness := (true, "89ecd22dedf534abd8911b73ee4bb9167603015d1a6c965d06ce2b0fe673eb99"), looks := false }, kinds := [], alts := [], laidByText := true, laidKinds := [.data, .data, .data], laidTests := true, laidLooks := .later }
def TypesPartsCardSaid : Prop := Claim7.holds Tryd.pinned (.plain (OpenSpec.ofChange typesPartsSpec)) typesPartsCard

/-- THE TIED CARD OF 'keyholelaw10.SyntaxMentions'. -/
def syntaxMentionsCard : Claim7 := { stood := { row := syntaxMentionsRow, standIns := [], harness := (true, "89ecd22dedf534abd8911b73ee4bb9167603015d1a6c965d06ce2b0fe673eb99"), looks := false }, kinds := [], alts := [], laidByText := true, laidKinds := [.data, .data, .data, .data], laidTests := true, laidLooks := .later }
def SyntaxMentionsCardSaid : Prop := Claim7.holds Tryd.pinned (.plain (OpenSpec.ofChange syntaxMentionsSpec)) syntaxMentionsCard

/-- THE TIED CARD OF 'keyholelaw10.SyntaxEqual'. -/
def syntaxEqualCard : Claim7 := { stood := { row := syntaxEqualRow, standIns := [], harness := (true, "89ecd22dedf534abd8911b73ee4bb9167603015d1a6c965d06ce2b0fe673eb99"), looks := false }, kinds := [], alts := [], laidByText := true, laidKinds := [.data, .data, .data, .data], laidTests := true, laidLooks := .later }
def SyntaxEqualCardSaid : Prop := Claim7.holds Tryd.pinned (.plain (OpenSpec.ofChange syntaxEqualSpec)) syntaxEqualCard

/-- THE SECOND FORM's CARD OF 'keyholelaw12.TypesExpands'. -/
def typesExpandsUptoCard : Claim7 := { stood := { row := typesExpandsUptoRow, standIns := [], harness := (true, "89ecd22dedf534abd8911b73ee4bb9167603015d1a6c965d06ce2b0fe673eb99"), looks := false }, kinds := [], alts := [], laidByText := true, laidKinds := [.data, .data, .data], laidTests := true, laidLooks := .later }
def TypesExpandsUptoCardSaid : Prop := Claim7.holds Tryd.pinned (.plain (OpenSpec.upto typesExpandsSpec)) typesExpandsUptoCard

/-- THE SECOND FORM's CARD OF 'keyholelaw12.TypesScalars'. -/
def typesScalarsUptoCard : Claim7 := { stood := { row := typesScalarsUptoRow, standIns := [], harness := (true, "89ecd22dedf534abd8911b73ee4bb9167603015d1a6c965d06ce2b0fe673eb99"), looks := false }, kinds := [], alts := [], laidByText := true, laidKinds := [.data, .data, .data], laidTests := true, laidLooks := .later }
def TypesScalarsUptoCardSaid : Prop := Claim7.holds Tryd.pinned (.plain (OpenSpec.upto typesScalarsSpec)) typesScalarsUptoCard

/-- THE SECOND FORM's CARD OF 'keyholelaw12.TypesProducts'. -/
def typesProductsUptoCard : Claim7 := { stood := { row := typesProductsUptoRow, standIns := [], harness := (true, "89ecd22dedf534abd8911b73ee4bb9167603015d1a6c965d06ce2b0fe673eb99"), looks := false }, kinds := [], alts := [], laidByText := true, laidKinds := [.data, .data, .data], laidTests := true, laidLooks := .later }
def TypesProductsUptoCardSaid : Prop := Claim7.holds Tryd.pinned (.plain (OpenSpec.upto typesProductsSpec)) typesProductsUptoCard

/-- THE SECOND FORM's CARD OF 'keyholelaw12.TypesClamps'. -/
def typesClampsUptoCard : Claim7 := { stood := { row := typesClampsUptoRow, standIns := [], harness := (true, "89ecd22dedf534abd8911b73ee4bb9167603015d1a6c965d06ce2b0fe673eb99"), looks := false }, kinds := [], alts := [], laidByText := true, laidKinds := [.data, .data, .data], laidTests := true, laidLooks := .later }
def TypesClampsUptoCardSaid : Prop := Claim7.holds Tryd.pinned (.plain (OpenSpec.upto typesClampsSpec)) typesClampsUptoCard

/-- THE SECOND FORM's CARD OF 'keyholelaw12.TypesChecks'. -/
def typesChecksUptoCard : Claim7 := { stood := { row := typesChecksUptoRow, standIns := [], harness := (true, "89ecd22dedf534abd8911b73ee4bb9167603015d1a6c965d06ce2b0fe673eb99"), looks := false }, kinds := [], alts := [], laidByText := true, laidKinds := [.data, .data, .data], laidTests := true, laidLooks := .later }
def TypesChecksUptoCardSaid : Prop := Claim7.holds Tryd.pinned (.plain (OpenSpec.upto typesChecksSpec)) typesChecksUptoCard

/-- THE SECOND FORM's CARD OF 'keyholelaw12.TypesExpanded'. -/
def typesExpandedUptoCard : Claim7 := { stood := { row := typesExpandedUptoRow, standIns := [], harness := (true, "89ecd22dedf534abd8911b73ee4bb9167603015d1a6c965d06ce2b0fe673eb99"), looks := false }, kinds := [], alts := [], laidByText := true, laidKinds := [.data, .data, .data], laidTests := true, laidLooks := .later }
def TypesExpandedUptoCardSaid : Prop := Claim7.holds Tryd.pinned (.plain (OpenSpec.upto typesExpandedSpec)) typesExpandedUptoCard

/-- THE SECOND FORM's CARD OF 'keyholelaw12.TypesFinds'. -/
def typesFindsUptoCard : Claim7 := { stood := { row := typesFindsUptoRow, standIns := [], harness := (true, "89ecd22dedf534abd8911b73ee4bb9167603015d1a6c965d06ce2b0fe673eb99"), looks := false }, kinds := [], alts := [], laidByText := true, laidKinds := [.data, .data, .data], laidTests := true, laidLooks := .later }
def TypesFindsUptoCardSaid : Prop := Claim7.holds Tryd.pinned (.plain (OpenSpec.upto typesFindsSpec)) typesFindsUptoCard

/-- THE SECOND FORM's CARD OF 'keyholelaw12.TypesParts'. -/
def typesPartsUptoCard : Claim7 := { stood := { row := typesPartsUptoRow, standIns := [], harness := (true, "89ecd22dedf534abd8911b73ee4bb9167603015d1a6c965d06ce2b0fe673eb99"), looks := false }, kinds := [], alts := [], laidByText := true, laidKinds := [.data, .data, .data], laidTests := true, laidLooks := .later }
def TypesPartsUptoCardSaid : Prop := Claim7.holds Tryd.pinned (.plain (OpenSpec.upto typesPartsSpec)) typesPartsUptoCard

/-- THE SECOND FORM's CARD OF 'keyholelaw10.SyntaxMentions'. -/
def syntaxMentionsUptoCard : Claim7 := { stood := { row := syntaxMentionsUptoRow, standIns := [], harness := (true, "89ecd22dedf534abd8911b73ee4bb9167603015d1a6c965d06ce2b0fe673eb99"), looks := false }, kinds := [], alts := [], laidByText := true, laidKinds := [.data, .data, .data, .data], laidTests := true, laidLooks := .later }
def SyntaxMentionsUptoCardSaid : Prop := Claim7.holds Tryd.pinned (.plain (OpenSpec.upto syntaxMentionsSpec)) syntaxMentionsUptoCard

/-- THE SECOND FORM's CARD OF 'keyholelaw10.SyntaxEqual'. -/
def syntaxEqualUptoCard : Claim7 := { stood := { row := syntaxEqualUptoRow, standIns := [], harness := (true, "89ecd22dedf534abd8911b73ee4bb9167603015d1a6c965d06ce2b0fe673eb99"), looks := false }, kinds := [], alts := [], laidByText := true, laidKinds := [.data, .data, .data, .data], laidTests := true, laidLooks := .later }
def SyntaxEqualUptoCardSaid : Prop := Claim7.holds Tryd.pinned (.plain (OpenSpec.upto syntaxEqualSpec)) syntaxEqualUptoCard
end Rows
end Go.Proofs.YtonilfkaecbjnaaDoor
