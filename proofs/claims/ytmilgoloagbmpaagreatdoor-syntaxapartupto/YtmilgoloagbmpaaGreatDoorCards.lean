/-
  DERIVED. GIVEN WITH THE SEED: THE CARDS: each row of YtmilgoloagbmpaaGreatDoorRows.lean that lists a variable, with what it lists TIED to the program's text (the seventh form; the later family's looks); each row that meets fmt, with fmt's text TOLD by the authors' own Lean function (tested against real Go, not proved from fmt's source: count such statements apart). THE CARD IS WHAT COUNTS. Prove the row's statement (the work); the ties are given (YtmilgoloagbmpaaGreatDoorTie.lean); close each card by the builder's one call (the guide's Derived/Test/ToyasCard.lean, 'card_holds'). Laid BY PROGRAM, IN A SANDBOX (cutbox-door.mjs). By AI agents, Wed Nov 11 2026. No macro, syntax, notation, axiom, sorry.
-/
import Derived.Test.YtmilgoloagbmpaaGreatDoorRows
import GoSem.ClaimSeven
namespace Go.Proofs.YtmilgoloagbmpaaGreatDoor
namespace Rows

/-- THE TIED CARD OF 'keyholelaw10.SyntaxCheck'. -/
def syntaxCheckCard : Claim7 := { stood := { row := syntaxCheckRow, standIns := [], harness := (true, "18714ecc00370cf2b447dbe3db16ceda0aad0014ea02c9e3b7f09cf45eb0301a"), looks := false }, kinds := [], alts := [], laidByText := true, laidKinds := [.data, .data, .data, .data], laidTests := true, laidLooks := .later }
def SyntaxCheckCardSaid : Prop := Claim7.holds Tryz.pinned (.plain (OpenSpec.ofChange syntaxCheckSpec)) syntaxCheckCard

/-- THE TIED CARD OF 'keyholelaw10.SyntaxExpr'. -/
def syntaxExprCard : Claim7 := { stood := { row := syntaxExprRow, standIns := [], harness := (true, "18714ecc00370cf2b447dbe3db16ceda0aad0014ea02c9e3b7f09cf45eb0301a"), looks := false }, kinds := [], alts := [], laidByText := true, laidKinds := [.data, .data, .data, .data], laidTests := true, laidLooks := .later }
def SyntaxExprCardSaid : Prop := Claim7.holds Tryz.pinned (.plain (OpenSpec.ofChange syntaxExprSpec)) syntaxExprCard

/-- THE TIED CARD OF 'keyholelaw10.SyntaxPrint'. -/
def syntaxPrintCard : Claim7 := { stood := { row := syntaxPrintRow, standIns := [], harness := (true, "18714ecc00370cf2b447dbe3db16ceda0aad0014ea02c9e3b7f09cf45eb0301a"), looks := false }, kinds := [], alts := [], laidByText := true, laidKinds := [.data, .data, .data, .data], laidTests := true, laidLooks := .later }
def SyntaxPrintCardSaid : Prop := Claim7.holds Tryz.pinned (.plain (OpenSpec.ofChange syntaxPrintSpec)) syntaxPrintCard

/-- THE TIED CARD OF 'keyholelaw10.SyntaxApart'. -/
def syntaxApartCard : Claim7 := { stood := { row := syntaxApartRow, standIns := [], harness := (true, "18714ecc00370cf2b447dbe3db16ceda0aad0014ea02c9e3b7f09cf45eb0301a"), looks := false }, kinds := [], alts := [], laidByText := true, laidKinds := [.data, .data, .data, .data], laidTests := true, laidLooks := .later }
def SyntaxApartCardSaid : Prop := Claim7.holds Tryz.pinned (.plain (OpenSpec.ofChange syntaxApartSpec)) syntaxApartCard

/-- THE TIED CARD OF 'keyholelaw10.SyntaxType'. -/
def syntaxTypeCard : Claim7 := { stood := { row := syntaxTypeRow, standIns := [], harness := (true, "18714ecc00370cf2b447dbe3db16ceda0aad0014ea02c9e3b7f09cf45eb0301a"), looks := false }, kinds := [], alts := [], laidByText := true, laidKinds := [.data, .data, .data, .data], laidTests := true, laidLooks := .later }
def SyntaxTypeCardSaid : Prop := Claim7.holds Tryz.pinned (.plain (OpenSpec.ofChange syntaxTypeSpec)) syntaxTypeCard

/-- THE TIED CARD OF 'keyholelaw10.SyntaxNames'. -/
def syntaxNamesCard : Claim7 := { stood := { row := syntaxNamesRow, standIns := [], harness := (true, "18714ecc00370cf2b447dbe3db16ceda0aad0014ea02c9e3b7f09cf45eb0301a"), looks := false }, kinds := [], alts := [], laidByText := true, laidKinds := [.data, .data, .data, .data], laidTests := true, laidLooks := .later }
def SyntaxNamesCardSaid : Prop := Claim7.holds Tryz.pinned (.plain (OpenSpec.ofChange syntaxNamesSpec)) syntaxNamesCard

/-- THE TIED CARD OF 'keyholelaw10.SyntaxRename'. -/
def syntaxRenameCard : Claim7 := { stood := { row := syntaxRenameRow, standIns := [], harness := (true, "18714ecc00370cf2b447dbe3db16ceda0aad0014ea02c9e3b7f09cf45eb0301a"), looks := false }, kinds := [], alts := [], laidByText := true, laidKinds := [.data, .data, .data, .data], laidTests := true, laidLooks := .later }
def SyntaxRenameCardSaid : Prop := Claim7.holds Tryz.pinned (.plain (OpenSpec.ofChange syntaxRenameSpec)) syntaxRenameCard

/-- THE SECOND FORM's CARD OF 'keyholelaw10.SyntaxCheck'. -/
def syntaxCheckUptoCard : Claim7 := { stood := { row := syntaxCheckUptoRow, standIns := [], harness := (true, "18714ecc00370cf2b447dbe3db16ceda0aad0014ea02c9e3b7f09cf45eb0301a"), looks := false }, kinds := [], alts := [], laidByText := true, laidKinds := [.data, .data, .data, .data], laidTests := true, laidLooks := .later }
def SyntaxCheckUptoCardSaid : Prop := Claim7.holds Tryz.pinned (.plain (OpenSpec.upto syntaxCheckSpec)) syntaxCheckUptoCard

/-- THE SECOND FORM's CARD OF 'keyholelaw10.SyntaxExpr'. -/
def syntaxExprUptoCard : Claim7 := { stood := { row := syntaxExprUptoRow, standIns := [], harness := (true, "18714ecc00370cf2b447dbe3db16ceda0aad0014ea02c9e3b7f09cf45eb0301a"), looks := false }, kinds := [], alts := [], laidByText := true, laidKinds := [.data, .data, .data, .data], laidTests := true, laidLooks := .later }
def SyntaxExprUptoCardSaid : Prop := Claim7.holds Tryz.pinned (.plain (OpenSpec.upto syntaxExprSpec)) syntaxExprUptoCard

/-- THE SECOND FORM's CARD OF 'keyholelaw10.SyntaxPrint'. -/
def syntaxPrintUptoCard : Claim7 := { stood := { row := syntaxPrintUptoRow, standIns := [], harness := (true, "18714ecc00370cf2b447dbe3db16ceda0aad0014ea02c9e3b7f09cf45eb0301a"), looks := false }, kinds := [], alts := [], laidByText := true, laidKinds := [.data, .data, .data, .data], laidTests := true, laidLooks := .later }
def SyntaxPrintUptoCardSaid : Prop := Claim7.holds Tryz.pinned (.plain (OpenSpec.upto syntaxPrintSpec)) syntaxPrintUptoCard

/-- THE SECOND FORM's CARD OF 'keyholelaw10.SyntaxApart'. -/
def syntaxApartUptoCard : Claim7 := { stood := { row := syntaxApartUptoRow, standIns := [], harness := (true, "18714ecc00370cf2b447dbe3db16ceda0aad0014ea02c9e3b7f09cf45eb0301a"), looks := false }, kinds := [], alts := [], laidByText := true, laidKinds := [.data, .data, .data, .data], laidTests := true, laidLooks := .later }
def SyntaxApartUptoCardSaid : Prop := Claim7.holds Tryz.pinned (.plain (OpenSpec.upto syntaxApartSpec)) syntaxApartUptoCard

/-- THE SECOND FORM's CARD OF 'keyholelaw10.SyntaxType'. -/
def syntaxTypeUptoCard : Claim7 := { stood := { row := syntaxTypeUptoRow, standIns := [], harness := (true, "18714ecc00370cf2b447dbe3db16ceda0aad0014ea02c9e3b7f09cf45eb0301a"), looks := false }, kinds := [], alts := [], laidByText := true, laidKinds := [.data, .data, .data, .data], laidTests := true, laidLooks := .later }
def SyntaxTypeUptoCardSaid : Prop := Claim7.holds Tryz.pinned (.plain (OpenSpec.upto syntaxTypeSpec)) syntaxTypeUptoCard

/-- THE SECOND FORM's CARD OF 'keyholelaw10.SyntaxNames'. -/
def syntaxNamesUptoCard : Claim7 := { stood := { row := syntaxNamesUptoRow, standIns := [], harness := (true, "18714ecc00370cf2b447dbe3db16ceda0aad0014ea02c9e3b7f09cf45eb0301a"), looks := false }, kinds := [], alts := [], laidByText := true, laidKinds := [.data, .data, .data, .data], laidTests := true, laidLooks := .later }
def SyntaxNamesUptoCardSaid : Prop := Claim7.holds Tryz.pinned (.plain (OpenSpec.upto syntaxNamesSpec)) syntaxNamesUptoCard

/-- THE SECOND FORM's CARD OF 'keyholelaw10.SyntaxRename'. -/
def syntaxRenameUptoCard : Claim7 := { stood := { row := syntaxRenameUptoRow, standIns := [], harness := (true, "18714ecc00370cf2b447dbe3db16ceda0aad0014ea02c9e3b7f09cf45eb0301a"), looks := false }, kinds := [], alts := [], laidByText := true, laidKinds := [.data, .data, .data, .data], laidTests := true, laidLooks := .later }
def SyntaxRenameUptoCardSaid : Prop := Claim7.holds Tryz.pinned (.plain (OpenSpec.upto syntaxRenameSpec)) syntaxRenameUptoCard
end Rows
end Go.Proofs.YtmilgoloagbmpaaGreatDoor
