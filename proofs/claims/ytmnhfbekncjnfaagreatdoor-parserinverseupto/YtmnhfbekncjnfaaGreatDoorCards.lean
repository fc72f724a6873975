/-
  DERIVED. GIVEN WITH THE SEED: THE CARDS: each row of YtmnhfbekncjnfaaGreatDoorRows.lean that lists a variable, with what it lists TIED to the program's text (the seventh form; the later family's looks); each row that meets fmt, with fmt's text TOLD by the authors' own Lean function (tested against real Go, not proved from fmt's source: count such statements apart). THE CARD IS WHAT COUNTS. Prove the row's statement (the work); the ties are given (YtmnhfbekncjnfaaGreatDoorTie.lean); close each card by the builder's one call (the guide's Derived/Test/ToyasCard.lean, 'card_holds'). Laid BY PROGRAM, IN A SANDBOX (cutbox-door.mjs). By AI agents, Wed Nov 11 2026. No macro, syntax, notation, axiom, sorry.
-/
import Derived.Test.YtmnhfbekncjnfaaGreatDoorRows
import GoSem.ClaimSeven
namespace Go.Proofs.YtmnhfbekncjnfaaGreatDoor
namespace Rows

/-- THE TIED CARD OF 'keyholelaw11.ParserExprs'. -/
def parserExprsCard : Claim7 := { stood := { row := parserExprsRow, standIns := [], harness := (true, "d0566732bd8bed4f4448b2557246c0dc109b40a0634fe9daca92eed26a583479"), looks := true }, kinds := [], alts := [], laidByText := true, laidKinds := [.data, .data, .data, .sentinel, .sentinel], laidTests := true, laidLooks := .later }
def ParserExprsCardSaid : Prop := Claim7.holds Tryz.pinned (.plain (OpenSpec.ofChange parserExprsSpec)) parserExprsCard

/-- THE TIED CARD OF 'keyholelaw11.ParserTypes'. -/
def parserTypesCard : Claim7 := { stood := { row := parserTypesRow, standIns := [], harness := (true, "d0566732bd8bed4f4448b2557246c0dc109b40a0634fe9daca92eed26a583479"), looks := true }, kinds := [], alts := [], laidByText := true, laidKinds := [.data, .data, .data, .sentinel, .sentinel], laidTests := true, laidLooks := .later }
def ParserTypesCardSaid : Prop := Claim7.holds Tryz.pinned (.plain (OpenSpec.ofChange parserTypesSpec)) parserTypesCard

/-- THE TIED CARD OF 'keyholelaw11.ParserRoundTrips'. -/
def parserRoundTripsCard : Claim7 := { stood := { row := parserRoundTripsRow, standIns := [], harness := (true, "d0566732bd8bed4f4448b2557246c0dc109b40a0634fe9daca92eed26a583479"), looks := true }, kinds := [], alts := [], laidByText := true, laidKinds := [.data, .data, .data, .sentinel, .sentinel], laidTests := true, laidLooks := .later }
def ParserRoundTripsCardSaid : Prop := Claim7.holds Tryz.pinned (.plain (OpenSpec.ofChange parserRoundTripsSpec)) parserRoundTripsCard

/-- THE TIED CARD OF 'keyholelaw11.ParserParses'. -/
def parserParsesCard : Claim7 := { stood := { row := parserParsesRow, standIns := [], harness := (true, "d0566732bd8bed4f4448b2557246c0dc109b40a0634fe9daca92eed26a583479"), looks := true }, kinds := [], alts := [], laidByText := true, laidKinds := [.data, .data, .data, .sentinel, .sentinel], laidTests := true, laidLooks := .later }
def ParserParsesCardSaid : Prop := Claim7.holds Tryz.pinned (.plain (OpenSpec.ofChange parserParsesSpec)) parserParsesCard

/-- THE TIED CARD OF 'keyholelaw11.ParserInverse'. -/
def parserInverseCard : Claim7 := { stood := { row := parserInverseRow, standIns := [], harness := (true, "d0566732bd8bed4f4448b2557246c0dc109b40a0634fe9daca92eed26a583479"), looks := true }, kinds := [], alts := [], laidByText := true, laidKinds := [.data, .data, .data, .sentinel, .sentinel], laidTests := true, laidLooks := .later }
def ParserInverseCardSaid : Prop := Claim7.holds Tryz.pinned (.plain (OpenSpec.ofChange parserInverseSpec)) parserInverseCard

/-- THE TIED CARD OF 'keyholelaw11.ParserLayout'. -/
def parserLayoutCard : Claim7 := { stood := { row := parserLayoutRow, standIns := [], harness := (true, "d0566732bd8bed4f4448b2557246c0dc109b40a0634fe9daca92eed26a583479"), looks := true }, kinds := [], alts := [], laidByText := true, laidKinds := [.data, .data, .data, .sentinel, .sentinel], laidTests := true, laidLooks := .later }
def ParserLayoutCardSaid : Prop := Claim7.holds Tryz.pinned (.plain (OpenSpec.ofChange parserLayoutSpec)) parserLayoutCard

/-- THE TIED CARD OF 'keyholelaw11.ParserFirst'. -/
def parserFirstCard : Claim7 := { stood := { row := parserFirstRow, standIns := [], harness := (true, "d0566732bd8bed4f4448b2557246c0dc109b40a0634fe9daca92eed26a583479"), looks := true }, kinds := [], alts := [], laidByText := true, laidKinds := [.data, .data, .data, .sentinel, .sentinel], laidTests := true, laidLooks := .later }
def ParserFirstCardSaid : Prop := Claim7.holds Tryz.pinned (.plain (OpenSpec.ofChange parserFirstSpec)) parserFirstCard

/-- THE SECOND FORM's CARD OF 'keyholelaw11.ParserExprs'. -/
def parserExprsUptoCard : Claim7 := { stood := { row := parserExprsUptoRow, standIns := [], harness := (true, "d0566732bd8bed4f4448b2557246c0dc109b40a0634fe9daca92eed26a583479"), looks := true }, kinds := [], alts := [], laidByText := true, laidKinds := [.data, .data, .data, .sentinel, .sentinel], laidTests := true, laidLooks := .later }
def ParserExprsUptoCardSaid : Prop := Claim7.holds Tryz.pinned (.plain (OpenSpec.upto parserExprsSpec)) parserExprsUptoCard

/-- THE SECOND FORM's CARD OF 'keyholelaw11.ParserTypes'. -/
def parserTypesUptoCard : Claim7 := { stood := { row := parserTypesUptoRow, standIns := [], harness := (true, "d0566732bd8bed4f4448b2557246c0dc109b40a0634fe9daca92eed26a583479"), looks := true }, kinds := [], alts := [], laidByText := true, laidKinds := [.data, .data, .data, .sentinel, .sentinel], laidTests := true, laidLooks := .later }
def ParserTypesUptoCardSaid : Prop := Claim7.holds Tryz.pinned (.plain (OpenSpec.upto parserTypesSpec)) parserTypesUptoCard

/-- THE SECOND FORM's CARD OF 'keyholelaw11.ParserRoundTrips'. -/
def parserRoundTripsUptoCard : Claim7 := { stood := { row := parserRoundTripsUptoRow, standIns := [], harness := (true, "d0566732bd8bed4f4448b2557246c0dc109b40a0634fe9daca92eed26a583479"), looks := true }, kinds := [], alts := [], laidByText := true, laidKinds := [.data, .data, .data, .sentinel, .sentinel], laidTests := true, laidLooks := .later }
def ParserRoundTripsUptoCardSaid : Prop := Claim7.holds Tryz.pinned (.plain (OpenSpec.upto parserRoundTripsSpec)) parserRoundTripsUptoCard

/-- THE SECOND FORM's CARD OF 'keyholelaw11.ParserParses'. -/
def parserParsesUptoCard : Claim7 := { stood := { row := parserParsesUptoRow, standIns := [], harness := (true, "d0566732bd8bed4f4448b2557246c0dc109b40a0634fe9daca92eed26a583479"), looks := true }, kinds := [], alts := [], laidByText := true, laidKinds := [.data, .data, .data, .sentinel, .sentinel], laidTests := true, laidLooks := .later }
def ParserParsesUptoCardSaid : Prop := Claim7.holds Tryz.pinned (.plain (OpenSpec.upto parserParsesSpec)) parserParsesUptoCard

/-- THE SECOND FORM's CARD OF 'keyholelaw11.ParserInverse'. -/
def parserInverseUptoCard : Claim7 := { stood := { row := parserInverseUptoRow, standIns := [], harness := (true, "d0566732bd8bed4f4448b2557246c0dc109b40a0634fe9daca92eed26a583479"), looks := true }, kinds := [], alts := [], laidByText := true, laidKinds := [.data, .data, .data, .sentinel, .sentinel], laidTests := true, laidLooks := .later }
def ParserInverseUptoCardSaid : Prop := Claim7.holds Tryz.pinned (.plain (OpenSpec.upto parserInverseSpec)) parserInverseUptoCard

/-- THE SECOND FORM's CARD OF 'keyholelaw11.ParserLayout'. -/
def parserLayoutUptoCard : Claim7 := { stood := { row := parserLayoutUptoRow, standIns := [], harness := (true, "d0566732bd8bed4f4448b2557246c0dc109b40a0634fe9daca92eed26a583479"), looks := true }, kinds := [], alts := [], laidByText := true, laidKinds := [.data, .data, .data, .sentinel, .sentinel], laidTests := true, laidLooks := .later }
def ParserLayoutUptoCardSaid : Prop := Claim7.holds Tryz.pinned (.plain (OpenSpec.upto parserLayoutSpec)) parserLayoutUptoCard

/-- THE SECOND FORM's CARD OF 'keyholelaw11.ParserFirst'. -/
def parserFirstUptoCard : Claim7 := { stood := { row := parserFirstUptoRow, standIns := [], harness := (true, "d0566732bd8bed4f4448b2557246c0dc109b40a0634fe9daca92eed26a583479"), looks := true }, kinds := [], alts := [], laidByText := true, laidKinds := [.data, .data, .data, .sentinel, .sentinel], laidTests := true, laidLooks := .later }
def ParserFirstUptoCardSaid : Prop := Claim7.holds Tryz.pinned (.plain (OpenSpec.upto parserFirstSpec)) parserFirstUptoCard
end Rows
end Go.Proofs.YtmnhfbekncjnfaaGreatDoor
