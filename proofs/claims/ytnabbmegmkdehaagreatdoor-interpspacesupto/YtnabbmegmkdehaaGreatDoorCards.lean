/-
  DERIVED. GIVEN WITH THE SEED: THE CARDS: each row of YtnabbmegmkdehaaGreatDoorRows.lean that lists a variable, with what it lists TIED to the program's text (the seventh form; the later family's looks); each row that meets fmt, with fmt's text TOLD by the authors' own Lean function (tested against real Go, not proved from fmt's source: count such statements apart). THE CARD IS WHAT COUNTS. Prove the row's statement (the work); the ties are given (YtnabbmegmkdehaaGreatDoorTie.lean); close each card by the builder's one call (the guide's Derived/Test/ToyasCard.lean, 'card_holds'). Laid BY PROGRAM, IN A SANDBOX (cutbox-door.mjs). By AI agents, Wed Nov 11 2026. No macro, syntax, notation, axiom, sorry.
-/
import Derived.Test.YtnabbmegmkdehaaGreatDoorRows
import GoSem.ClaimSeven
namespace Go.Proofs.YtnabbmegmkdehaaGreatDoor
namespace Rows

/-- THE TIED CARD OF 'keyholelaw16.InterpRuns'. -/
def interpRunsCard : Claim7 := { stood := { row := interpRunsRow, standIns := [], harness := (true, "8674c2e3f33599f862bef2f3c1bfeea8c321c0a1535150446e5f5b4ab64269bb"), looks := true }, kinds := [], alts := [], laidByText := true, laidKinds := [.data, .data, .data], laidTests := true, laidLooks := .later }
def InterpRunsCardSaid : Prop := Claim7.holds Tryz.pinned (.plain (OpenSpec.ofChange interpRunsSpec)) interpRunsCard

/-- THE TIED CARD OF 'keyholelaw16.InterpSpaces'. -/
def interpSpacesCard : Claim7 := { stood := { row := interpSpacesRow, standIns := [], harness := (true, "8674c2e3f33599f862bef2f3c1bfeea8c321c0a1535150446e5f5b4ab64269bb"), looks := true }, kinds := [], alts := [], laidByText := true, laidKinds := [.data, .data, .data], laidTests := true, laidLooks := .later }
def InterpSpacesCardSaid : Prop := Claim7.holds Tryz.pinned (.plain (OpenSpec.ofChange interpSpacesSpec)) interpSpacesCard

/-- THE TIED CARD OF 'keyholelaw16.InterpBounds'. -/
def interpBoundsCard : Claim7 := { stood := { row := interpBoundsRow, standIns := [], harness := (true, "8674c2e3f33599f862bef2f3c1bfeea8c321c0a1535150446e5f5b4ab64269bb"), looks := true }, kinds := [], alts := [], laidByText := true, laidKinds := [.data, .data, .data], laidTests := true, laidLooks := .later }
def InterpBoundsCardSaid : Prop := Claim7.holds Tryz.pinned (.plain (OpenSpec.ofChange interpBoundsSpec)) interpBoundsCard

/-- THE TIED CARD OF 'keyholelaw16.InterpUntimed'. -/
def interpUntimedCard : Claim7 := { stood := { row := interpUntimedRow, standIns := [], harness := (true, "8674c2e3f33599f862bef2f3c1bfeea8c321c0a1535150446e5f5b4ab64269bb"), looks := true }, kinds := [], alts := [], laidByText := true, laidKinds := [.data, .data, .data], laidTests := true, laidLooks := .later }
def InterpUntimedCardSaid : Prop := Claim7.holds Tryz.pinned (.plain (OpenSpec.ofChange interpUntimedSpec)) interpUntimedCard

/-- THE TIED CARD OF 'keyholelaw16.InterpAdditive'. -/
def interpAdditiveCard : Claim7 := { stood := { row := interpAdditiveRow, standIns := [], harness := (true, "8674c2e3f33599f862bef2f3c1bfeea8c321c0a1535150446e5f5b4ab64269bb"), looks := true }, kinds := [], alts := [], laidByText := true, laidKinds := [.data, .data, .data], laidTests := true, laidLooks := .later }
def InterpAdditiveCardSaid : Prop := Claim7.holds Tryz.pinned (.plain (OpenSpec.ofChange interpAdditiveSpec)) interpAdditiveCard

/-- THE TIED CARD OF 'keyholelaw16.InterpRenames'. -/
def interpRenamesCard : Claim7 := { stood := { row := interpRenamesRow, standIns := [], harness := (true, "8674c2e3f33599f862bef2f3c1bfeea8c321c0a1535150446e5f5b4ab64269bb"), looks := true }, kinds := [], alts := [], laidByText := true, laidKinds := [.data, .data, .data], laidTests := true, laidLooks := .later }
def InterpRenamesCardSaid : Prop := Claim7.holds Tryz.pinned (.plain (OpenSpec.ofChange interpRenamesSpec)) interpRenamesCard

/-- THE TIED CARD OF 'keyholelaw16.InterpHatches'. -/
def interpHatchesCard : Claim7 := { stood := { row := interpHatchesRow, standIns := [], harness := (true, "8674c2e3f33599f862bef2f3c1bfeea8c321c0a1535150446e5f5b4ab64269bb"), looks := true }, kinds := [], alts := [], laidByText := true, laidKinds := [.data, .data, .data], laidTests := true, laidLooks := .later }
def InterpHatchesCardSaid : Prop := Claim7.holds Tryz.pinned (.plain (OpenSpec.ofChange interpHatchesSpec)) interpHatchesCard

/-- THE TIED CARD OF 'keyholelaw16.InterpFinals'. -/
def interpFinalsCard : Claim7 := { stood := { row := interpFinalsRow, standIns := [], harness := (true, "8674c2e3f33599f862bef2f3c1bfeea8c321c0a1535150446e5f5b4ab64269bb"), looks := true }, kinds := [], alts := [], laidByText := true, laidKinds := [.data, .data, .data], laidTests := true, laidLooks := .later }
def InterpFinalsCardSaid : Prop := Claim7.holds Tryz.pinned (.plain (OpenSpec.ofChange interpFinalsSpec)) interpFinalsCard

/-- THE SECOND FORM's CARD OF 'keyholelaw16.InterpRuns'. -/
def interpRunsUptoCard : Claim7 := { stood := { row := interpRunsUptoRow, standIns := [], harness := (true, "8674c2e3f33599f862bef2f3c1bfeea8c321c0a1535150446e5f5b4ab64269bb"), looks := true }, kinds := [], alts := [], laidByText := true, laidKinds := [.data, .data, .data], laidTests := true, laidLooks := .later }
def InterpRunsUptoCardSaid : Prop := Claim7.holds Tryz.pinned (.plain (OpenSpec.upto interpRunsSpec)) interpRunsUptoCard

/-- THE SECOND FORM's CARD OF 'keyholelaw16.InterpSpaces'. -/
def interpSpacesUptoCard : Claim7 := { stood := { row := interpSpacesUptoRow, standIns := [], harness := (true, "8674c2e3f33599f862bef2f3c1bfeea8c321c0a1535150446e5f5b4ab64269bb"), looks := true }, kinds := [], alts := [], laidByText := true, laidKinds := [.data, .data, .data], laidTests := true, laidLooks := .later }
def InterpSpacesUptoCardSaid : Prop := Claim7.holds Tryz.pinned (.plain (OpenSpec.upto interpSpacesSpec)) interpSpacesUptoCard

/-- THE SECOND FORM's CARD OF 'keyholelaw16.InterpBounds'. -/
def interpBoundsUptoCard : Claim7 := { stood := { row := interpBoundsUptoRow, standIns := [], harness := (true, "8674c2e3f33599f862bef2f3c1bfeea8c321c0a1535150446e5f5b4ab64269bb"), looks := true }, kinds := [], alts := [], laidByText := true, laidKinds := [.data, .data, .data], laidTests := true, laidLooks := .later }
def InterpBoundsUptoCardSaid : Prop := Claim7.holds Tryz.pinned (.plain (OpenSpec.upto interpBoundsSpec)) interpBoundsUptoCard

/-- THE SECOND FORM's CARD OF 'keyholelaw16.InterpUntimed'. -/
def interpUntimedUptoCard : Claim7 := { stood := { row := interpUntimedUptoRow, standIns := [], harness := (true, "8674c2e3f33599f862bef2f3c1bfeea8c321c0a1535150446e5f5b4ab64269bb"), looks := true }, kinds := [], alts := [], laidByText := true, laidKinds := [.data, .data, .data], laidTests := true, laidLooks := .later }
def InterpUntimedUptoCardSaid : Prop := Claim7.holds Tryz.pinned (.plain (OpenSpec.upto interpUntimedSpec)) interpUntimedUptoCard

/-- THE SECOND FORM's CARD OF 'keyholelaw16.InterpAdditive'. -/
def interpAdditiveUptoCard : Claim7 := { stood := { row := interpAdditiveUptoRow, standIns := [], harness := (true, "8674c2e3f33599f862bef2f3c1bfeea8c321c0a1535150446e5f5b4ab64269bb"), looks := true }, kinds := [], alts := [], laidByText := true, laidKinds := [.data, .data, .data], laidTests := true, laidLooks := .later }
def InterpAdditiveUptoCardSaid : Prop := Claim7.holds Tryz.pinned (.plain (OpenSpec.upto interpAdditiveSpec)) interpAdditiveUptoCard

/-- THE SECOND FORM's CARD OF 'keyholelaw16.InterpRenames'. -/
def interpRenamesUptoCard : Claim7 := { stood := { row := interpRenamesUptoRow, standIns := [], harness := (true, "8674c2e3f33599f862bef2f3c1bfeea8c321c0a1535150446e5f5b4ab64269bb"), looks := true }, kinds := [], alts := [], laidByText := true, laidKinds := [.data, .data, .data], laidTests := true, laidLooks := .later }
def InterpRenamesUptoCardSaid : Prop := Claim7.holds Tryz.pinned (.plain (OpenSpec.upto interpRenamesSpec)) interpRenamesUptoCard

/-- THE SECOND FORM's CARD OF 'keyholelaw16.InterpHatches'. -/
def interpHatchesUptoCard : Claim7 := { stood := { row := interpHatchesUptoRow, standIns := [], harness := (true, "8674c2e3f33599f862bef2f3c1bfeea8c321c0a1535150446e5f5b4ab64269bb"), looks := true }, kinds := [], alts := [], laidByText := true, laidKinds := [.data, .data, .data], laidTests := true, laidLooks := .later }
def InterpHatchesUptoCardSaid : Prop := Claim7.holds Tryz.pinned (.plain (OpenSpec.upto interpHatchesSpec)) interpHatchesUptoCard

/-- THE SECOND FORM's CARD OF 'keyholelaw16.InterpFinals'. -/
def interpFinalsUptoCard : Claim7 := { stood := { row := interpFinalsUptoRow, standIns := [], harness := (true, "8674c2e3f33599f862bef2f3c1bfeea8c321c0a1535150446e5f5b4ab64269bb"), looks := true }, kinds := [], alts := [], laidByText := true, laidKinds := [.data, .data, .data], laidTests := true, laidLooks := .later }
def InterpFinalsUptoCardSaid : Prop := Claim7.holds Tryz.pinned (.plain (OpenSpec.upto interpFinalsSpec)) interpFinalsUptoCard
end Rows
end Go.Proofs.YtnabbmegmkdehaaGreatDoor
