/-
  DERIVED. GIVEN WITH THE SEED: THE CARDS: each row of YtbaijagfgceilaaGreatDoorRows.lean that lists a variable, with what it lists TIED to the program's text (the seventh form; the later family's looks); each row that meets fmt, with fmt's text TOLD by the authors' own Lean function (tested against real Go, not proved from fmt's source: count such statements apart). THE CARD IS WHAT COUNTS. Prove the row's statement (the work); the ties are given (YtbaijagfgceilaaGreatDoorTie.lean); close each card by the builder's one call (the guide's Derived/Test/ToyasCard.lean, 'card_holds'). Laid BY PROGRAM, IN A SANDBOX (cutbox-door.mjs). By AI agents, Wed Nov 11 2026. No macro, syntax, notation, axiom, sorry.
-/
import Derived.Test.YtbaijagfgceilaaGreatDoorRows
import GoSem.ClaimSeven
namespace Go.Proofs.YtbaijagfgceilaaGreatDoor
namespace Rows

/-- THE TIED CARD OF 'keyholelaw55.CatalogMakes'. -/
def catalogMakesCard : Claim7 := { stood := { row := catalogMakesRow, standIns := [], harness := (true, "5c3efafbb4b2e887a6126a24f39c927c3a6948d5124c98c17309fe442e3a4ffc"), looks := true }, kinds := [], alts := [], laidByText := true, laidKinds := [.data, .data, .data, .data, .sentinel, .sentinel, .pinned], laidTests := true, laidLooks := .later }
def CatalogMakesCardSaid : Prop := Claim7.holds Tryz.pinned (.plain (OpenSpec.ofChange catalogMakesSpec)) catalogMakesCard

/-- THE TIED CARD OF 'keyholelaw55.CatalogKnown'. -/
def catalogKnownCard : Claim7 := { stood := { row := catalogKnownRow, standIns := [], harness := (true, "5c3efafbb4b2e887a6126a24f39c927c3a6948d5124c98c17309fe442e3a4ffc"), looks := true }, kinds := [], alts := [], laidByText := true, laidKinds := [.data, .data, .data, .data, .sentinel, .sentinel, .pinned], laidTests := true, laidLooks := .later }
def CatalogKnownCardSaid : Prop := Claim7.holds Tryz.pinned (.plain (OpenSpec.ofChange catalogKnownSpec)) catalogKnownCard

/-- THE TIED CARD OF 'keyholelaw55.CatalogFamilies'. -/
def catalogFamiliesCard : Claim7 := { stood := { row := catalogFamiliesRow, standIns := [], harness := (true, "5c3efafbb4b2e887a6126a24f39c927c3a6948d5124c98c17309fe442e3a4ffc"), looks := true }, kinds := [], alts := [], laidByText := true, laidKinds := [.data, .data, .data, .data, .sentinel, .sentinel, .pinned], laidTests := true, laidLooks := .later }
def CatalogFamiliesCardSaid : Prop := Claim7.holds Tryz.pinned (.plain (OpenSpec.ofChange catalogFamiliesSpec)) catalogFamiliesCard

/-- THE SECOND FORM's CARD OF 'keyholelaw55.CatalogMakes'. -/
def catalogMakesUptoCard : Claim7 := { stood := { row := catalogMakesUptoRow, standIns := [], harness := (true, "5c3efafbb4b2e887a6126a24f39c927c3a6948d5124c98c17309fe442e3a4ffc"), looks := true }, kinds := [], alts := [], laidByText := true, laidKinds := [.data, .data, .data, .data, .sentinel, .sentinel, .pinned], laidTests := true, laidLooks := .later }
def CatalogMakesUptoCardSaid : Prop := Claim7.holds Tryz.pinned (.plain (OpenSpec.upto catalogMakesSpec)) catalogMakesUptoCard

/-- THE SECOND FORM's CARD OF 'keyholelaw55.CatalogKnown'. -/
def catalogKnownUptoCard : Claim7 := { stood := { row := catalogKnownUptoRow, standIns := [], harness := (true, "5c3efafbb4b2e887a6126a24f39c927c3a6948d5124c98c17309fe442e3a4ffc"), looks := true }, kinds := [], alts := [], laidByText := true, laidKinds := [.data, .data, .data, .data, .sentinel, .sentinel, .pinned], laidTests := true, laidLooks := .later }
def CatalogKnownUptoCardSaid : Prop := Claim7.holds Tryz.pinned (.plain (OpenSpec.upto catalogKnownSpec)) catalogKnownUptoCard

/-- THE SECOND FORM's CARD OF 'keyholelaw55.CatalogFamilies'. -/
def catalogFamiliesUptoCard : Claim7 := { stood := { row := catalogFamiliesUptoRow, standIns := [], harness := (true, "5c3efafbb4b2e887a6126a24f39c927c3a6948d5124c98c17309fe442e3a4ffc"), looks := true }, kinds := [], alts := [], laidByText := true, laidKinds := [.data, .data, .data, .data, .sentinel, .sentinel, .pinned], laidTests := true, laidLooks := .later }
def CatalogFamiliesUptoCardSaid : Prop := Claim7.holds Tryz.pinned (.plain (OpenSpec.upto catalogFamiliesSpec)) catalogFamiliesUptoCard
end Rows
end Go.Proofs.YtbaijagfgceilaaGreatDoor
