/-
  DERIVED. GIVEN WITH THE SEED: THE CARDS: each row of YtdkabnfphmmmnaaGreatDoorRows.lean that lists a variable, with what it lists TIED to the program's text (the seventh form; the later family's looks); each row that meets fmt, with fmt's text TOLD by the authors' own Lean function (tested against real Go, not proved from fmt's source: count such statements apart). THE CARD IS WHAT COUNTS. Prove the row's statement (the work); the ties are given (YtdkabnfphmmmnaaGreatDoorTie.lean); close each card by the builder's one call (the guide's Derived/Test/ToyasCard.lean, 'card_holds'). Laid BY PROGRAM, IN A SANDBOX (cutbox-door.mjs). By AI agents, Wed Nov 11 2026. No macro, syntax, notation, axiom, sorry.
-/
import Derived.Test.YtdkabnfphmmmnaaGreatDoorRows
import GoSem.ClaimSeven
namespace Go.Proofs.YtdkabnfphmmmnaaGreatDoor
namespace Rows

/-- THE TIED CARD OF 'keyholelaw14.TypecheckErrors'. -/
def typecheckErrorsCard : Claim7 := { stood := { row := typecheckErrorsRow, standIns := [], harness := (true, "461122a230e7a035448a93eb65286c083ecb1b07fbca927019ddf70bb536b763"), looks := false }, kinds := [], alts := [], laidByText := true, laidKinds := [.data, .data, .data], laidTests := true, laidLooks := .later }
def TypecheckErrorsCardSaid : Prop := Claim7.holds Tryz.pinned (.plain (OpenSpec.ofChange typecheckErrorsSpec)) typecheckErrorsCard

/-- THE TIED CARD OF 'keyholelaw14.TypecheckTypes'. -/
def typecheckTypesCard : Claim7 := { stood := { row := typecheckTypesRow, standIns := [], harness := (true, "461122a230e7a035448a93eb65286c083ecb1b07fbca927019ddf70bb536b763"), looks := false }, kinds := [], alts := [], laidByText := true, laidKinds := [.data, .data, .data], laidTests := true, laidLooks := .later }
def TypecheckTypesCardSaid : Prop := Claim7.holds Tryz.pinned (.plain (OpenSpec.ofChange typecheckTypesSpec)) typecheckTypesCard

/-- THE TIED CARD OF 'keyholelaw14.TypecheckRanges'. -/
def typecheckRangesCard : Claim7 := { stood := { row := typecheckRangesRow, standIns := [], harness := (true, "461122a230e7a035448a93eb65286c083ecb1b07fbca927019ddf70bb536b763"), looks := false }, kinds := [], alts := [], laidByText := true, laidKinds := [.data, .data, .data], laidTests := true, laidLooks := .later }
def TypecheckRangesCardSaid : Prop := Claim7.holds Tryz.pinned (.plain (OpenSpec.ofChange typecheckRangesSpec)) typecheckRangesCard

/-- THE TIED CARD OF 'keyholelaw14.TypecheckSteps'. -/
def typecheckStepsCard : Claim7 := { stood := { row := typecheckStepsRow, standIns := [], harness := (true, "461122a230e7a035448a93eb65286c083ecb1b07fbca927019ddf70bb536b763"), looks := false }, kinds := [], alts := [], laidByText := true, laidKinds := [.data, .data, .data], laidTests := true, laidLooks := .later }
def TypecheckStepsCardSaid : Prop := Claim7.holds Tryz.pinned (.plain (OpenSpec.ofChange typecheckStepsSpec)) typecheckStepsCard

/-- THE TIED CARD OF 'keyholelaw14.TypecheckNames'. -/
def typecheckNamesCard : Claim7 := { stood := { row := typecheckNamesRow, standIns := [], harness := (true, "461122a230e7a035448a93eb65286c083ecb1b07fbca927019ddf70bb536b763"), looks := false }, kinds := [], alts := [], laidByText := true, laidKinds := [.data, .data, .data], laidTests := true, laidLooks := .later }
def TypecheckNamesCardSaid : Prop := Claim7.holds Tryz.pinned (.plain (OpenSpec.ofChange typecheckNamesSpec)) typecheckNamesCard

/-- THE TIED CARD OF 'keyholelaw14.TypecheckWait'. -/
def typecheckWaitCard : Claim7 := { stood := { row := typecheckWaitRow, standIns := [], harness := (true, "461122a230e7a035448a93eb65286c083ecb1b07fbca927019ddf70bb536b763"), looks := false }, kinds := [], alts := [], laidByText := true, laidKinds := [.data, .data, .data], laidTests := true, laidLooks := .later }
def TypecheckWaitCardSaid : Prop := Claim7.holds Tryz.pinned (.plain (OpenSpec.ofChange typecheckWaitSpec)) typecheckWaitCard

/-- THE TIED CARD OF 'keyholelaw14.TypecheckWider'. -/
def typecheckWiderCard : Claim7 := { stood := { row := typecheckWiderRow, standIns := [], harness := (true, "461122a230e7a035448a93eb65286c083ecb1b07fbca927019ddf70bb536b763"), looks := false }, kinds := [], alts := [], laidByText := true, laidKinds := [.data, .data, .data], laidTests := true, laidLooks := .later }
def TypecheckWiderCardSaid : Prop := Claim7.holds Tryz.pinned (.plain (OpenSpec.ofChange typecheckWiderSpec)) typecheckWiderCard

/-- THE TIED CARD OF 'keyholelaw14.TypecheckAgain'. -/
def typecheckAgainCard : Claim7 := { stood := { row := typecheckAgainRow, standIns := [], harness := (true, "461122a230e7a035448a93eb65286c083ecb1b07fbca927019ddf70bb536b763"), looks := false }, kinds := [], alts := [], laidByText := true, laidKinds := [.data, .data, .data], laidTests := true, laidLooks := .later }
def TypecheckAgainCardSaid : Prop := Claim7.holds Tryz.pinned (.plain (OpenSpec.ofChange typecheckAgainSpec)) typecheckAgainCard

/-- THE SECOND FORM's CARD OF 'keyholelaw14.TypecheckErrors'. -/
def typecheckErrorsUptoCard : Claim7 := { stood := { row := typecheckErrorsUptoRow, standIns := [], harness := (true, "461122a230e7a035448a93eb65286c083ecb1b07fbca927019ddf70bb536b763"), looks := false }, kinds := [], alts := [], laidByText := true, laidKinds := [.data, .data, .data], laidTests := true, laidLooks := .later }
def TypecheckErrorsUptoCardSaid : Prop := Claim7.holds Tryz.pinned (.plain (OpenSpec.upto typecheckErrorsSpec)) typecheckErrorsUptoCard

/-- THE SECOND FORM's CARD OF 'keyholelaw14.TypecheckTypes'. -/
def typecheckTypesUptoCard : Claim7 := { stood := { row := typecheckTypesUptoRow, standIns := [], harness := (true, "461122a230e7a035448a93eb65286c083ecb1b07fbca927019ddf70bb536b763"), looks := false }, kinds := [], alts := [], laidByText := true, laidKinds := [.data, .data, .data], laidTests := true, laidLooks := .later }
def TypecheckTypesUptoCardSaid : Prop := Claim7.holds Tryz.pinned (.plain (OpenSpec.upto typecheckTypesSpec)) typecheckTypesUptoCard

/-- THE SECOND FORM's CARD OF 'keyholelaw14.TypecheckRanges'. -/
def typecheckRangesUptoCard : Claim7 := { stood := { row := typecheckRangesUptoRow, standIns := [], harness := (true, "461122a230e7a035448a93eb65286c083ecb1b07fbca927019ddf70bb536b763"), looks := false }, kinds := [], alts := [], laidByText := true, laidKinds := [.data, .data, .data], laidTests := true, laidLooks := .later }
def TypecheckRangesUptoCardSaid : Prop := Claim7.holds Tryz.pinned (.plain (OpenSpec.upto typecheckRangesSpec)) typecheckRangesUptoCard

/-- THE SECOND FORM's CARD OF 'keyholelaw14.TypecheckSteps'. -/
def typecheckStepsUptoCard : Claim7 := { stood := { row := typecheckStepsUptoRow, standIns := [], harness := (true, "461122a230e7a035448a93eb65286c083ecb1b07fbca927019ddf70bb536b763"), looks := false }, kinds := [], alts := [], laidByText := true, laidKinds := [.data, .data, .data], laidTests := true, laidLooks := .later }
def TypecheckStepsUptoCardSaid : Prop := Claim7.holds Tryz.pinned (.plain (OpenSpec.upto typecheckStepsSpec)) typecheckStepsUptoCard

/-- THE SECOND FORM's CARD OF 'keyholelaw14.TypecheckNames'. -/
def typecheckNamesUptoCard : Claim7 := { stood := { row := typecheckNamesUptoRow, standIns := [], harness := (true, "461122a230e7a035448a93eb65286c083ecb1b07fbca927019ddf70bb536b763"), looks := false }, kinds := [], alts := [], laidByText := true, laidKinds := [.data, .data, .data], laidTests := true, laidLooks := .later }
def TypecheckNamesUptoCardSaid : Prop := Claim7.holds Tryz.pinned (.plain (OpenSpec.upto typecheckNamesSpec)) typecheckNamesUptoCard

/-- THE SECOND FORM's CARD OF 'keyholelaw14.TypecheckWait'. -/
def typecheckWaitUptoCard : Claim7 := { stood := { row := typecheckWaitUptoRow, standIns := [], harness := (true, "461122a230e7a035448a93eb65286c083ecb1b07fbca927019ddf70bb536b763"), looks := false }, kinds := [], alts := [], laidByText := true, laidKinds := [.data, .data, .data], laidTests := true, laidLooks := .later }
def TypecheckWaitUptoCardSaid : Prop := Claim7.holds Tryz.pinned (.plain (OpenSpec.upto typecheckWaitSpec)) typecheckWaitUptoCard

/-- THE SECOND FORM's CARD OF 'keyholelaw14.TypecheckWider'. -/
def typecheckWiderUptoCard : Claim7 := { stood := { row := typecheckWiderUptoRow, standIns := [], harness := (true, "461122a230e7a035448a93eb65286c083ecb1b07fbca927019ddf70bb536b763"), looks := false }, kinds := [], alts := [], laidByText := true, laidKinds := [.data, .data, .data], laidTests := true, laidLooks := .later }
def TypecheckWiderUptoCardSaid : Prop := Claim7.holds Tryz.pinned (.plain (OpenSpec.upto typecheckWiderSpec)) typecheckWiderUptoCard

/-- THE SECOND FORM's CARD OF 'keyholelaw14.TypecheckAgain'. -/
def typecheckAgainUptoCard : Claim7 := { stood := { row := typecheckAgainUptoRow, standIns := [], harness := (true, "461122a230e7a035448a93eb65286c083ecb1b07fbca927019ddf70bb536b763"), looks := false }, kinds := [], alts := [], laidByText := true, laidKinds := [.data, .data, .data], laidTests := true, laidLooks := .later }
def TypecheckAgainUptoCardSaid : Prop := Claim7.holds Tryz.pinned (.plain (OpenSpec.upto typecheckAgainSpec)) typecheckAgainUptoCard
end Rows
end Go.Proofs.YtdkabnfphmmmnaaGreatDoor
