/-
  DERIVED. GIVEN WITH THE SEED: THE CARDS: each row of YtllbbacnakoomaaGreatDoorRows.lean that lists a variable, with what it lists TIED to the program's text (the seventh form; the later family's looks); each row that meets fmt, with fmt's text TOLD by the authors' own Lean function (tested against real Go, not proved from fmt's source: count such statements apart). THE CARD IS WHAT COUNTS. Prove the row's statement (the work); the ties are given (YtllbbacnakoomaaGreatDoorTie.lean); close each card by the builder's one call (the guide's Derived/Test/ToyasCard.lean, 'card_holds'). Laid BY PROGRAM, IN A SANDBOX (cutbox-door.mjs). By AI agents, Wed Nov 11 2026. No macro, syntax, notation, axiom, sorry.
-/
import Derived.Test.YtllbbacnakoomaaGreatDoorRows
import GoSem.ClaimSeven
namespace Go.Proofs.YtllbbacnakoomaaGreatDoor
namespace Rows

/-- THE TIED CARD OF 'oxbowlaw20.ExpressBinds'. -/
def expressBindsCard : Claim7 := { stood := { row := expressBindsRow, standIns := [], harness := (true, "6abe43545066b86bec9e84dc82df264985506e715363bbb6df4da7a8be078729"), looks := false }, kinds := [], alts := [], laidByText := true, laidKinds := [.listed, .data], laidTests := true, laidLooks := .later }
def ExpressBindsCardSaid : Prop := Claim7.holds Tryz.pinned (.plain (OpenSpec.ofChange expressBindsSpec)) expressBindsCard

/-- THE TIED CARD OF 'oxbowlaw20.ExpressDeep'. -/
def expressDeepCard : Claim7 := { stood := { row := expressDeepRow, standIns := [], harness := (true, "6abe43545066b86bec9e84dc82df264985506e715363bbb6df4da7a8be078729"), looks := false }, kinds := [], alts := [], laidByText := true, laidKinds := [.listed, .data], laidTests := true, laidLooks := .later }
def ExpressDeepCardSaid : Prop := Claim7.holds Tryz.pinned (.plain (OpenSpec.ofChange expressDeepSpec)) expressDeepCard

/-- THE TIED CARD OF 'oxbowlaw20.ExpressTypes'. -/
def expressTypesCard : Claim7 := { stood := { row := expressTypesRow, standIns := [], harness := (true, "6abe43545066b86bec9e84dc82df264985506e715363bbb6df4da7a8be078729"), looks := false }, kinds := [], alts := [], laidByText := true, laidKinds := [.listed, .data], laidTests := true, laidLooks := .later }
def ExpressTypesCardSaid : Prop := Claim7.holds Tryz.pinned (.plain (OpenSpec.ofChange expressTypesSpec)) expressTypesCard

/-- THE TIED CARD OF 'oxbowlaw20.ExpressForms'. -/
def expressFormsCard : Claim7 := { stood := { row := expressFormsRow, standIns := [], harness := (true, "6abe43545066b86bec9e84dc82df264985506e715363bbb6df4da7a8be078729"), looks := false }, kinds := [], alts := [], laidByText := true, laidKinds := [.listed, .data], laidTests := true, laidLooks := .later }
def ExpressFormsCardSaid : Prop := Claim7.holds Tryz.pinned (.plain (OpenSpec.ofChange expressFormsSpec)) expressFormsCard

/-- THE TIED CARD OF 'oxbowlaw20.ExpressStarts'. -/
def expressStartsCard : Claim7 := { stood := { row := expressStartsRow, standIns := [], harness := (true, "6abe43545066b86bec9e84dc82df264985506e715363bbb6df4da7a8be078729"), looks := false }, kinds := [], alts := [], laidByText := true, laidKinds := [.listed, .data], laidTests := true, laidLooks := .later }
def ExpressStartsCardSaid : Prop := Claim7.holds Tryz.pinned (.plain (OpenSpec.ofChange expressStartsSpec)) expressStartsCard

/-- THE TIED CARD OF 'oxbowlaw20.ExpressDeclares'. -/
def expressDeclaresCard : Claim7 := { stood := { row := expressDeclaresRow, standIns := [], harness := (true, "6abe43545066b86bec9e84dc82df264985506e715363bbb6df4da7a8be078729"), looks := false }, kinds := [], alts := [], laidByText := true, laidKinds := [.listed, .data], laidTests := true, laidLooks := .later }
def ExpressDeclaresCardSaid : Prop := Claim7.holds Tryz.pinned (.plain (OpenSpec.ofChange expressDeclaresSpec)) expressDeclaresCard

/-- THE TIED CARD OF 'oxbowlaw21.DeclareElse'. -/
def declareElseCard : Claim7 := { stood := { row := declareElseRow, standIns := [], harness := (true, "6abe43545066b86bec9e84dc82df264985506e715363bbb6df4da7a8be078729"), looks := false }, kinds := [], alts := [], laidByText := true, laidKinds := [.listed, .data], laidTests := true, laidLooks := .later }
def DeclareElseCardSaid : Prop := Claim7.holds Tryz.pinned (.plain (OpenSpec.ofChange declareElseSpec)) declareElseCard

/-- THE TIED CARD OF 'oxbowlaw21.DeclareForms'. -/
def declareFormsCard : Claim7 := { stood := { row := declareFormsRow, standIns := [], harness := (true, "6abe43545066b86bec9e84dc82df264985506e715363bbb6df4da7a8be078729"), looks := false }, kinds := [], alts := [], laidByText := true, laidKinds := [.listed, .data], laidTests := true, laidLooks := .later }
def DeclareFormsCardSaid : Prop := Claim7.holds Tryz.pinned (.plain (OpenSpec.ofChange declareFormsSpec)) declareFormsCard

/-- THE TIED CARD OF 'oxbowlaw21.DeclareScopes'. -/
def declareScopesCard : Claim7 := { stood := { row := declareScopesRow, standIns := [], harness := (true, "6abe43545066b86bec9e84dc82df264985506e715363bbb6df4da7a8be078729"), looks := false }, kinds := [], alts := [], laidByText := true, laidKinds := [.listed, .data], laidTests := true, laidLooks := .later }
def DeclareScopesCardSaid : Prop := Claim7.holds Tryz.pinned (.plain (OpenSpec.ofChange declareScopesSpec)) declareScopesCard

/-- THE TIED CARD OF 'oxbowlaw21.DeclareNames'. -/
def declareNamesCard : Claim7 := { stood := { row := declareNamesRow, standIns := [], harness := (true, "6abe43545066b86bec9e84dc82df264985506e715363bbb6df4da7a8be078729"), looks := false }, kinds := [], alts := [], laidByText := true, laidKinds := [.listed, .data], laidTests := true, laidLooks := .later }
def DeclareNamesCardSaid : Prop := Claim7.holds Tryz.pinned (.plain (OpenSpec.ofChange declareNamesSpec)) declareNamesCard

/-- THE TIED CARD OF 'oxbowlaw21.DeclareOdd'. -/
def declareOddCard : Claim7 := { stood := { row := declareOddRow, standIns := [], harness := (true, "6abe43545066b86bec9e84dc82df264985506e715363bbb6df4da7a8be078729"), looks := false }, kinds := [], alts := [], laidByText := true, laidKinds := [.listed, .data], laidTests := true, laidLooks := .later }
def DeclareOddCardSaid : Prop := Claim7.holds Tryz.pinned (.plain (OpenSpec.ofChange declareOddSpec)) declareOddCard

/-- THE TIED CARD OF 'oxbowlaw22.UnitCovers'. -/
def unitCoversCard : Claim7 := { stood := { row := unitCoversRow, standIns := [], harness := (true, "6abe43545066b86bec9e84dc82df264985506e715363bbb6df4da7a8be078729"), looks := false }, kinds := [], alts := [], laidByText := true, laidKinds := [.listed, .data], laidTests := true, laidLooks := .later }
def UnitCoversCardSaid : Prop := Claim7.holds Tryz.pinned (.plain (OpenSpec.ofChange unitCoversSpec)) unitCoversCard

/-- THE TIED CARD OF 'oxbowlaw22.UnitErrors'. -/
def unitErrorsCard : Claim7 := { stood := { row := unitErrorsRow, standIns := [], harness := (true, "6abe43545066b86bec9e84dc82df264985506e715363bbb6df4da7a8be078729"), looks := false }, kinds := [], alts := [], laidByText := true, laidKinds := [.listed, .data], laidTests := true, laidLooks := .later }
def UnitErrorsCardSaid : Prop := Claim7.holds Tryz.pinned (.plain (OpenSpec.ofChange unitErrorsSpec)) unitErrorsCard

/-- THE TIED CARD OF 'oxbowlaw22.UnitFunctions'. -/
def unitFunctionsCard : Claim7 := { stood := { row := unitFunctionsRow, standIns := [], harness := (true, "6abe43545066b86bec9e84dc82df264985506e715363bbb6df4da7a8be078729"), looks := false }, kinds := [], alts := [], laidByText := true, laidKinds := [.listed, .data], laidTests := true, laidLooks := .later }
def UnitFunctionsCardSaid : Prop := Claim7.holds Tryz.pinned (.plain (OpenSpec.ofChange unitFunctionsSpec)) unitFunctionsCard

/-- THE TIED CARD OF 'oxbowlaw22.UnitAlone'. -/
def unitAloneCard : Claim7 := { stood := { row := unitAloneRow, standIns := [], harness := (true, "6abe43545066b86bec9e84dc82df264985506e715363bbb6df4da7a8be078729"), looks := false }, kinds := [], alts := [], laidByText := true, laidKinds := [.listed, .data], laidTests := true, laidLooks := .later }
def UnitAloneCardSaid : Prop := Claim7.holds Tryz.pinned (.plain (OpenSpec.ofChange unitAloneSpec)) unitAloneCard

/-- THE SECOND FORM's CARD OF 'oxbowlaw20.ExpressBinds'. -/
def expressBindsUptoCard : Claim7 := { stood := { row := expressBindsUptoRow, standIns := [], harness := (true, "6abe43545066b86bec9e84dc82df264985506e715363bbb6df4da7a8be078729"), looks := false }, kinds := [], alts := [], laidByText := true, laidKinds := [.listed, .data], laidTests := true, laidLooks := .later }
def ExpressBindsUptoCardSaid : Prop := Claim7.holds Tryz.pinned (.plain (OpenSpec.upto expressBindsSpec)) expressBindsUptoCard

/-- THE SECOND FORM's CARD OF 'oxbowlaw20.ExpressDeep'. -/
def expressDeepUptoCard : Claim7 := { stood := { row := expressDeepUptoRow, standIns := [], harness := (true, "6abe43545066b86bec9e84dc82df264985506e715363bbb6df4da7a8be078729"), looks := false }, kinds := [], alts := [], laidByText := true, laidKinds := [.listed, .data], laidTests := true, laidLooks := .later }
def ExpressDeepUptoCardSaid : Prop := Claim7.holds Tryz.pinned (.plain (OpenSpec.upto expressDeepSpec)) expressDeepUptoCard

/-- THE SECOND FORM's CARD OF 'oxbowlaw20.ExpressTypes'. -/
def expressTypesUptoCard : Claim7 := { stood := { row := expressTypesUptoRow, standIns := [], harness := (true, "6abe43545066b86bec9e84dc82df264985506e715363bbb6df4da7a8be078729"), looks := false }, kinds := [], alts := [], laidByText := true, laidKinds := [.listed, .data], laidTests := true, laidLooks := .later }
def ExpressTypesUptoCardSaid : Prop := Claim7.holds Tryz.pinned (.plain (OpenSpec.upto expressTypesSpec)) expressTypesUptoCard

/-- THE SECOND FORM's CARD OF 'oxbowlaw20.ExpressForms'. -/
def expressFormsUptoCard : Claim7 := { stood := { row := expressFormsUptoRow, standIns := [], harness := (true, "6abe43545066b86bec9e84dc82df264985506e715363bbb6df4da7a8be078729"), looks := false }, kinds := [], alts := [], laidByText := true, laidKinds := [.listed, .data], laidTests := true, laidLooks := .later }
def ExpressFormsUptoCardSaid : Prop := Claim7.holds Tryz.pinned (.plain (OpenSpec.upto expressFormsSpec)) expressFormsUptoCard

/-- THE SECOND FORM's CARD OF 'oxbowlaw20.ExpressStarts'. -/
def expressStartsUptoCard : Claim7 := { stood := { row := expressStartsUptoRow, standIns := [], harness := (true, "6abe43545066b86bec9e84dc82df264985506e715363bbb6df4da7a8be078729"), looks := false }, kinds := [], alts := [], laidByText := true, laidKinds := [.listed, .data], laidTests := true, laidLooks := .later }
def ExpressStartsUptoCardSaid : Prop := Claim7.holds Tryz.pinned (.plain (OpenSpec.upto expressStartsSpec)) expressStartsUptoCard

/-- THE SECOND FORM's CARD OF 'oxbowlaw20.ExpressDeclares'. -/
def expressDeclaresUptoCard : Claim7 := { stood := { row := expressDeclaresUptoRow, standIns := [], harness := (true, "6abe43545066b86bec9e84dc82df264985506e715363bbb6df4da7a8be078729"), looks := false }, kinds := [], alts := [], laidByText := true, laidKinds := [.listed, .data], laidTests := true, laidLooks := .later }
def ExpressDeclaresUptoCardSaid : Prop := Claim7.holds Tryz.pinned (.plain (OpenSpec.upto expressDeclaresSpec)) expressDeclaresUptoCard

/-- THE SECOND FORM's CARD OF 'oxbowlaw21.DeclareElse'. -/
def declareElseUptoCard : Claim7 := { stood := { row := declareElseUptoRow, standIns := [], harness := (true, "6abe43545066b86bec9e84dc82df264985506e715363bbb6df4da7a8be078729"), looks := false }, kinds := [], alts := [], laidByText := true, laidKinds := [.listed, .data], laidTests := true, laidLooks := .later }
def DeclareElseUptoCardSaid : Prop := Claim7.holds Tryz.pinned (.plain (OpenSpec.upto declareElseSpec)) declareElseUptoCard

/-- THE SECOND FORM's CARD OF 'oxbowlaw21.DeclareForms'. -/
def declareFormsUptoCard : Claim7 := { stood := { row := declareFormsUptoRow, standIns := [], harness := (true, "6abe43545066b86bec9e84dc82df264985506e715363bbb6df4da7a8be078729"), looks := false }, kinds := [], alts := [], laidByText := true, laidKinds := [.listed, .data], laidTests := true, laidLooks := .later }
def DeclareFormsUptoCardSaid : Prop := Claim7.holds Tryz.pinned (.plain (OpenSpec.upto declareFormsSpec)) declareFormsUptoCard

/-- THE SECOND FORM's CARD OF 'oxbowlaw21.DeclareScopes'. -/
def declareScopesUptoCard : Claim7 := { stood := { row := declareScopesUptoRow, standIns := [], harness := (true, "6abe43545066b86bec9e84dc82df264985506e715363bbb6df4da7a8be078729"), looks := false }, kinds := [], alts := [], laidByText := true, laidKinds := [.listed, .data], laidTests := true, laidLooks := .later }
def DeclareScopesUptoCardSaid : Prop := Claim7.holds Tryz.pinned (.plain (OpenSpec.upto declareScopesSpec)) declareScopesUptoCard

/-- THE SECOND FORM's CARD OF 'oxbowlaw21.DeclareNames'. -/
def declareNamesUptoCard : Claim7 := { stood := { row := declareNamesUptoRow, standIns := [], harness := (true, "6abe43545066b86bec9e84dc82df264985506e715363bbb6df4da7a8be078729"), looks := false }, kinds := [], alts := [], laidByText := true, laidKinds := [.listed, .data], laidTests := true, laidLooks := .later }
def DeclareNamesUptoCardSaid : Prop := Claim7.holds Tryz.pinned (.plain (OpenSpec.upto declareNamesSpec)) declareNamesUptoCard

/-- THE SECOND FORM's CARD OF 'oxbowlaw21.DeclareOdd'. -/
def declareOddUptoCard : Claim7 := { stood := { row := declareOddUptoRow, standIns := [], harness := (true, "6abe43545066b86bec9e84dc82df264985506e715363bbb6df4da7a8be078729"), looks := false }, kinds := [], alts := [], laidByText := true, laidKinds := [.listed, .data], laidTests := true, laidLooks := .later }
def DeclareOddUptoCardSaid : Prop := Claim7.holds Tryz.pinned (.plain (OpenSpec.upto declareOddSpec)) declareOddUptoCard

/-- THE SECOND FORM's CARD OF 'oxbowlaw22.UnitCovers'. -/
def unitCoversUptoCard : Claim7 := { stood := { row := unitCoversUptoRow, standIns := [], harness := (true, "6abe43545066b86bec9e84dc82df264985506e715363bbb6df4da7a8be078729"), looks := false }, kinds := [], alts := [], laidByText := true, laidKinds := [.listed, .data], laidTests := true, laidLooks := .later }
def UnitCoversUptoCardSaid : Prop := Claim7.holds Tryz.pinned (.plain (OpenSpec.upto unitCoversSpec)) unitCoversUptoCard

/-- THE SECOND FORM's CARD OF 'oxbowlaw22.UnitErrors'. -/
def unitErrorsUptoCard : Claim7 := { stood := { row := unitErrorsUptoRow, standIns := [], harness := (true, "6abe43545066b86bec9e84dc82df264985506e715363bbb6df4da7a8be078729"), looks := false }, kinds := [], alts := [], laidByText := true, laidKinds := [.listed, .data], laidTests := true, laidLooks := .later }
def UnitErrorsUptoCardSaid : Prop := Claim7.holds Tryz.pinned (.plain (OpenSpec.upto unitErrorsSpec)) unitErrorsUptoCard

/-- THE SECOND FORM's CARD OF 'oxbowlaw22.UnitFunctions'. -/
def unitFunctionsUptoCard : Claim7 := { stood := { row := unitFunctionsUptoRow, standIns := [], harness := (true, "6abe43545066b86bec9e84dc82df264985506e715363bbb6df4da7a8be078729"), looks := false }, kinds := [], alts := [], laidByText := true, laidKinds := [.listed, .data], laidTests := true, laidLooks := .later }
def UnitFunctionsUptoCardSaid : Prop := Claim7.holds Tryz.pinned (.plain (OpenSpec.upto unitFunctionsSpec)) unitFunctionsUptoCard

/-- THE SECOND FORM's CARD OF 'oxbowlaw22.UnitAlone'. -/
def unitAloneUptoCard : Claim7 := { stood := { row := unitAloneUptoRow, standIns := [], harness := (true, "6abe43545066b86bec9e84dc82df264985506e715363bbb6df4da7a8be078729"), looks := false }, kinds := [], alts := [], laidByText := true, laidKinds := [.listed, .data], laidTests := true, laidLooks := .later }
def UnitAloneUptoCardSaid : Prop := Claim7.holds Tryz.pinned (.plain (OpenSpec.upto unitAloneSpec)) unitAloneUptoCard
end Rows
end Go.Proofs.YtllbbacnakoomaaGreatDoor
