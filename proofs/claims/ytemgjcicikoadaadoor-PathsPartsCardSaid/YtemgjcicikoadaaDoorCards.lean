/-
  DERIVED. GIVEN WITH THE SEED: THE CARDS: each row of YtemgjcicikoadaaDoorRows.lean that lists a variable, with what it lists TIED to the program's text (the seventh form; the later family's looks); each row that meets fmt, with fmt's text TOLD by the authors' own Lean function (tested against real Go, not proved from fmt's source: count such statements apart). THE CARD IS WHAT COUNTS. Prove the row's statement (the work); the ties are given (YtemgjcicikoadaaDoorTie.lean); close each card by the builder's one call (the guide's Derived/Test/ToyasCard.lean, 'card_holds'). Laid BY PROGRAM, IN A SANDBOX (cutbox-door.mjs). By AI agents, Wed Nov 11 2026. No macro, syntax, notation, axiom, sorry.
-/
import Derived.Test.YtemgjcicikoadaaDoorRows
import GoSem.ClaimSeven
namespace Go.Proofs.YtemgjcicikoadaaDoor
namespace Rows

/-- THE TIED CARD OF 'oxbowlaw2.PathsClean'. -/
def pathsCleanCard : Claim7 := { stood := { row := pathsCleanRow, standIns := [], harness := (true, "38c30c9398062dabae14014e3ee22424b16eb09ee927dead92ba7b58569b57cf"), looks := false }, kinds := [], alts := [], laidByText := true, laidKinds := [.data, .pinned], laidTests := true, laidLooks := .later }
def PathsCleanCardSaid : Prop := Claim7.holds Tryd.pinned (.plain (OpenSpec.ofChange pathsCleanSpec)) pathsCleanCard

/-- THE TIED CARD OF 'oxbowlaw2.PathsKeep'. -/
def pathsKeepCard : Claim7 := { stood := { row := pathsKeepRow, standIns := [], harness := (true, "38c30c9398062dabae14014e3ee22424b16eb09ee927dead92ba7b58569b57cf"), looks := false }, kinds := [], alts := [], laidByText := true, laidKinds := [.data, .pinned], laidTests := true, laidLooks := .later }
def PathsKeepCardSaid : Prop := Claim7.holds Tryd.pinned (.plain (OpenSpec.ofChange pathsKeepSpec)) pathsKeepCard

/-- THE TIED CARD OF 'oxbowlaw2.PathsParts'. -/
def pathsPartsCard : Claim7 := { stood := { row := pathsPartsRow, standIns := [], harness := (true, "38c30c9398062dabae14014e3ee22424b16eb09ee927dead92ba7b58569b57cf"), looks := false }, kinds := [], alts := [], laidByText := true, laidKinds := [.data, .pinned], laidTests := true, laidLooks := .later }
def PathsPartsCardSaid : Prop := Claim7.holds Tryd.pinned (.plain (OpenSpec.ofChange pathsPartsSpec)) pathsPartsCard

/-- THE SECOND FORM's CARD OF 'oxbowlaw2.PathsClean'. -/
def pathsCleanUptoCard : Claim7 := { stood := { row := pathsCleanUptoRow, standIns := [], harness := (true, "38c30c9398062dabae14014e3ee22424b16eb09ee927dead92ba7b58569b57cf"), looks := false }, kinds := [], alts := [], laidByText := true, laidKinds := [.data, .pinned], laidTests := true, laidLooks := .later }
def PathsCleanUptoCardSaid : Prop := Claim7.holds Tryd.pinned (.plain (OpenSpec.upto pathsCleanSpec)) pathsCleanUptoCard

/-- THE SECOND FORM's CARD OF 'oxbowlaw2.PathsKeep'. -/
def pathsKeepUptoCard : Claim7 := { stood := { row := pathsKeepUptoRow, standIns := [], harness := (true, "38c30c9398062dabae14014e3ee22424b16eb09ee927dead92ba7b58569b57cf"), looks := false }, kinds := [], alts := [], laidByText := true, laidKinds := [.data, .pinned], laidTests := true, laidLooks := .later }
def PathsKeepUptoCardSaid : Prop := Claim7.holds Tryd.pinned (.plain (OpenSpec.upto pathsKeepSpec)) pathsKeepUptoCard

/-- THE SECOND FORM's CARD OF 'oxbowlaw2.PathsParts'. -/
def pathsPartsUptoCard : Claim7 := { stood := { row := pathsPartsUptoRow, standIns := [], harness := (true, "38c30c9398062dabae14014e3ee22424b16eb09ee927dead92ba7b58569b57cf"), looks := false }, kinds := [], alts := [], laidByText := true, laidKinds := [.data, .pinned], laidTests := true, laidLooks := .later }
def PathsPartsUptoCardSaid : Prop := Claim7.holds Tryd.pinned (.plain (OpenSpec.upto pathsPartsSpec)) pathsPartsUptoCard
end Rows
end Go.Proofs.YtemgjcicikoadaaDoor
