/-
  DERIVED. GIVEN WITH THE SEED: THE CARDS: each row of YtekbilieddficaaDoorRows.lean that lists a variable, with what it lists TIED to the program's text (the seventh form; the later family's looks); each row that meets fmt, with fmt's text TOLD by the authors' own Lean function (tested against real Go, not proved from fmt's source: count such statements apart). THE CARD IS WHAT COUNTS. Prove the row's statement (the work); the ties are given (YtekbilieddficaaDoorTie.lean); close each card by the builder's one call (the guide's Derived/Test/ToyasCard.lean, 'card_holds'). Laid BY PROGRAM, IN A SANDBOX (cutbox-door.mjs). By AI agents, Wed Nov 11 2026. No macro, syntax, notation, axiom, sorry.
-/
import Derived.Test.YtekbilieddficaaDoorRows
import GoSem.ClaimSeven
namespace Go.Proofs.YtekbilieddficaaDoor
namespace Rows

/-- THE TIED CARD OF 'oxbowlaw3.FilesFind'. -/
def filesFindCard : Claim7 := { stood := { row := filesFindRow, standIns := [], harness := (true, "bbaa4b2f33ccf41aece4a7443bea6fa9233162e1a0cc9245c901f0acbddb872f"), looks := false }, kinds := [], alts := [], laidByText := true, laidKinds := [.data, .pinned], laidTests := true, laidLooks := .later }
def FilesFindCardSaid : Prop := Claim7.holds Tryd.pinned (.plain (OpenSpec.ofChange filesFindSpec)) filesFindCard

/-- THE TIED CARD OF 'oxbowlaw3.FilesOrder'. -/
def filesOrderCard : Claim7 := { stood := { row := filesOrderRow, standIns := [], harness := (true, "bbaa4b2f33ccf41aece4a7443bea6fa9233162e1a0cc9245c901f0acbddb872f"), looks := false }, kinds := [], alts := [], laidByText := true, laidKinds := [.data, .pinned], laidTests := true, laidLooks := .later }
def FilesOrderCardSaid : Prop := Claim7.holds Tryd.pinned (.plain (OpenSpec.ofChange filesOrderSpec)) filesOrderCard

/-- THE TIED CARD OF 'oxbowlaw3.FilesApart'. -/
def filesApartCard : Claim7 := { stood := { row := filesApartRow, standIns := [], harness := (true, "bbaa4b2f33ccf41aece4a7443bea6fa9233162e1a0cc9245c901f0acbddb872f"), looks := false }, kinds := [], alts := [], laidByText := true, laidKinds := [.data, .pinned], laidTests := true, laidLooks := .later }
def FilesApartCardSaid : Prop := Claim7.holds Tryd.pinned (.plain (OpenSpec.ofChange filesApartSpec)) filesApartCard

/-- THE TIED CARD OF 'oxbowlaw3.FilesFull'. -/
def filesFullCard : Claim7 := { stood := { row := filesFullRow, standIns := [], harness := (true, "bbaa4b2f33ccf41aece4a7443bea6fa9233162e1a0cc9245c901f0acbddb872f"), looks := false }, kinds := [], alts := [], laidByText := true, laidKinds := [.data, .pinned], laidTests := true, laidLooks := .later }
def FilesFullCardSaid : Prop := Claim7.holds Tryd.pinned (.plain (OpenSpec.ofChange filesFullSpec)) filesFullCard

/-- THE SECOND FORM's CARD OF 'oxbowlaw3.FilesFind'. -/
def filesFindUptoCard : Claim7 := { stood := { row := filesFindUptoRow, standIns := [], harness := (true, "bbaa4b2f33ccf41aece4a7443bea6fa9233162e1a0cc9245c901f0acbddb872f"), looks := false }, kinds := [], alts := [], laidByText := true, laidKinds := [.data, .pinned], laidTests := true, laidLooks := .later }
def FilesFindUptoCardSaid : Prop := Claim7.holds Tryd.pinned (.plain (OpenSpec.upto filesFindSpec)) filesFindUptoCard

/-- THE SECOND FORM's CARD OF 'oxbowlaw3.FilesOrder'. -/
def filesOrderUptoCard : Claim7 := { stood := { row := filesOrderUptoRow, standIns := [], harness := (true, "bbaa4b2f33ccf41aece4a7443bea6fa9233162e1a0cc9245c901f0acbddb872f"), looks := false }, kinds := [], alts := [], laidByText := true, laidKinds := [.data, .pinned], laidTests := true, laidLooks := .later }
def FilesOrderUptoCardSaid : Prop := Claim7.holds Tryd.pinned (.plain (OpenSpec.upto filesOrderSpec)) filesOrderUptoCard

/-- THE SECOND FORM's CARD OF 'oxbowlaw3.FilesApart'. -/
def filesApartUptoCard : Claim7 := { stood := { row := filesApartUptoRow, standIns := [], harness := (true, "bbaa4b2f33ccf41aece4a7443bea6fa9233162e1a0cc9245c901f0acbddb872f"), looks := false }, kinds := [], alts := [], laidByText := true, laidKinds := [.data, .pinned], laidTests := true, laidLooks := .later }
def FilesApartUptoCardSaid : Prop := Claim7.holds Tryd.pinned (.plain (OpenSpec.upto filesApartSpec)) filesApartUptoCard

/-- THE SECOND FORM's CARD OF 'oxbowlaw3.FilesFull'. -/
def filesFullUptoCard : Claim7 := { stood := { row := filesFullUptoRow, standIns := [], harness := (true, "bbaa4b2f33ccf41aece4a7443bea6fa9233162e1a0cc9245c901f0acbddb872f"), looks := false }, kinds := [], alts := [], laidByText := true, laidKinds := [.data, .pinned], laidTests := true, laidLooks := .later }
def FilesFullUptoCardSaid : Prop := Claim7.holds Tryd.pinned (.plain (OpenSpec.upto filesFullSpec)) filesFullUptoCard
end Rows
end Go.Proofs.YtekbilieddficaaDoor
