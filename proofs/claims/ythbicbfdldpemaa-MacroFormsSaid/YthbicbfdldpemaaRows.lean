/-
  No cell of these rows narrows 'for every input' (looked for: loops, veiled, ifaces, maps, wideKeys, modest, calm, conditions, laid).
  DERIVED. THE GIVEN ROWS OF THIS SEAT. 9 by the template 'for every input the law returns true; each argument reads behind the call as it read before'; 0 by the template 'total and deterministic' (their statements: YthbicbfdldpemaaTotals.lean).
  GIVEN WITH THE SEED: the statements are not yours to turn. If you find one false, say at which input.
  Laid BY PROGRAM, IN A SANDBOX (cutbox-rows.mjs): the forced cells as the released guide's own fill.sh prints them over the translation f33c7e483849a6dc… (all of the seat's roots in one cut). By AI agents, Wed Nov 11 2026. No macro, syntax, notation, axiom, sorry.
-/
import Derived.Test.YthbicbfdldpemaaChecked
import GoSem.Claim
import GoSem.ClaimJoined
import GoSem.ClaimMapViews
import Derived.JoinedTies
import Derived.KernelRfl
namespace Go.Proofs.Ythbicbfdldpemaa
/- THE CELL 'sum', in the pinned program and in every row, IS THE sha256 OF THE DUMP (.gsa) THAT YthbicbfdldpemaaProg.lean LOADS. Nothing in Lean hashes anything: it is a label: what it is worth is what the hold of that sum in a sandbox is worth. -/
noncomputable def Try.pinned : Pinned := { name := "ythbicbfdldpemaa", sum := "f33c7e483849a6dca45aa5d67945f45ae54d431166577364ec01bc4070fcd5f9", checked := Try.checked }
namespace Rows
def none {H : Type} : Left H := { results := [], args := [] }

/-- 'oxbowlaw9.MacroForms': WHATEVER THE INPUT: true; the input reads as it did. -/
def macroFormsSpec : ChangeSpec := { name := "macroForms", fn := fun _ => fun
  | [d1, d2, d3] => { results := [.lit (.bool true)], args := [d1, d2, d3] }
  | _ => none }
def macroFormsRow : OpenClaim := { program := "ythbicbfdldpemaa", sum := "f33c7e483849a6dca45aa5d67945f45ae54d431166577364ec01bc4070fcd5f9", func := "oxbow/oxbowlaw9.MacroForms", spec := "macroForms", inPlace := ["maps.clone"], unfollowed := true, recurses := true, apart := false }
def MacroFormsSaid : Prop := macroFormsRow.holds Try.pinned (OpenSpec.ofChange macroFormsSpec)

/-- ITS FALSE NEIGHBOUR: 'it returns false'. Refute it at one input. -/
def macroFormsWrong : ChangeSpec := { name := "macroForms", fn := fun _ => fun
  | [d1, d2, d3] => { results := [.lit (.bool false)], args := [d1, d2, d3] }
  | _ => none }
def MacroFormsWrongFalsely : Prop := macroFormsRow.holds Try.pinned (OpenSpec.ofChange macroFormsWrong)

/-- 'oxbowlaw9.MacroWhole': WHATEVER THE INPUT: true; the input reads as it did. -/
def macroWholeSpec : ChangeSpec := { name := "macroWhole", fn := fun _ => fun
  | [d] => { results := [.lit (.bool true)], args := [d] }
  | _ => none }
def macroWholeRow : OpenClaim := { program := "ythbicbfdldpemaa", sum := "f33c7e483849a6dca45aa5d67945f45ae54d431166577364ec01bc4070fcd5f9", func := "oxbow/oxbowlaw9.MacroWhole", spec := "macroWhole", inPlace := ["maps.clone"], unfollowed := true, recurses := true, apart := false }
def MacroWholeSaid : Prop := macroWholeRow.holds Try.pinned (OpenSpec.ofChange macroWholeSpec)

/-- ITS FALSE NEIGHBOUR: 'it returns false'. Refute it at one input. -/
def macroWholeWrong : ChangeSpec := { name := "macroWhole", fn := fun _ => fun
  | [d] => { results := [.lit (.bool false)], args := [d] }
  | _ => none }
def MacroWholeWrongFalsely : Prop := macroWholeRow.holds Try.pinned (OpenSpec.ofChange macroWholeWrong)

/-- 'oxbowlaw9.MacroMore': WHATEVER THE INPUT: true; the input reads as it did. -/
def macroMoreSpec : ChangeSpec := { name := "macroMore", fn := fun _ => fun
  | [d1, d2] => { results := [.lit (.bool true)], args := [d1, d2] }
  | _ => none }
def macroMoreRow : OpenClaim := { program := "ythbicbfdldpemaa", sum := "f33c7e483849a6dca45aa5d67945f45ae54d431166577364ec01bc4070fcd5f9", func := "oxbow/oxbowlaw9.MacroMore", spec := "macroMore", inPlace := ["maps.clone"], unfollowed := true, recurses := true, apart := false }
def MacroMoreSaid : Prop := macroMoreRow.holds Try.pinned (OpenSpec.ofChange macroMoreSpec)

/-- ITS FALSE NEIGHBOUR: 'it returns false'. Refute it at one input. -/
def macroMoreWrong : ChangeSpec := { name := "macroMore", fn := fun _ => fun
  | [d1, d2] => { results := [.lit (.bool false)], args := [d1, d2] }
  | _ => none }
def MacroMoreWrongFalsely : Prop := macroMoreRow.holds Try.pinned (OpenSpec.ofChange macroMoreWrong)

/-- 'oxbowlaw5.LexLines': WHATEVER THE INPUT: true; the input reads as it did. -/
def lexLinesSpec : ChangeSpec := { name := "lexLines", fn := fun _ => fun
  | [d1, d2] => { results := [.lit (.bool true)], args := [d1, d2] }
  | _ => none }
def lexLinesRow : OpenClaim := { program := "ythbicbfdldpemaa", sum := "f33c7e483849a6dca45aa5d67945f45ae54d431166577364ec01bc4070fcd5f9", func := "oxbow/oxbowlaw5.LexLines", spec := "lexLines", inPlace := ["internal/bytealg.IndexByteString", "internal/abi.NoEscape"], apart := false }
def LexLinesSaid : Prop := lexLinesRow.holds Try.pinned (OpenSpec.ofChange lexLinesSpec)

/-- ITS FALSE NEIGHBOUR: 'it returns false'. Refute it at one input. -/
def lexLinesWrong : ChangeSpec := { name := "lexLines", fn := fun _ => fun
  | [d1, d2] => { results := [.lit (.bool false)], args := [d1, d2] }
  | _ => none }
def LexLinesWrongFalsely : Prop := lexLinesRow.holds Try.pinned (OpenSpec.ofChange lexLinesWrong)

/-- 'oxbowlaw5.LexBack': WHATEVER THE INPUT: true; the input reads as it did. -/
def lexBackSpec : ChangeSpec := { name := "lexBack", fn := fun _ => fun
  | [d] => { results := [.lit (.bool true)], args := [d] }
  | _ => none }
def lexBackRow : OpenClaim := { program := "ythbicbfdldpemaa", sum := "f33c7e483849a6dca45aa5d67945f45ae54d431166577364ec01bc4070fcd5f9", func := "oxbow/oxbowlaw5.LexBack", spec := "lexBack", inPlace := ["internal/bytealg.IndexByteString", "internal/abi.NoEscape"], apart := false }
def LexBackSaid : Prop := lexBackRow.holds Try.pinned (OpenSpec.ofChange lexBackSpec)

/-- ITS FALSE NEIGHBOUR: 'it returns false'. Refute it at one input. -/
def lexBackWrong : ChangeSpec := { name := "lexBack", fn := fun _ => fun
  | [d] => { results := [.lit (.bool false)], args := [d] }
  | _ => none }
def LexBackWrongFalsely : Prop := lexBackRow.holds Try.pinned (OpenSpec.ofChange lexBackWrong)

/-- 'oxbowlaw5.LexBytes': WHATEVER THE INPUT: true; the input reads as it did. -/
def lexBytesSpec : ChangeSpec := { name := "lexBytes", fn := fun _ => fun
  | [d] => { results := [.lit (.bool true)], args := [d] }
  | _ => none }
def lexBytesRow : OpenClaim := { program := "ythbicbfdldpemaa", sum := "f33c7e483849a6dca45aa5d67945f45ae54d431166577364ec01bc4070fcd5f9", func := "oxbow/oxbowlaw5.LexBytes", spec := "lexBytes", inPlace := ["internal/bytealg.IndexByteString", "internal/abi.NoEscape"], apart := false }
def LexBytesSaid : Prop := lexBytesRow.holds Try.pinned (OpenSpec.ofChange lexBytesSpec)

/-- ITS FALSE NEIGHBOUR: 'it returns false'. Refute it at one input. -/
def lexBytesWrong : ChangeSpec := { name := "lexBytes", fn := fun _ => fun
  | [d] => { results := [.lit (.bool false)], args := [d] }
  | _ => none }
def LexBytesWrongFalsely : Prop := lexBytesRow.holds Try.pinned (OpenSpec.ofChange lexBytesWrong)

/-- 'oxbowlaw5.LexLongest': WHATEVER THE INPUT: true; the input reads as it did. -/
def lexLongestSpec : ChangeSpec := { name := "lexLongest", fn := fun _ => fun
  | [d] => { results := [.lit (.bool true)], args := [d] }
  | _ => none }
def lexLongestRow : OpenClaim := { program := "ythbicbfdldpemaa", sum := "f33c7e483849a6dca45aa5d67945f45ae54d431166577364ec01bc4070fcd5f9", func := "oxbow/oxbowlaw5.LexLongest", spec := "lexLongest", inPlace := ["internal/bytealg.IndexByteString", "internal/abi.NoEscape"], apart := false }
def LexLongestSaid : Prop := lexLongestRow.holds Try.pinned (OpenSpec.ofChange lexLongestSpec)

/-- ITS FALSE NEIGHBOUR: 'it returns false'. Refute it at one input. -/
def lexLongestWrong : ChangeSpec := { name := "lexLongest", fn := fun _ => fun
  | [d] => { results := [.lit (.bool false)], args := [d] }
  | _ => none }
def LexLongestWrongFalsely : Prop := lexLongestRow.holds Try.pinned (OpenSpec.ofChange lexLongestWrong)

/-- 'oxbowlaw5.LexGaps': WHATEVER THE INPUT: true; the input reads as it did. -/
def lexGapsSpec : ChangeSpec := { name := "lexGaps", fn := fun _ => fun
  | [d1, d2] => { results := [.lit (.bool true)], args := [d1, d2] }
  | _ => none }
def lexGapsRow : OpenClaim := { program := "ythbicbfdldpemaa", sum := "f33c7e483849a6dca45aa5d67945f45ae54d431166577364ec01bc4070fcd5f9", func := "oxbow/oxbowlaw5.LexGaps", spec := "lexGaps", inPlace := ["internal/bytealg.IndexByteString", "internal/abi.NoEscape"], apart := false }
def LexGapsSaid : Prop := lexGapsRow.holds Try.pinned (OpenSpec.ofChange lexGapsSpec)

/-- ITS FALSE NEIGHBOUR: 'it returns false'. Refute it at one input. -/
def lexGapsWrong : ChangeSpec := { name := "lexGaps", fn := fun _ => fun
  | [d1, d2] => { results := [.lit (.bool false)], args := [d1, d2] }
  | _ => none }
def LexGapsWrongFalsely : Prop := lexGapsRow.holds Try.pinned (OpenSpec.ofChange lexGapsWrong)

/-- 'oxbowlaw9.MacroTable': WHATEVER THE INPUT: true; the input reads as it did. -/
def macroTableSpec : ChangeSpec := { name := "macroTable", fn := fun _ => fun
  | [d1, d2, d3] => { results := [.lit (.bool true)], args := [d1, d2, d3] }
  | _ => none }
def macroTableRow : OpenClaim := { program := "ythbicbfdldpemaa", sum := "f33c7e483849a6dca45aa5d67945f45ae54d431166577364ec01bc4070fcd5f9", func := "oxbow/oxbowlaw9.MacroTable", spec := "macroTable", inPlace := ["maps.clone"], unfollowed := true, recurses := true, apart := false }
def MacroTableSaid : Prop := macroTableRow.holds Try.pinned (OpenSpec.ofChange macroTableSpec)

/-- ITS FALSE NEIGHBOUR: 'it returns false'. Refute it at one input. -/
def macroTableWrong : ChangeSpec := { name := "macroTable", fn := fun _ => fun
  | [d1, d2, d3] => { results := [.lit (.bool false)], args := [d1, d2, d3] }
  | _ => none }
def MacroTableWrongFalsely : Prop := macroTableRow.holds Try.pinned (OpenSpec.ofChange macroTableWrong)

/- THE SECOND FORM. 'bulk': how many values and letters a reading holds, each counted each time it is reached (what is shared counts as often as it is met; a slice's spare places count too). A statement '..UptoSaid' is the law's where the arguments, and the package variables that the reading takes, are together of bulk at most 1048576: NARROWER than '..Said'. Prove '..Said' where nothing that the law and all that it calls make is longer than what came in: it says more and counts as full. Else prove '..UptoSaid'. A law counts once. -/
mutual
def uptoBulk {H : Type} : DataW H → Nat
  | .lit (.string bytes) => bytes.length + 1
  | .lit _ => 1
  | .nil => 1
  | .ptr d => uptoBulk d + 1
  | .slice elems spare => uptoBulkAll elems + uptoBulkAll spare + 1
  | .agg parts => uptoBulkAll parts + 1
  | .iface _ d => uptoBulk d + 1
  | .map entries => uptoBulkEntries entries + 1
  | .held _ => 1
def uptoBulkAll {H : Type} : List (DataW H) → Nat
  | [] => 0
  | d :: r => uptoBulk d + uptoBulkAll r
def uptoBulkEntries {H : Type} : List (Lit × DataW H) → Nat
  | [] => 0
  | x :: r => uptoBulkEntry x + uptoBulkEntries r
def uptoBulkEntry {H : Type} : Lit × DataW H → Nat
  | (.string bytes, d) => bytes.length + uptoBulk d + 1
  | (_, d) => uptoBulk d + 1
 end
def uptoSmall : (H : Type) → List (DataW H) → Bool := fun _ ds => decide (uptoBulkAll ds ≤ 1048576)
def OpenSpec.upto (s : _root_.Go.ChangeSpec) : _root_.Go.OpenSpec := { _root_.Go.OpenSpec.ofChange s with cond := some uptoSmall }

/-- 'oxbowlaw9.MacroForms', WHERE WHAT IT READS IS OF BULK AT MOST 1048576: true; the input reads as it did. -/
def macroFormsUptoRow : OpenClaim := { program := "ythbicbfdldpemaa", sum := "f33c7e483849a6dca45aa5d67945f45ae54d431166577364ec01bc4070fcd5f9", func := "oxbow/oxbowlaw9.MacroForms", spec := "macroForms", inPlace := ["maps.clone"], unfollowed := true, recurses := true, apart := false, narrowed := true }
def MacroFormsUptoSaid : Prop := macroFormsUptoRow.holds Try.pinned (OpenSpec.upto macroFormsSpec)

/-- 'oxbowlaw9.MacroWhole', WHERE WHAT IT READS IS OF BULK AT MOST 1048576: true; the input reads as it did. -/
def macroWholeUptoRow : OpenClaim := { program := "ythbicbfdldpemaa", sum := "f33c7e483849a6dca45aa5d67945f45ae54d431166577364ec01bc4070fcd5f9", func := "oxbow/oxbowlaw9.MacroWhole", spec := "macroWhole", inPlace := ["maps.clone"], unfollowed := true, recurses := true, apart := false, narrowed := true }
def MacroWholeUptoSaid : Prop := macroWholeUptoRow.holds Try.pinned (OpenSpec.upto macroWholeSpec)

/-- 'oxbowlaw9.MacroMore', WHERE WHAT IT READS IS OF BULK AT MOST 1048576: true; the input reads as it did. -/
def macroMoreUptoRow : OpenClaim := { program := "ythbicbfdldpemaa", sum := "f33c7e483849a6dca45aa5d67945f45ae54d431166577364ec01bc4070fcd5f9", func := "oxbow/oxbowlaw9.MacroMore", spec := "macroMore", inPlace := ["maps.clone"], unfollowed := true, recurses := true, apart := false, narrowed := true }
def MacroMoreUptoSaid : Prop := macroMoreUptoRow.holds Try.pinned (OpenSpec.upto macroMoreSpec)

/-- 'oxbowlaw5.LexLines', WHERE WHAT IT READS IS OF BULK AT MOST 1048576: true; the input reads as it did. -/
def lexLinesUptoRow : OpenClaim := { program := "ythbicbfdldpemaa", sum := "f33c7e483849a6dca45aa5d67945f45ae54d431166577364ec01bc4070fcd5f9", func := "oxbow/oxbowlaw5.LexLines", spec := "lexLines", inPlace := ["internal/bytealg.IndexByteString", "internal/abi.NoEscape"], apart := false, narrowed := true }
def LexLinesUptoSaid : Prop := lexLinesUptoRow.holds Try.pinned (OpenSpec.upto lexLinesSpec)

/-- 'oxbowlaw5.LexBack', WHERE WHAT IT READS IS OF BULK AT MOST 1048576: true; the input reads as it did. -/
def lexBackUptoRow : OpenClaim := { program := "ythbicbfdldpemaa", sum := "f33c7e483849a6dca45aa5d67945f45ae54d431166577364ec01bc4070fcd5f9", func := "oxbow/oxbowlaw5.LexBack", spec := "lexBack", inPlace := ["internal/bytealg.IndexByteString", "internal/abi.NoEscape"], apart := false, narrowed := true }
def LexBackUptoSaid : Prop := lexBackUptoRow.holds Try.pinned (OpenSpec.upto lexBackSpec)

/-- 'oxbowlaw5.LexBytes', WHERE WHAT IT READS IS OF BULK AT MOST 1048576: true; the input reads as it did. -/
def lexBytesUptoRow : OpenClaim := { program := "ythbicbfdldpemaa", sum := "f33c7e483849a6dca45aa5d67945f45ae54d431166577364ec01bc4070fcd5f9", func := "oxbow/oxbowlaw5.LexBytes", spec := "lexBytes", inPlace := ["internal/bytealg.IndexByteString", "internal/abi.NoEscape"], apart := false, narrowed := true }
def LexBytesUptoSaid : Prop := lexBytesUptoRow.holds Try.pinned (OpenSpec.upto lexBytesSpec)

/-- 'oxbowlaw5.LexLongest', WHERE WHAT IT READS IS OF BULK AT MOST 1048576: true; the input reads as it did. -/
def lexLongestUptoRow : OpenClaim := { program := "ythbicbfdldpemaa", sum := "f33c7e483849a6dca45aa5d67945f45ae54d431166577364ec01bc4070fcd5f9", func := "oxbow/oxbowlaw5.LexLongest", spec := "lexLongest", inPlace := ["internal/bytealg.IndexByteString", "internal/abi.NoEscape"], apart := false, narrowed := true }
def LexLongestUptoSaid : Prop := lexLongestUptoRow.holds Try.pinned (OpenSpec.upto lexLongestSpec)

/-- 'oxbowlaw5.LexGaps', WHERE WHAT IT READS IS OF BULK AT MOST 1048576: true; the input reads as it did. -/
def lexGapsUptoRow : OpenClaim := { program := "ythbicbfdldpemaa", sum := "f33c7e483849a6dca45aa5d67945f45ae54d431166577364ec01bc4070fcd5f9", func := "oxbow/oxbowlaw5.LexGaps", spec := "lexGaps", inPlace := ["internal/bytealg.IndexByteString", "internal/abi.NoEscape"], apart := false, narrowed := true }
def LexGapsUptoSaid : Prop := lexGapsUptoRow.holds Try.pinned (OpenSpec.upto lexGapsSpec)

/-- 'oxbowlaw9.MacroTable', WHERE WHAT IT READS IS OF BULK AT MOST 1048576: true; the input reads as it did. -/
def macroTableUptoRow : OpenClaim := { program := "ythbicbfdldpemaa", sum := "f33c7e483849a6dca45aa5d67945f45ae54d431166577364ec01bc4070fcd5f9", func := "oxbow/oxbowlaw9.MacroTable", spec := "macroTable", inPlace := ["maps.clone"], unfollowed := true, recurses := true, apart := false, narrowed := true }
def MacroTableUptoSaid : Prop := macroTableUptoRow.holds Try.pinned (OpenSpec.upto macroTableSpec)

end Rows
end Go.Proofs.Ythbicbfdldpemaa
