/-
  NARROWER THAN 'FOR EVERY INPUT', by the rows' own cells (each row's printed sentence says how): ExpressBinds: laid · ExpressDeep: laid · ExpressTypes: laid · ExpressForms: laid · ExpressStarts: laid · ExpressDeclares: laid · DeclareElse: laid · DeclareForms: laid · DeclareScopes: laid · DeclareNames: laid · DeclareOdd: laid · UnitCovers: laid · UnitErrors: laid · UnitFunctions: laid · UnitAlone: laid.
  DERIVED. THE GIVEN ROWS OF THIS SEAT. 15 by the template 'for every input the law returns true; each argument reads behind the call as it read before'; 0 by the template 'total and deterministic' (their statements: YtllbbacnakoomaaGreatDoorTotals.lean).
  GIVEN WITH THE SEED: the statements are not yours to turn. If you find one false, say at which input.
  Laid BY PROGRAM, IN A SANDBOX (cutbox-rows.mjs): the forced cells as the released guide's own fill.sh prints them over the translation 845c12f4b66792a3… (all of the seat's roots in one cut). By AI agents, Wed Nov 11 2026. No macro, syntax, notation, axiom, sorry.
-/
import Derived.Test.YtllbbacnakoomaaGreatDoorChecked
import GoSem.Claim
import GoSem.ClaimJoined
import GoSem.ClaimMapViews
import Derived.JoinedTies
import Derived.KernelRfl
namespace Go.Proofs.YtllbbacnakoomaaGreatDoor
/- THE CELL 'sum', in the pinned program and in every row, IS THE sha256 OF THE DUMP (.gsa) THAT YtllbbacnakoomaaGreatDoorProg.lean LOADS. Nothing in Lean hashes anything: it is a label: what it is worth is what the hold of that sum in a sandbox is worth. -/
noncomputable def Tryz.pinned : Pinned := { name := "ytllbbacnakoomaagreatdoor", sum := "845c12f4b66792a3d25a8b2ab99b469eef7b4622bafaaecaae622ea1466b7a99", checked := Tryz.checked }
namespace Rows
def none {H : Type} : Left H := { results := [], args := [] }

/- WHAT THE LISTED PACKAGE-LEVEL VARIABLES READ AS WHEN THE CALL BEGINS. Each datum BY PROGRAM (the guide's laid-datum.mjs) off the statement by which the dump's own 'gosem.cut.vars' lays the variable. In a bare row this is a premise. The card (YtllbbacnakoomaaGreatDoorCards.lean) ties it to the program's text. -/
def laid_unicode_White_Space {H : Type} : DataW H := .ptr (.agg [.slice [.agg [.lit (.int .u16 9), .lit (.int .u16 13), .lit (.int .u16 1)], .agg [.lit (.int .u16 32), .lit (.int .u16 133), .lit (.int .u16 101)], .agg [.lit (.int .u16 160), .lit (.int .u16 5760), .lit (.int .u16 5600)], .agg [.lit (.int .u16 8192), .lit (.int .u16 8202), .lit (.int .u16 1)], .agg [.lit (.int .u16 8232), .lit (.int .u16 8233), .lit (.int .u16 1)], .agg [.lit (.int .u16 8239), .lit (.int .u16 8287), .lit (.int .u16 48)], .agg [.lit (.int .u16 12288), .lit (.int .u16 12288), .lit (.int .u16 1)]] [], .nil, .lit (.int .i64 2)])
def laid_strings_asciiSpace {H : Type} : DataW H := .agg [.lit (.int .u8 0), .lit (.int .u8 0), .lit (.int .u8 0), .lit (.int .u8 0), .lit (.int .u8 0), .lit (.int .u8 0), .lit (.int .u8 0), .lit (.int .u8 0), .lit (.int .u8 0), .lit (.int .u8 1), .lit (.int .u8 1), .lit (.int .u8 1), .lit (.int .u8 1), .lit (.int .u8 1), .lit (.int .u8 0), .lit (.int .u8 0), .lit (.int .u8 0), .lit (.int .u8 0), .lit (.int .u8 0), .lit (.int .u8 0), .lit (.int .u8 0), .lit (.int .u8 0), .lit (.int .u8 0), .lit (.int .u8 0), .lit (.int .u8 0), .lit (.int .u8 0), .lit (.int .u8 0), .lit (.int .u8 0), .lit (.int .u8 0), .lit (.int .u8 0), .lit (.int .u8 0), .lit (.int .u8 0), .lit (.int .u8 1), .lit (.int .u8 0), .lit (.int .u8 0), .lit (.int .u8 0), .lit (.int .u8 0), .lit (.int .u8 0), .lit (.int .u8 0), .lit (.int .u8 0), .lit (.int .u8 0), .lit (.int .u8 0), .lit (.int .u8 0), .lit (.int .u8 0), .lit (.int .u8 0), .lit (.int .u8 0), .lit (.int .u8 0), .lit (.int .u8 0), .lit (.int .u8 0), .lit (.int .u8 0), .lit (.int .u8 0), .lit (.int .u8 0), .lit (.int .u8 0), .lit (.int .u8 0), .lit (.int .u8 0), .lit (.int .u8 0), .lit (.int .u8 0), .lit (.int .u8 0), .lit (.int .u8 0), .lit (.int .u8 0), .lit (.int .u8 0), .lit (.int .u8 0), .lit (.int .u8 0), .lit (.int .u8 0), .lit (.int .u8 0), .lit (.int .u8 0), .lit (.int .u8 0), .lit (.int .u8 0), .lit (.int .u8 0), .lit (.int .u8 0), .lit (.int .u8 0), .lit (.int .u8 0), .lit (.int .u8 0), .lit (.int .u8 0), .lit (.int .u8 0), .lit (.int .u8 0), .lit (.int .u8 0), .lit (.int .u8 0), .lit (.int .u8 0), .lit (.int .u8 0), .lit (.int .u8 0), .lit (.int .u8 0), .lit (.int .u8 0), .lit (.int .u8 0), .lit (.int .u8 0), .lit (.int .u8 0), .lit (.int .u8 0), .lit (.int .u8 0), .lit (.int .u8 0), .lit (.int .u8 0), .lit (.int .u8 0), .lit (.int .u8 0), .lit (.int .u8 0), .lit (.int .u8 0), .lit (.int .u8 0), .lit (.int .u8 0), .lit (.int .u8 0), .lit (.int .u8 0), .lit (.int .u8 0), .lit (.int .u8 0), .lit (.int .u8 0), .lit (.int .u8 0), .lit (.int .u8 0), .lit (.int .u8 0), .lit (.int .u8 0), .lit (.int .u8 0), .lit (.int .u8 0), .lit (.int .u8 0), .lit (.int .u8 0), .lit (.int .u8 0), .lit (.int .u8 0), .lit (.int .u8 0), .lit (.int .u8 0), .lit (.int .u8 0), .lit (.int .u8 0), .lit (.int .u8 0), .lit (.int .u8 0), .lit (.int .u8 0), .lit (.int .u8 0), .lit (.int .u8 0), .lit (.int .u8 0), .lit (.int .u8 0), .lit (.int .u8 0), .lit (.int .u8 0), .lit (.int .u8 0), .lit (.int .u8 0), .lit (.int .u8 0), .lit (.int .u8 0), .lit (.int .u8 0), .lit (.int .u8 0), .lit (.int .u8 0), .lit (.int .u8 0), .lit (.int .u8 0), .lit (.int .u8 0), .lit (.int .u8 0), .lit (.int .u8 0), .lit (.int .u8 0), .lit (.int .u8 0), .lit (.int .u8 0), .lit (.int .u8 0), .lit (.int .u8 0), .lit (.int .u8 0), .lit (.int .u8 0), .lit (.int .u8 0), .lit (.int .u8 0), .lit (.int .u8 0), .lit (.int .u8 0), .lit (.int .u8 0), .lit (.int .u8 0), .lit (.int .u8 0), .lit (.int .u8 0), .lit (.int .u8 0), .lit (.int .u8 0), .lit (.int .u8 0), .lit (.int .u8 0), .lit (.int .u8 0), .lit (.int .u8 0), .lit (.int .u8 0), .lit (.int .u8 0), .lit (.int .u8 0), .lit (.int .u8 0), .lit (.int .u8 0), .lit (.int .u8 0), .lit (.int .u8 0), .lit (.int .u8 0), .lit (.int .u8 0), .lit (.int .u8 0), .lit (.int .u8 0), .lit (.int .u8 0), .lit (.int .u8 0), .lit (.int .u8 0), .lit (.int .u8 0), .lit (.int .u8 0), .lit (.int .u8 0), .lit (.int .u8 0), .lit (.int .u8 0), .lit (.int .u8 0), .lit (.int .u8 0), .lit (.int .u8 0), .lit (.int .u8 0), .lit (.int .u8 0), .lit (.int .u8 0), .lit (.int .u8 0), .lit (.int .u8 0), .lit (.int .u8 0), .lit (.int .u8 0), .lit (.int .u8 0), .lit (.int .u8 0), .lit (.int .u8 0), .lit (.int .u8 0), .lit (.int .u8 0), .lit (.int .u8 0), .lit (.int .u8 0), .lit (.int .u8 0), .lit (.int .u8 0), .lit (.int .u8 0), .lit (.int .u8 0), .lit (.int .u8 0), .lit (.int .u8 0), .lit (.int .u8 0), .lit (.int .u8 0), .lit (.int .u8 0), .lit (.int .u8 0), .lit (.int .u8 0), .lit (.int .u8 0), .lit (.int .u8 0), .lit (.int .u8 0), .lit (.int .u8 0), .lit (.int .u8 0), .lit (.int .u8 0), .lit (.int .u8 0), .lit (.int .u8 0), .lit (.int .u8 0), .lit (.int .u8 0), .lit (.int .u8 0), .lit (.int .u8 0), .lit (.int .u8 0), .lit (.int .u8 0), .lit (.int .u8 0), .lit (.int .u8 0), .lit (.int .u8 0), .lit (.int .u8 0), .lit (.int .u8 0), .lit (.int .u8 0), .lit (.int .u8 0), .lit (.int .u8 0), .lit (.int .u8 0), .lit (.int .u8 0), .lit (.int .u8 0), .lit (.int .u8 0), .lit (.int .u8 0), .lit (.int .u8 0), .lit (.int .u8 0), .lit (.int .u8 0), .lit (.int .u8 0), .lit (.int .u8 0), .lit (.int .u8 0), .lit (.int .u8 0), .lit (.int .u8 0), .lit (.int .u8 0), .lit (.int .u8 0), .lit (.int .u8 0), .lit (.int .u8 0), .lit (.int .u8 0), .lit (.int .u8 0), .lit (.int .u8 0), .lit (.int .u8 0), .lit (.int .u8 0), .lit (.int .u8 0), .lit (.int .u8 0), .lit (.int .u8 0), .lit (.int .u8 0), .lit (.int .u8 0), .lit (.int .u8 0), .lit (.int .u8 0), .lit (.int .u8 0)]

/-- 'oxbowlaw20.ExpressBinds': WHATEVER THE INPUT: true; the input reads as it did. -/
def expressBindsSpec : ChangeSpec := { name := "expressBinds", fn := fun _ => fun
  | [d1, d2] => { results := [.lit (.bool true)], args := [d1, d2] }
  | _ => none }
def expressBindsRow : OpenClaim := { program := "ytllbbacnakoomaagreatdoor", sum := "845c12f4b66792a3d25a8b2ab99b469eef7b4622bafaaecaae622ea1466b7a99", func := "oxbow/oxbowlaw20.ExpressBinds", spec := "expressBinds", inPlace := ["internal/abi.NoEscape"], unfollowed := true, recurses := true, named := ["strings.asciiSpace", "unicode.White_Space"], apart := false, laid := [("unicode.White_Space", laid_unicode_White_Space), ("strings.asciiSpace", laid_strings_asciiSpace)] }
def ExpressBindsSaid : Prop := expressBindsRow.holds Tryz.pinned (OpenSpec.ofChange expressBindsSpec)

/-- ITS FALSE NEIGHBOUR: 'it returns false'. Refute it at one input. -/
def expressBindsWrong : ChangeSpec := { name := "expressBinds", fn := fun _ => fun
  | [d1, d2] => { results := [.lit (.bool false)], args := [d1, d2] }
  | _ => none }
def ExpressBindsWrongFalsely : Prop := expressBindsRow.holds Tryz.pinned (OpenSpec.ofChange expressBindsWrong)

/-- 'oxbowlaw20.ExpressDeep': WHATEVER THE INPUT: true; the input reads as it did. -/
def expressDeepSpec : ChangeSpec := { name := "expressDeep", fn := fun _ => fun
  | [d1, d2] => { results := [.lit (.bool true)], args := [d1, d2] }
  | _ => none }
def expressDeepRow : OpenClaim := { program := "ytllbbacnakoomaagreatdoor", sum := "845c12f4b66792a3d25a8b2ab99b469eef7b4622bafaaecaae622ea1466b7a99", func := "oxbow/oxbowlaw20.ExpressDeep", spec := "expressDeep", inPlace := ["internal/abi.NoEscape"], unfollowed := true, recurses := true, named := ["strings.asciiSpace", "unicode.White_Space"], apart := false, laid := [("unicode.White_Space", laid_unicode_White_Space), ("strings.asciiSpace", laid_strings_asciiSpace)] }
def ExpressDeepSaid : Prop := expressDeepRow.holds Tryz.pinned (OpenSpec.ofChange expressDeepSpec)

/-- ITS FALSE NEIGHBOUR: 'it returns false'. Refute it at one input. -/
def expressDeepWrong : ChangeSpec := { name := "expressDeep", fn := fun _ => fun
  | [d1, d2] => { results := [.lit (.bool false)], args := [d1, d2] }
  | _ => none }
def ExpressDeepWrongFalsely : Prop := expressDeepRow.holds Tryz.pinned (OpenSpec.ofChange expressDeepWrong)

/-- 'oxbowlaw20.ExpressTypes': WHATEVER THE INPUT: true; the input reads as it did. -/
def expressTypesSpec : ChangeSpec := { name := "expressTypes", fn := fun _ => fun
  | [d] => { results := [.lit (.bool true)], args := [d] }
  | _ => none }
def expressTypesRow : OpenClaim := { program := "ytllbbacnakoomaagreatdoor", sum := "845c12f4b66792a3d25a8b2ab99b469eef7b4622bafaaecaae622ea1466b7a99", func := "oxbow/oxbowlaw20.ExpressTypes", spec := "expressTypes", inPlace := ["internal/abi.NoEscape"], unfollowed := true, recurses := true, named := ["strings.asciiSpace", "unicode.White_Space"], apart := false, laid := [("unicode.White_Space", laid_unicode_White_Space), ("strings.asciiSpace", laid_strings_asciiSpace)] }
def ExpressTypesSaid : Prop := expressTypesRow.holds Tryz.pinned (OpenSpec.ofChange expressTypesSpec)

/-- ITS FALSE NEIGHBOUR: 'it returns false'. Refute it at one input. -/
def expressTypesWrong : ChangeSpec := { name := "expressTypes", fn := fun _ => fun
  | [d] => { results := [.lit (.bool false)], args := [d] }
  | _ => none }
def ExpressTypesWrongFalsely : Prop := expressTypesRow.holds Tryz.pinned (OpenSpec.ofChange expressTypesWrong)

/-- 'oxbowlaw20.ExpressForms': WHATEVER THE INPUT: true; the input reads as it did. -/
def expressFormsSpec : ChangeSpec := { name := "expressForms", fn := fun _ => fun
  | [d] => { results := [.lit (.bool true)], args := [d] }
  | _ => none }
def expressFormsRow : OpenClaim := { program := "ytllbbacnakoomaagreatdoor", sum := "845c12f4b66792a3d25a8b2ab99b469eef7b4622bafaaecaae622ea1466b7a99", func := "oxbow/oxbowlaw20.ExpressForms", spec := "expressForms", inPlace := ["internal/abi.NoEscape"], unfollowed := true, recurses := true, named := ["strings.asciiSpace", "unicode.White_Space"], apart := false, laid := [("unicode.White_Space", laid_unicode_White_Space), ("strings.asciiSpace", laid_strings_asciiSpace)] }
def ExpressFormsSaid : Prop := expressFormsRow.holds Tryz.pinned (OpenSpec.ofChange expressFormsSpec)

/-- ITS FALSE NEIGHBOUR: 'it returns false'. Refute it at one input. -/
def expressFormsWrong : ChangeSpec := { name := "expressForms", fn := fun _ => fun
  | [d] => { results := [.lit (.bool false)], args := [d] }
  | _ => none }
def ExpressFormsWrongFalsely : Prop := expressFormsRow.holds Tryz.pinned (OpenSpec.ofChange expressFormsWrong)

/-- 'oxbowlaw20.ExpressStarts': WHATEVER THE INPUT: true; the input reads as it did. -/
def expressStartsSpec : ChangeSpec := { name := "expressStarts", fn := fun _ => fun
  | [d1, d2] => { results := [.lit (.bool true)], args := [d1, d2] }
  | _ => none }
def expressStartsRow : OpenClaim := { program := "ytllbbacnakoomaagreatdoor", sum := "845c12f4b66792a3d25a8b2ab99b469eef7b4622bafaaecaae622ea1466b7a99", func := "oxbow/oxbowlaw20.ExpressStarts", spec := "expressStarts", inPlace := ["internal/abi.NoEscape"], unfollowed := true, recurses := true, named := ["strings.asciiSpace", "unicode.White_Space"], apart := false, laid := [("unicode.White_Space", laid_unicode_White_Space), ("strings.asciiSpace", laid_strings_asciiSpace)] }
def ExpressStartsSaid : Prop := expressStartsRow.holds Tryz.pinned (OpenSpec.ofChange expressStartsSpec)

/-- ITS FALSE NEIGHBOUR: 'it returns false'. Refute it at one input. -/
def expressStartsWrong : ChangeSpec := { name := "expressStarts", fn := fun _ => fun
  | [d1, d2] => { results := [.lit (.bool false)], args := [d1, d2] }
  | _ => none }
def ExpressStartsWrongFalsely : Prop := expressStartsRow.holds Tryz.pinned (OpenSpec.ofChange expressStartsWrong)

/-- 'oxbowlaw20.ExpressDeclares': WHATEVER THE INPUT: true; the input reads as it did. -/
def expressDeclaresSpec : ChangeSpec := { name := "expressDeclares", fn := fun _ => fun
  | [d] => { results := [.lit (.bool true)], args := [d] }
  | _ => none }
def expressDeclaresRow : OpenClaim := { program := "ytllbbacnakoomaagreatdoor", sum := "845c12f4b66792a3d25a8b2ab99b469eef7b4622bafaaecaae622ea1466b7a99", func := "oxbow/oxbowlaw20.ExpressDeclares", spec := "expressDeclares", inPlace := ["internal/abi.NoEscape"], unfollowed := true, recurses := true, named := ["strings.asciiSpace", "unicode.White_Space"], apart := false, laid := [("unicode.White_Space", laid_unicode_White_Space), ("strings.asciiSpace", laid_strings_asciiSpace)] }
def ExpressDeclaresSaid : Prop := expressDeclaresRow.holds Tryz.pinned (OpenSpec.ofChange expressDeclaresSpec)

/-- ITS FALSE NEIGHBOUR: 'it returns false'. Refute it at one input. -/
def expressDeclaresWrong : ChangeSpec := { name := "expressDeclares", fn := fun _ => fun
  | [d] => { results := [.lit (.bool false)], args := [d] }
  | _ => none }
def ExpressDeclaresWrongFalsely : Prop := expressDeclaresRow.holds Tryz.pinned (OpenSpec.ofChange expressDeclaresWrong)

/-- 'oxbowlaw21.DeclareElse': WHATEVER THE INPUT: true; the input reads as it did. -/
def declareElseSpec : ChangeSpec := { name := "declareElse", fn := fun _ => fun
  | [d1, d2] => { results := [.lit (.bool true)], args := [d1, d2] }
  | _ => none }
def declareElseRow : OpenClaim := { program := "ytllbbacnakoomaagreatdoor", sum := "845c12f4b66792a3d25a8b2ab99b469eef7b4622bafaaecaae622ea1466b7a99", func := "oxbow/oxbowlaw21.DeclareElse", spec := "declareElse", inPlace := ["internal/abi.NoEscape"], unfollowed := true, recurses := true, named := ["strings.asciiSpace", "unicode.White_Space"], apart := false, laid := [("unicode.White_Space", laid_unicode_White_Space), ("strings.asciiSpace", laid_strings_asciiSpace)] }
def DeclareElseSaid : Prop := declareElseRow.holds Tryz.pinned (OpenSpec.ofChange declareElseSpec)

/-- ITS FALSE NEIGHBOUR: 'it returns false'. Refute it at one input. -/
def declareElseWrong : ChangeSpec := { name := "declareElse", fn := fun _ => fun
  | [d1, d2] => { results := [.lit (.bool false)], args := [d1, d2] }
  | _ => none }
def DeclareElseWrongFalsely : Prop := declareElseRow.holds Tryz.pinned (OpenSpec.ofChange declareElseWrong)

/-- 'oxbowlaw21.DeclareForms': WHATEVER THE INPUT: true; the input reads as it did. -/
def declareFormsSpec : ChangeSpec := { name := "declareForms", fn := fun _ => fun
  | [d] => { results := [.lit (.bool true)], args := [d] }
  | _ => none }
def declareFormsRow : OpenClaim := { program := "ytllbbacnakoomaagreatdoor", sum := "845c12f4b66792a3d25a8b2ab99b469eef7b4622bafaaecaae622ea1466b7a99", func := "oxbow/oxbowlaw21.DeclareForms", spec := "declareForms", inPlace := ["internal/abi.NoEscape"], unfollowed := true, recurses := true, named := ["strings.asciiSpace", "unicode.White_Space"], apart := false, laid := [("unicode.White_Space", laid_unicode_White_Space), ("strings.asciiSpace", laid_strings_asciiSpace)] }
def DeclareFormsSaid : Prop := declareFormsRow.holds Tryz.pinned (OpenSpec.ofChange declareFormsSpec)

/-- ITS FALSE NEIGHBOUR: 'it returns false'. Refute it at one input. -/
def declareFormsWrong : ChangeSpec := { name := "declareForms", fn := fun _ => fun
  | [d] => { results := [.lit (.bool false)], args := [d] }
  | _ => none }
def DeclareFormsWrongFalsely : Prop := declareFormsRow.holds Tryz.pinned (OpenSpec.ofChange declareFormsWrong)

/-- 'oxbowlaw21.DeclareScopes': WHATEVER THE INPUT: true; the input reads as it did. -/
def declareScopesSpec : ChangeSpec := { name := "declareScopes", fn := fun _ => fun
  | [d1, d2] => { results := [.lit (.bool true)], args := [d1, d2] }
  | _ => none }
def declareScopesRow : OpenClaim := { program := "ytllbbacnakoomaagreatdoor", sum := "845c12f4b66792a3d25a8b2ab99b469eef7b4622bafaaecaae622ea1466b7a99", func := "oxbow/oxbowlaw21.DeclareScopes", spec := "declareScopes", inPlace := ["internal/abi.NoEscape"], unfollowed := true, recurses := true, named := ["strings.asciiSpace", "unicode.White_Space"], apart := false, laid := [("unicode.White_Space", laid_unicode_White_Space), ("strings.asciiSpace", laid_strings_asciiSpace)] }
def DeclareScopesSaid : Prop := declareScopesRow.holds Tryz.pinned (OpenSpec.ofChange declareScopesSpec)

/-- ITS FALSE NEIGHBOUR: 'it returns false'. Refute it at one input. -/
def declareScopesWrong : ChangeSpec := { name := "declareScopes", fn := fun _ => fun
  | [d1, d2] => { results := [.lit (.bool false)], args := [d1, d2] }
  | _ => none }
def DeclareScopesWrongFalsely : Prop := declareScopesRow.holds Tryz.pinned (OpenSpec.ofChange declareScopesWrong)

/-- 'oxbowlaw21.DeclareNames': WHATEVER THE INPUT: true; the input reads as it did. -/
def declareNamesSpec : ChangeSpec := { name := "declareNames", fn := fun _ => fun
  | [d1, d2, d3, d4] => { results := [.lit (.bool true)], args := [d1, d2, d3, d4] }
  | _ => none }
def declareNamesRow : OpenClaim := { program := "ytllbbacnakoomaagreatdoor", sum := "845c12f4b66792a3d25a8b2ab99b469eef7b4622bafaaecaae622ea1466b7a99", func := "oxbow/oxbowlaw21.DeclareNames", spec := "declareNames", inPlace := ["internal/abi.NoEscape"], unfollowed := true, recurses := true, named := ["strings.asciiSpace", "unicode.White_Space"], apart := false, laid := [("unicode.White_Space", laid_unicode_White_Space), ("strings.asciiSpace", laid_strings_asciiSpace)] }
def DeclareNamesSaid : Prop := declareNamesRow.holds Tryz.pinned (OpenSpec.ofChange declareNamesSpec)

/-- ITS FALSE NEIGHBOUR: 'it returns false'. Refute it at one input. -/
def declareNamesWrong : ChangeSpec := { name := "declareNames", fn := fun _ => fun
  | [d1, d2, d3, d4] => { results := [.lit (.bool false)], args := [d1, d2, d3, d4] }
  | _ => none }
def DeclareNamesWrongFalsely : Prop := declareNamesRow.holds Tryz.pinned (OpenSpec.ofChange declareNamesWrong)

/-- 'oxbowlaw21.DeclareOdd': WHATEVER THE INPUT: true; the input reads as it did. -/
def declareOddSpec : ChangeSpec := { name := "declareOdd", fn := fun _ => fun
  | [d] => { results := [.lit (.bool true)], args := [d] }
  | _ => none }
def declareOddRow : OpenClaim := { program := "ytllbbacnakoomaagreatdoor", sum := "845c12f4b66792a3d25a8b2ab99b469eef7b4622bafaaecaae622ea1466b7a99", func := "oxbow/oxbowlaw21.DeclareOdd", spec := "declareOdd", inPlace := ["internal/abi.NoEscape"], unfollowed := true, recurses := true, named := ["strings.asciiSpace", "unicode.White_Space"], apart := false, laid := [("unicode.White_Space", laid_unicode_White_Space), ("strings.asciiSpace", laid_strings_asciiSpace)] }
def DeclareOddSaid : Prop := declareOddRow.holds Tryz.pinned (OpenSpec.ofChange declareOddSpec)

/-- ITS FALSE NEIGHBOUR: 'it returns false'. Refute it at one input. -/
def declareOddWrong : ChangeSpec := { name := "declareOdd", fn := fun _ => fun
  | [d] => { results := [.lit (.bool false)], args := [d] }
  | _ => none }
def DeclareOddWrongFalsely : Prop := declareOddRow.holds Tryz.pinned (OpenSpec.ofChange declareOddWrong)

/-- 'oxbowlaw22.UnitCovers': WHATEVER THE INPUT: true; the input reads as it did. -/
def unitCoversSpec : ChangeSpec := { name := "unitCovers", fn := fun _ => fun
  | [d] => { results := [.lit (.bool true)], args := [d] }
  | _ => none }
def unitCoversRow : OpenClaim := { program := "ytllbbacnakoomaagreatdoor", sum := "845c12f4b66792a3d25a8b2ab99b469eef7b4622bafaaecaae622ea1466b7a99", func := "oxbow/oxbowlaw22.UnitCovers", spec := "unitCovers", inPlace := ["internal/abi.NoEscape"], unfollowed := true, recurses := true, named := ["strings.asciiSpace", "unicode.White_Space"], apart := false, laid := [("unicode.White_Space", laid_unicode_White_Space), ("strings.asciiSpace", laid_strings_asciiSpace)] }
def UnitCoversSaid : Prop := unitCoversRow.holds Tryz.pinned (OpenSpec.ofChange unitCoversSpec)

/-- ITS FALSE NEIGHBOUR: 'it returns false'. Refute it at one input. -/
def unitCoversWrong : ChangeSpec := { name := "unitCovers", fn := fun _ => fun
  | [d] => { results := [.lit (.bool false)], args := [d] }
  | _ => none }
def UnitCoversWrongFalsely : Prop := unitCoversRow.holds Tryz.pinned (OpenSpec.ofChange unitCoversWrong)

/-- 'oxbowlaw22.UnitErrors': WHATEVER THE INPUT: true; the input reads as it did. -/
def unitErrorsSpec : ChangeSpec := { name := "unitErrors", fn := fun _ => fun
  | [d1, d2, d3] => { results := [.lit (.bool true)], args := [d1, d2, d3] }
  | _ => none }
def unitErrorsRow : OpenClaim := { program := "ytllbbacnakoomaagreatdoor", sum := "845c12f4b66792a3d25a8b2ab99b469eef7b4622bafaaecaae622ea1466b7a99", func := "oxbow/oxbowlaw22.UnitErrors", spec := "unitErrors", inPlace := ["internal/abi.NoEscape"], unfollowed := true, recurses := true, named := ["strings.asciiSpace", "unicode.White_Space"], apart := false, laid := [("unicode.White_Space", laid_unicode_White_Space), ("strings.asciiSpace", laid_strings_asciiSpace)] }
def UnitErrorsSaid : Prop := unitErrorsRow.holds Tryz.pinned (OpenSpec.ofChange unitErrorsSpec)

/-- ITS FALSE NEIGHBOUR: 'it returns false'. Refute it at one input. -/
def unitErrorsWrong : ChangeSpec := { name := "unitErrors", fn := fun _ => fun
  | [d1, d2, d3] => { results := [.lit (.bool false)], args := [d1, d2, d3] }
  | _ => none }
def UnitErrorsWrongFalsely : Prop := unitErrorsRow.holds Tryz.pinned (OpenSpec.ofChange unitErrorsWrong)

/-- 'oxbowlaw22.UnitFunctions': WHATEVER THE INPUT: true; the input reads as it did. -/
def unitFunctionsSpec : ChangeSpec := { name := "unitFunctions", fn := fun _ => fun
  | [d] => { results := [.lit (.bool true)], args := [d] }
  | _ => none }
def unitFunctionsRow : OpenClaim := { program := "ytllbbacnakoomaagreatdoor", sum := "845c12f4b66792a3d25a8b2ab99b469eef7b4622bafaaecaae622ea1466b7a99", func := "oxbow/oxbowlaw22.UnitFunctions", spec := "unitFunctions", inPlace := ["internal/abi.NoEscape"], unfollowed := true, recurses := true, named := ["strings.asciiSpace", "unicode.White_Space"], apart := false, laid := [("unicode.White_Space", laid_unicode_White_Space), ("strings.asciiSpace", laid_strings_asciiSpace)] }
def UnitFunctionsSaid : Prop := unitFunctionsRow.holds Tryz.pinned (OpenSpec.ofChange unitFunctionsSpec)

/-- ITS FALSE NEIGHBOUR: 'it returns false'. Refute it at one input. -/
def unitFunctionsWrong : ChangeSpec := { name := "unitFunctions", fn := fun _ => fun
  | [d] => { results := [.lit (.bool false)], args := [d] }
  | _ => none }
def UnitFunctionsWrongFalsely : Prop := unitFunctionsRow.holds Tryz.pinned (OpenSpec.ofChange unitFunctionsWrong)

/-- 'oxbowlaw22.UnitAlone': WHATEVER THE INPUT: true; the input reads as it did. -/
def unitAloneSpec : ChangeSpec := { name := "unitAlone", fn := fun _ => fun
  | [d1, d2] => { results := [.lit (.bool true)], args := [d1, d2] }
  | _ => none }
def unitAloneRow : OpenClaim := { program := "ytllbbacnakoomaagreatdoor", sum := "845c12f4b66792a3d25a8b2ab99b469eef7b4622bafaaecaae622ea1466b7a99", func := "oxbow/oxbowlaw22.UnitAlone", spec := "unitAlone", inPlace := ["internal/abi.NoEscape", "sync/atomic.LoadUint32", "(*internal/sync.Mutex).Lock", "internal/race.Disable", "sync/atomic.CompareAndSwapInt32", "internal/race.Enable", "internal/race.Acquire", "(*internal/sync.Mutex).lockSlow", "internal/sync.runtime_canSpin", "internal/sync.runtime_doSpin", "internal/sync.throw", "internal/sync.runtime_nanotime", "internal/sync.runtime_SemacquireMutex", "sync/atomic.AddInt32", "(*internal/sync.Mutex).Unlock", "internal/race.ReleaseMerge", "(*internal/sync.Mutex).unlockSlow", "internal/sync.fatal", "internal/sync.runtime_Semrelease", "sync/atomic.StoreUint32"], unfollowed := true, recurses := true, named := ["strings.asciiSpace", "unicode.White_Space"], apart := false, laid := [("unicode.White_Space", laid_unicode_White_Space), ("strings.asciiSpace", laid_strings_asciiSpace)] }
def UnitAloneSaid : Prop := unitAloneRow.holds Tryz.pinned (OpenSpec.ofChange unitAloneSpec)

/-- ITS FALSE NEIGHBOUR: 'it returns false'. Refute it at one input. -/
def unitAloneWrong : ChangeSpec := { name := "unitAlone", fn := fun _ => fun
  | [d1, d2] => { results := [.lit (.bool false)], args := [d1, d2] }
  | _ => none }
def UnitAloneWrongFalsely : Prop := unitAloneRow.holds Tryz.pinned (OpenSpec.ofChange unitAloneWrong)

/- THE SECOND FORM. 'bulk': how many values and letters a reading holds, each counted each time it is reached (what is shared counts as often as it is met; a slice's spare places count too). A statement '..UptoSaid' is the law's where the arguments, and the package variables that the reading takes, are together of bulk at most 1048576: NARROWER than '..Said'. Prove '..Said' where nothing that the law and all that it calls make is longer than what came in: it says more and counts as full. Else prove '..UptoSaid'. A law counts once. -/
mutual
def uptoBulk {H : Type} : DataW H → Nat
  | .lit (.string bytes) => bytes.length + 1
  | .lit _ => 1
  | .nil => 1
  | .ptr d => uptoBulk d + 1
  | .slice elems spare => uptoBulkAll elems + uptoBulkAll spare + 1
  | .agg parts => uptoBulkAll parts + 1
  | .iface _ d => uptoBulk d + 1
  | .map entries => uptoBulkEntries entries + 1
  | .held _ => 1
def uptoBulkAll {H : Type} : List (DataW H) → Nat
  | [] => 0
  | d :: r => uptoBulk d + uptoBulkAll r
def uptoBulkEntries {H : Type} : List (Lit × DataW H) → Nat
  | [] => 0
  | x :: r => uptoBulkEntry x + uptoBulkEntries r
def uptoBulkEntry {H : Type} : Lit × DataW H → Nat
  | (.string bytes, d) => bytes.length + uptoBulk d + 1
  | (_, d) => uptoBulk d + 1
 end
def uptoSmall : (H : Type) → List (DataW H) → Bool := fun _ ds => decide (uptoBulkAll ds ≤ 1048576)
def OpenSpec.upto (s : _root_.Go.ChangeSpec) : _root_.Go.OpenSpec := { _root_.Go.OpenSpec.ofChange s with cond := some uptoSmall }

/-- 'oxbowlaw20.ExpressBinds', WHERE WHAT IT READS IS OF BULK AT MOST 1048576: true; the input reads as it did. -/
def expressBindsUptoRow : OpenClaim := { program := "ytllbbacnakoomaagreatdoor", sum := "845c12f4b66792a3d25a8b2ab99b469eef7b4622bafaaecaae622ea1466b7a99", func := "oxbow/oxbowlaw20.ExpressBinds", spec := "expressBinds", inPlace := ["internal/abi.NoEscape"], unfollowed := true, recurses := true, named := ["strings.asciiSpace", "unicode.White_Space"], apart := false, laid := [("unicode.White_Space", laid_unicode_White_Space), ("strings.asciiSpace", laid_strings_asciiSpace)], narrowed := true }
def ExpressBindsUptoSaid : Prop := expressBindsUptoRow.holds Tryz.pinned (OpenSpec.upto expressBindsSpec)

/-- 'oxbowlaw20.ExpressDeep', WHERE WHAT IT READS IS OF BULK AT MOST 1048576: true; the input reads as it did. -/
def expressDeepUptoRow : OpenClaim := { program := "ytllbbacnakoomaagreatdoor", sum := "845c12f4b66792a3d25a8b2ab99b469eef7b4622bafaaecaae622ea1466b7a99", func := "oxbow/oxbowlaw20.ExpressDeep", spec := "expressDeep", inPlace := ["internal/abi.NoEscape"], unfollowed := true, recurses := true, named := ["strings.asciiSpace", "unicode.White_Space"], apart := false, laid := [("unicode.White_Space", laid_unicode_White_Space), ("strings.asciiSpace", laid_strings_asciiSpace)], narrowed := true }
def ExpressDeepUptoSaid : Prop := expressDeepUptoRow.holds Tryz.pinned (OpenSpec.upto expressDeepSpec)

/-- 'oxbowlaw20.ExpressTypes', WHERE WHAT IT READS IS OF BULK AT MOST 1048576: true; the input reads as it did. -/
def expressTypesUptoRow : OpenClaim := { program := "ytllbbacnakoomaagreatdoor", sum := "845c12f4b66792a3d25a8b2ab99b469eef7b4622bafaaecaae622ea1466b7a99", func := "oxbow/oxbowlaw20.ExpressTypes", spec := "expressTypes", inPlace := ["internal/abi.NoEscape"], unfollowed := true, recurses := true, named := ["strings.asciiSpace", "unicode.White_Space"], apart := false, laid := [("unicode.White_Space", laid_unicode_White_Space), ("strings.asciiSpace", laid_strings_asciiSpace)], narrowed := true }
def ExpressTypesUptoSaid : Prop := expressTypesUptoRow.holds Tryz.pinned (OpenSpec.upto expressTypesSpec)

/-- 'oxbowlaw20.ExpressForms', WHERE WHAT IT READS IS OF BULK AT MOST 1048576: true; the input reads as it did. -/
def expressFormsUptoRow : OpenClaim := { program := "ytllbbacnakoomaagreatdoor", sum := "845c12f4b66792a3d25a8b2ab99b469eef7b4622bafaaecaae622ea1466b7a99", func := "oxbow/oxbowlaw20.ExpressForms", spec := "expressForms", inPlace := ["internal/abi.NoEscape"], unfollowed := true, recurses := true, named := ["strings.asciiSpace", "unicode.White_Space"], apart := false, laid := [("unicode.White_Space", laid_unicode_White_Space), ("strings.asciiSpace", laid_strings_asciiSpace)], narrowed := true }
def ExpressFormsUptoSaid : Prop := expressFormsUptoRow.holds Tryz.pinned (OpenSpec.upto expressFormsSpec)

/-- 'oxbowlaw20.ExpressStarts', WHERE WHAT IT READS IS OF BULK AT MOST 1048576: true; the input reads as it did. -/
def expressStartsUptoRow : OpenClaim := { program := "ytllbbacnakoomaagreatdoor", sum := "845c12f4b66792a3d25a8b2ab99b469eef7b4622bafaaecaae622ea1466b7a99", func := "oxbow/oxbowlaw20.ExpressStarts", spec := "expressStarts", inPlace := ["internal/abi.NoEscape"], unfollowed := true, recurses := true, named := ["strings.asciiSpace", "unicode.White_Space"], apart := false, laid := [("unicode.White_Space", laid_unicode_White_Space), ("strings.asciiSpace", laid_strings_asciiSpace)], narrowed := true }
def ExpressStartsUptoSaid : Prop := expressStartsUptoRow.holds Tryz.pinned (OpenSpec.upto expressStartsSpec)

/-- 'oxbowlaw20.ExpressDeclares', WHERE WHAT IT READS IS OF BULK AT MOST 1048576: true; the input reads as it did. -/
def expressDeclaresUptoRow : OpenClaim := { program := "ytllbbacnakoomaagreatdoor", sum := "845c12f4b66792a3d25a8b2ab99b469eef7b4622bafaaecaae622ea1466b7a99", func := "oxbow/oxbowlaw20.ExpressDeclares", spec := "expressDeclares", inPlace := ["internal/abi.NoEscape"], unfollowed := true, recurses := true, named := ["strings.asciiSpace", "unicode.White_Space"], apart := false, laid := [("unicode.White_Space", laid_unicode_White_Space), ("strings.asciiSpace", laid_strings_asciiSpace)], narrowed := true }
def ExpressDeclaresUptoSaid : Prop := expressDeclaresUptoRow.holds Tryz.pinned (OpenSpec.upto expressDeclaresSpec)

/-- 'oxbowlaw21.DeclareElse', WHERE WHAT IT READS IS OF BULK AT MOST 1048576: true; the input reads as it did. -/
def declareElseUptoRow : OpenClaim := { program := "ytllbbacnakoomaagreatdoor", sum := "845c12f4b66792a3d25a8b2ab99b469eef7b4622bafaaecaae622ea1466b7a99", func := "oxbow/oxbowlaw21.DeclareElse", spec := "declareElse", inPlace := ["internal/abi.NoEscape"], unfollowed := true, recurses := true, named := ["strings.asciiSpace", "unicode.White_Space"], apart := false, laid := [("unicode.White_Space", laid_unicode_White_Space), ("strings.asciiSpace", laid_strings_asciiSpace)], narrowed := true }
def DeclareElseUptoSaid : Prop := declareElseUptoRow.holds Tryz.pinned (OpenSpec.upto declareElseSpec)

/-- 'oxbowlaw21.DeclareForms', WHERE WHAT IT READS IS OF BULK AT MOST 1048576: true; the input reads as it did. -/
def declareFormsUptoRow : OpenClaim := { program := "ytllbbacnakoomaagreatdoor", sum := "845c12f4b66792a3d25a8b2ab99b469eef7b4622bafaaecaae622ea1466b7a99", func := "oxbow/oxbowlaw21.DeclareForms", spec := "declareForms", inPlace := ["internal/abi.NoEscape"], unfollowed := true, recurses := true, named := ["strings.asciiSpace", "unicode.White_Space"], apart := false, laid := [("unicode.White_Space", laid_unicode_White_Space), ("strings.asciiSpace", laid_strings_asciiSpace)], narrowed := true }
def DeclareFormsUptoSaid : Prop := declareFormsUptoRow.holds Tryz.pinned (OpenSpec.upto declareFormsSpec)

/-- 'oxbowlaw21.DeclareScopes', WHERE WHAT IT READS IS OF BULK AT MOST 1048576: true; the input reads as it did. -/
def declareScopesUptoRow : OpenClaim := { program := "ytllbbacnakoomaagreatdoor", sum := "845c12f4b66792a3d25a8b2ab99b469eef7b4622bafaaecaae622ea1466b7a99", func := "oxbow/oxbowlaw21.DeclareScopes", spec := "declareScopes", inPlace := ["internal/abi.NoEscape"], unfollowed := true, recurses := true, named := ["strings.asciiSpace", "unicode.White_Space"], apart := false, laid := [("unicode.White_Space", laid_unicode_White_Space), ("strings.asciiSpace", laid_strings_asciiSpace)], narrowed := true }
def DeclareScopesUptoSaid : Prop := declareScopesUptoRow.holds Tryz.pinned (OpenSpec.upto declareScopesSpec)

/-- 'oxbowlaw21.DeclareNames', WHERE WHAT IT READS IS OF BULK AT MOST 1048576: true; the input reads as it did. -/
def declareNamesUptoRow : OpenClaim := { program := "ytllbbacnakoomaagreatdoor", sum := "845c12f4b66792a3d25a8b2ab99b469eef7b4622bafaaecaae622ea1466b7a99", func := "oxbow/oxbowlaw21.DeclareNames", spec := "declareNames", inPlace := ["internal/abi.NoEscape"], unfollowed := true, recurses := true, named := ["strings.asciiSpace", "unicode.White_Space"], apart := false, laid := [("unicode.White_Space", laid_unicode_White_Space), ("strings.asciiSpace", laid_strings_asciiSpace)], narrowed := true }
def DeclareNamesUptoSaid : Prop := declareNamesUptoRow.holds Tryz.pinned (OpenSpec.upto declareNamesSpec)

/-- 'oxbowlaw21.DeclareOdd', WHERE WHAT IT READS IS OF BULK AT MOST 1048576: true; the input reads as it did. -/
def declareOddUptoRow : OpenClaim := { program := "ytllbbacnakoomaagreatdoor", sum := "845c12f4b66792a3d25a8b2ab99b469eef7b4622bafaaecaae622ea1466b7a99", func := "oxbow/oxbowlaw21.DeclareOdd", spec := "declareOdd", inPlace := ["internal/abi.NoEscape"], unfollowed := true, recurses := true, named := ["strings.asciiSpace", "unicode.White_Space"], apart := false, laid := [("unicode.White_Space", laid_unicode_White_Space), ("strings.asciiSpace", laid_strings_asciiSpace)], narrowed := true }
def DeclareOddUptoSaid : Prop := declareOddUptoRow.holds Tryz.pinned (OpenSpec.upto declareOddSpec)

/-- 'oxbowlaw22.UnitCovers', WHERE WHAT IT READS IS OF BULK AT MOST 1048576: true; the input reads as it did. -/
def unitCoversUptoRow : OpenClaim := { program := "ytllbbacnakoomaagreatdoor", sum := "845c12f4b66792a3d25a8b2ab99b469eef7b4622bafaaecaae622ea1466b7a99", func := "oxbow/oxbowlaw22.UnitCovers", spec := "unitCovers", inPlace := ["internal/abi.NoEscape"], unfollowed := true, recurses := true, named := ["strings.asciiSpace", "unicode.White_Space"], apart := false, laid := [("unicode.White_Space", laid_unicode_White_Space), ("strings.asciiSpace", laid_strings_asciiSpace)], narrowed := true }
def UnitCoversUptoSaid : Prop := unitCoversUptoRow.holds Tryz.pinned (OpenSpec.upto unitCoversSpec)

/-- 'oxbowlaw22.UnitErrors', WHERE WHAT IT READS IS OF BULK AT MOST 1048576: true; the input reads as it did. -/
def unitErrorsUptoRow : OpenClaim := { program := "ytllbbacnakoomaagreatdoor", sum := "845c12f4b66792a3d25a8b2ab99b469eef7b4622bafaaecaae622ea1466b7a99", func := "oxbow/oxbowlaw22.UnitErrors", spec := "unitErrors", inPlace := ["internal/abi.NoEscape"], unfollowed := true, recurses := true, named := ["strings.asciiSpace", "unicode.White_Space"], apart := false, laid := [("unicode.White_Space", laid_unicode_White_Space), ("strings.asciiSpace", laid_strings_asciiSpace)], narrowed := true }
def UnitErrorsUptoSaid : Prop := unitErrorsUptoRow.holds Tryz.pinned (OpenSpec.upto unitErrorsSpec)

/-- 'oxbowlaw22.UnitFunctions', WHERE WHAT IT READS IS OF BULK AT MOST 1048576: true; the input reads as it did. -/
def unitFunctionsUptoRow : OpenClaim := { program := "ytllbbacnakoomaagreatdoor", sum := "845c12f4b66792a3d25a8b2ab99b469eef7b4622bafaaecaae622ea1466b7a99", func := "oxbow/oxbowlaw22.UnitFunctions", spec := "unitFunctions", inPlace := ["internal/abi.NoEscape"], unfollowed := true, recurses := true, named := ["strings.asciiSpace", "unicode.White_Space"], apart := false, laid := [("unicode.White_Space", laid_unicode_White_Space), ("strings.asciiSpace", laid_strings_asciiSpace)], narrowed := true }
def UnitFunctionsUptoSaid : Prop := unitFunctionsUptoRow.holds Tryz.pinned (OpenSpec.upto unitFunctionsSpec)

/-- 'oxbowlaw22.UnitAlone', WHERE WHAT IT READS IS OF BULK AT MOST 1048576: true; the input reads as it did. -/
def unitAloneUptoRow : OpenClaim := { program := "ytllbbacnakoomaagreatdoor", sum := "845c12f4b66792a3d25a8b2ab99b469eef7b4622bafaaecaae622ea1466b7a99", func := "oxbow/oxbowlaw22.UnitAlone", spec := "unitAlone", inPlace := ["internal/abi.NoEscape", "sync/atomic.LoadUint32", "(*internal/sync.Mutex).Lock", "internal/race.Disable", "sync/atomic.CompareAndSwapInt32", "internal/race.Enable", "internal/race.Acquire", "(*internal/sync.Mutex).lockSlow", "internal/sync.runtime_canSpin", "internal/sync.runtime_doSpin", "internal/sync.throw", "internal/sync.runtime_nanotime", "internal/sync.runtime_SemacquireMutex", "sync/atomic.AddInt32", "(*internal/sync.Mutex).Unlock", "internal/race.ReleaseMerge", "(*internal/sync.Mutex).unlockSlow", "internal/sync.fatal", "internal/sync.runtime_Semrelease", "sync/atomic.StoreUint32"], unfollowed := true, recurses := true, named := ["strings.asciiSpace", "unicode.White_Space"], apart := false, laid := [("unicode.White_Space", laid_unicode_White_Space), ("strings.asciiSpace", laid_strings_asciiSpace)], narrowed := true }
def UnitAloneUptoSaid : Prop := unitAloneUptoRow.holds Tryz.pinned (OpenSpec.upto unitAloneSpec)

end Rows
end Go.Proofs.YtllbbacnakoomaaGreatDoor
