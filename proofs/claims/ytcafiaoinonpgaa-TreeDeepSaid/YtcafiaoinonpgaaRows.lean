/-
  No cell of these rows narrows 'for every input' (looked for: loops, veiled, ifaces, maps, wideKeys, modest, calm, conditions, laid).
  DERIVED. THE GIVEN ROWS OF THIS SEAT. 6 by the template 'for every input the law returns true; each argument reads behind the call as it read before'; 0 by the template 'total and deterministic' (their statements: YtcafiaoinonpgaaTotals.lean).
  GIVEN WITH THE SEED: the statements are not yours to turn. If you find one false, say at which input.
  Laid BY PROGRAM, IN A SANDBOX (cutbox-rows.mjs): the forced cells as the released guide's own fill.sh prints them over the translation 39e711bd1ea309b2… (all of the seat's roots in one cut). By AI agents, Wed Nov 11 2026. No macro, syntax, notation, axiom, sorry.
-/
import Derived.Test.YtcafiaoinonpgaaChecked
import GoSem.Claim
import GoSem.ClaimJoined
import GoSem.ClaimMapViews
import Derived.JoinedTies
import Derived.KernelRfl
namespace Go.Proofs.Ytcafiaoinonpgaa
/- THE CELL 'sum', in the pinned program and in every row, IS THE sha256 OF THE DUMP (.gsa) THAT YtcafiaoinonpgaaProg.lean LOADS. Nothing in Lean hashes anything: it is a label: what it is worth is what the hold of that sum in a sandbox is worth. -/
noncomputable def Try.pinned : Pinned := { name := "ytcafiaoinonpgaa", sum := "39e711bd1ea309b271ebb138fae1321ef6b193c283695a67ab1e01cf0a402afb", checked := Try.checked }
namespace Rows
def none {H : Type} : Left H := { results := [], args := [] }

/-- 'oxbowlaw4.PhaseChars': WHATEVER THE INPUT: true; the input reads as it did. -/
def phaseCharsSpec : ChangeSpec := { name := "phaseChars", fn := fun _ => fun
  | [d1, d2, d3, d4] => { results := [.lit (.bool true)], args := [d1, d2, d3, d4] }
  | _ => none }
def phaseCharsRow : OpenClaim := { program := "ytcafiaoinonpgaa", sum := "39e711bd1ea309b271ebb138fae1321ef6b193c283695a67ab1e01cf0a402afb", func := "oxbow/oxbowlaw4.PhaseChars", spec := "phaseChars", inPlace := ["internal/bytealg.IndexByteString", "internal/abi.NoEscape"], apart := false }
def PhaseCharsSaid : Prop := phaseCharsRow.holds Try.pinned (OpenSpec.ofChange phaseCharsSpec)

/-- ITS FALSE NEIGHBOUR: 'it returns false'. Refute it at one input. -/
def phaseCharsWrong : ChangeSpec := { name := "phaseChars", fn := fun _ => fun
  | [d1, d2, d3, d4] => { results := [.lit (.bool false)], args := [d1, d2, d3, d4] }
  | _ => none }
def PhaseCharsWrongFalsely : Prop := phaseCharsRow.holds Try.pinned (OpenSpec.ofChange phaseCharsWrong)

/-- 'oxbowlaw4.PhaseOrder': WHATEVER THE INPUT: true; the input reads as it did. -/
def phaseOrderSpec : ChangeSpec := { name := "phaseOrder", fn := fun _ => fun
  | [d] => { results := [.lit (.bool true)], args := [d] }
  | _ => none }
def phaseOrderRow : OpenClaim := { program := "ytcafiaoinonpgaa", sum := "39e711bd1ea309b271ebb138fae1321ef6b193c283695a67ab1e01cf0a402afb", func := "oxbow/oxbowlaw4.PhaseOrder", spec := "phaseOrder", inPlace := ["internal/bytealg.IndexByteString", "internal/abi.NoEscape"], apart := false }
def PhaseOrderSaid : Prop := phaseOrderRow.holds Try.pinned (OpenSpec.ofChange phaseOrderSpec)

/-- ITS FALSE NEIGHBOUR: 'it returns false'. Refute it at one input. -/
def phaseOrderWrong : ChangeSpec := { name := "phaseOrder", fn := fun _ => fun
  | [d] => { results := [.lit (.bool false)], args := [d] }
  | _ => none }
def PhaseOrderWrongFalsely : Prop := phaseOrderRow.holds Try.pinned (OpenSpec.ofChange phaseOrderWrong)

/-- 'oxbowlaw4.PhaseParts': WHATEVER THE INPUT: true; the input reads as it did. -/
def phasePartsSpec : ChangeSpec := { name := "phaseParts", fn := fun _ => fun
  | [d1, d2] => { results := [.lit (.bool true)], args := [d1, d2] }
  | _ => none }
def phasePartsRow : OpenClaim := { program := "ytcafiaoinonpgaa", sum := "39e711bd1ea309b271ebb138fae1321ef6b193c283695a67ab1e01cf0a402afb", func := "oxbow/oxbowlaw4.PhaseParts", spec := "phaseParts", inPlace := ["internal/bytealg.IndexByteString", "internal/abi.NoEscape"], apart := false }
def PhasePartsSaid : Prop := phasePartsRow.holds Try.pinned (OpenSpec.ofChange phasePartsSpec)

/-- ITS FALSE NEIGHBOUR: 'it returns false'. Refute it at one input. -/
def phasePartsWrong : ChangeSpec := { name := "phaseParts", fn := fun _ => fun
  | [d1, d2] => { results := [.lit (.bool false)], args := [d1, d2] }
  | _ => none }
def PhasePartsWrongFalsely : Prop := phasePartsRow.holds Try.pinned (OpenSpec.ofChange phasePartsWrong)

/-- 'oxbowlaw4.PhaseSigns': WHATEVER THE INPUT: true; the input reads as it did. -/
def phaseSignsSpec : ChangeSpec := { name := "phaseSigns", fn := fun _ => fun
  | [d1, d2, d3] => { results := [.lit (.bool true)], args := [d1, d2, d3] }
  | _ => none }
def phaseSignsRow : OpenClaim := { program := "ytcafiaoinonpgaa", sum := "39e711bd1ea309b271ebb138fae1321ef6b193c283695a67ab1e01cf0a402afb", func := "oxbow/oxbowlaw4.PhaseSigns", spec := "phaseSigns", inPlace := ["internal/bytealg.IndexByteString", "internal/abi.NoEscape"], apart := false }
def PhaseSignsSaid : Prop := phaseSignsRow.holds Try.pinned (OpenSpec.ofChange phaseSignsSpec)

/-- ITS FALSE NEIGHBOUR: 'it returns false'. Refute it at one input. -/
def phaseSignsWrong : ChangeSpec := { name := "phaseSigns", fn := fun _ => fun
  | [d1, d2, d3] => { results := [.lit (.bool false)], args := [d1, d2, d3] }
  | _ => none }
def PhaseSignsWrongFalsely : Prop := phaseSignsRow.holds Try.pinned (OpenSpec.ofChange phaseSignsWrong)

/-- 'oxbowlaw19.TreeDeep': WHATEVER THE INPUT: true; the input reads as it did. -/
def treeDeepSpec : ChangeSpec := { name := "treeDeep", fn := fun _ => fun
  | [d1, d2, d3] => { results := [.lit (.bool true)], args := [d1, d2, d3] }
  | _ => none }
def treeDeepRow : OpenClaim := { program := "ytcafiaoinonpgaa", sum := "39e711bd1ea309b271ebb138fae1321ef6b193c283695a67ab1e01cf0a402afb", func := "oxbow/oxbowlaw19.TreeDeep", spec := "treeDeep", inPlace := ["internal/abi.NoEscape"], unfollowed := true, recurses := true, apart := false }
def TreeDeepSaid : Prop := treeDeepRow.holds Try.pinned (OpenSpec.ofChange treeDeepSpec)

/-- ITS FALSE NEIGHBOUR: 'it returns false'. Refute it at one input. -/
def treeDeepWrong : ChangeSpec := { name := "treeDeep", fn := fun _ => fun
  | [d1, d2, d3] => { results := [.lit (.bool false)], args := [d1, d2, d3] }
  | _ => none }
def TreeDeepWrongFalsely : Prop := treeDeepRow.holds Try.pinned (OpenSpec.ofChange treeDeepWrong)

/-- 'oxbowlaw19.TreeFinds': WHATEVER THE INPUT: true; the input reads as it did. -/
def treeFindsSpec : ChangeSpec := { name := "treeFinds", fn := fun _ => fun
  | [d1, d2] => { results := [.lit (.bool true)], args := [d1, d2] }
  | _ => none }
def treeFindsRow : OpenClaim := { program := "ytcafiaoinonpgaa", sum := "39e711bd1ea309b271ebb138fae1321ef6b193c283695a67ab1e01cf0a402afb", func := "oxbow/oxbowlaw19.TreeFinds", spec := "treeFinds", inPlace := ["internal/abi.NoEscape"], unfollowed := true, recurses := true, apart := false }
def TreeFindsSaid : Prop := treeFindsRow.holds Try.pinned (OpenSpec.ofChange treeFindsSpec)

/-- ITS FALSE NEIGHBOUR: 'it returns false'. Refute it at one input. -/
def treeFindsWrong : ChangeSpec := { name := "treeFinds", fn := fun _ => fun
  | [d1, d2] => { results := [.lit (.bool false)], args := [d1, d2] }
  | _ => none }
def TreeFindsWrongFalsely : Prop := treeFindsRow.holds Try.pinned (OpenSpec.ofChange treeFindsWrong)

/- THE SECOND FORM. 'bulk': how many values and letters a reading holds, each counted each time it is reached (what is shared counts as often as it is met; a slice's spare places count too). A statement '..UptoSaid' is the law's where the arguments, and the package variables that the reading takes, are together of bulk at most 1048576: NARROWER than '..Said'. Prove '..Said' where nothing that the law and all that it calls make is longer than what came in: it says more and counts as full. Else prove '..UptoSaid'. A law counts once. -/
mutual
def uptoBulk {H : Type} : DataW H → Nat
  | .lit (.string bytes) => bytes.length + 1
  | .lit _ => 1
  | .nil => 1
  | .ptr d => uptoBulk d + 1
  | .slice elems spare => uptoBulkAll elems + uptoBulkAll spare + 1
  | .agg parts => uptoBulkAll parts + 1
  | .iface _ d => uptoBulk d + 1
  | .map entries => uptoBulkEntries entries + 1
  | .held _ => 1
def uptoBulkAll {H : Type} : List (DataW H) → Nat
  | [] => 0
  | d :: r => uptoBulk d + uptoBulkAll r
def uptoBulkEntries {H : Type} : List (Lit × DataW H) → Nat
  | [] => 0
  | x :: r => uptoBulkEntry x + uptoBulkEntries r
def uptoBulkEntry {H : Type} : Lit × DataW H → Nat
  | (.string bytes, d) => bytes.length + uptoBulk d + 1
  | (_, d) => uptoBulk d + 1
 end
def uptoSmall : (H : Type) → List (DataW H) → Bool := fun _ ds => decide (uptoBulkAll ds ≤ 1048576)
def OpenSpec.upto (s : _root_.Go.ChangeSpec) : _root_.Go.OpenSpec := { _root_.Go.OpenSpec.ofChange s with cond := some uptoSmall }

/-- 'oxbowlaw4.PhaseChars', WHERE WHAT IT READS IS OF BULK AT MOST 1048576: true; the input reads as it did. -/
def phaseCharsUptoRow : OpenClaim := { program := "ytcafiaoinonpgaa", sum := "39e711bd1ea309b271ebb138fae1321ef6b193c283695a67ab1e01cf0a402afb", func := "oxbow/oxbowlaw4.PhaseChars", spec := "phaseChars", inPlace := ["internal/bytealg.IndexByteString", "internal/abi.NoEscape"], apart := false, narrowed := true }
def PhaseCharsUptoSaid : Prop := phaseCharsUptoRow.holds Try.pinned (OpenSpec.upto phaseCharsSpec)

/-- 'oxbowlaw4.PhaseOrder', WHERE WHAT IT READS IS OF BULK AT MOST 1048576: true; the input reads as it did. -/
def phaseOrderUptoRow : OpenClaim := { program := "ytcafiaoinonpgaa", sum := "39e711bd1ea309b271ebb138fae1321ef6b193c283695a67ab1e01cf0a402afb", func := "oxbow/oxbowlaw4.PhaseOrder", spec := "phaseOrder", inPlace := ["internal/bytealg.IndexByteString", "internal/abi.NoEscape"], apart := false, narrowed := true }
def PhaseOrderUptoSaid : Prop := phaseOrderUptoRow.holds Try.pinned (OpenSpec.upto phaseOrderSpec)

/-- 'oxbowlaw4.PhaseParts', WHERE WHAT IT READS IS OF BULK AT MOST 1048576: true; the input reads as it did. -/
def phasePartsUptoRow : OpenClaim := { program := "ytcafiaoinonpgaa", sum := "39e711bd1ea309b271ebb138fae1321ef6b193c283695a67ab1e01cf0a402afb", func := "oxbow/oxbowlaw4.PhaseParts", spec := "phaseParts", inPlace := ["internal/bytealg.IndexByteString", "internal/abi.NoEscape"], apart := false, narrowed := true }
def PhasePartsUptoSaid : Prop := phasePartsUptoRow.holds Try.pinned (OpenSpec.upto phasePartsSpec)

/-- 'oxbowlaw4.PhaseSigns', WHERE WHAT IT READS IS OF BULK AT MOST 1048576: true; the input reads as it did. -/
def phaseSignsUptoRow : OpenClaim := { program := "ytcafiaoinonpgaa", sum := "39e711bd1ea309b271ebb138fae1321ef6b193c283695a67ab1e01cf0a402afb", func := "oxbow/oxbowlaw4.PhaseSigns", spec := "phaseSigns", inPlace := ["internal/bytealg.IndexByteString", "internal/abi.NoEscape"], apart := false, narrowed := true }
def PhaseSignsUptoSaid : Prop := phaseSignsUptoRow.holds Try.pinned (OpenSpec.upto phaseSignsSpec)

/-- 'oxbowlaw19.TreeDeep', WHERE WHAT IT READS IS OF BULK AT MOST 1048576: true; the input reads as it did. -/
def treeDeepUptoRow : OpenClaim := { program := "ytcafiaoinonpgaa", sum := "39e711bd1ea309b271ebb138fae1321ef6b193c283695a67ab1e01cf0a402afb", func := "oxbow/oxbowlaw19.TreeDeep", spec := "treeDeep", inPlace := ["internal/abi.NoEscape"], unfollowed := true, recurses := true, apart := false, narrowed := true }
def TreeDeepUptoSaid : Prop := treeDeepUptoRow.holds Try.pinned (OpenSpec.upto treeDeepSpec)

/-- 'oxbowlaw19.TreeFinds', WHERE WHAT IT READS IS OF BULK AT MOST 1048576: true; the input reads as it did. -/
def treeFindsUptoRow : OpenClaim := { program := "ytcafiaoinonpgaa", sum := "39e711bd1ea309b271ebb138fae1321ef6b193c283695a67ab1e01cf0a402afb", func := "oxbow/oxbowlaw19.TreeFinds", spec := "treeFinds", inPlace := ["internal/abi.NoEscape"], unfollowed := true, recurses := true, apart := false, narrowed := true }
def TreeFindsUptoSaid : Prop := treeFindsUptoRow.holds Try.pinned (OpenSpec.upto treeFindsSpec)

end Rows
end Go.Proofs.Ytcafiaoinonpgaa
