/-
  No cell of these rows narrows 'for every input' (looked for: loops, veiled, ifaces, maps, wideKeys, modest, calm, conditions, laid).
  DERIVED. THE GIVEN ROWS OF THIS SEAT. 9 by the template 'for every input the law returns true; each argument reads behind the call as it read before'; 0 by the template 'total and deterministic' (their statements: YtfaoamdlknlgpaaGreatTotals.lean).
  GIVEN WITH THE SEED: the statements are not yours to turn. If you find one false, say at which input.
  Laid BY PROGRAM, IN A SANDBOX (cutbox-rows.mjs): the forced cells as the released guide's own fill.sh prints them over the translation 71c19fb20fd738e2… (all of the seat's roots in one cut). By AI agents, Wed Nov 11 2026. No macro, syntax, notation, axiom, sorry.
-/
import Derived.Test.YtfaoamdlknlgpaaGreatChecked
import GoSem.Claim
import GoSem.ClaimJoined
import GoSem.ClaimMapViews
import Derived.JoinedTies
import Derived.KernelRfl
namespace Go.Proofs.YtfaoamdlknlgpaaGreat
/- THE CELL 'sum', in the pinned program and in every row, IS THE sha256 OF THE DUMP (.gsa) THAT YtfaoamdlknlgpaaGreatProg.lean LOADS. Nothing in Lean hashes anything: it is a label: what it is worth is what the hold of that sum in a sandbox is worth. -/
noncomputable def Tryz.pinned : Pinned := { name := "ytfaoamdlknlgpaagreat", sum := "71c19fb20fd738e2b4b57f0d062d5e06d208f299e9d838a06f75033066dc88f5", checked := Tryz.checked }
namespace Rows
def none {H : Type} : Left H := { results := [], args := [] }

/-- 'oxbowlaw10.ArgsTexts': WHATEVER THE INPUT: true; the input reads as it did. -/
def argsTextsSpec : ChangeSpec := { name := "argsTexts", fn := fun _ => fun
  | [d1, d2] => { results := [.lit (.bool true)], args := [d1, d2] }
  | _ => none }
def argsTextsRow : OpenClaim := { program := "ytfaoamdlknlgpaagreat", sum := "71c19fb20fd738e2b4b57f0d062d5e06d208f299e9d838a06f75033066dc88f5", func := "oxbow/oxbowlaw10.ArgsTexts", spec := "argsTexts", inPlace := ["sync/atomic.LoadUint32", "(*internal/sync.Mutex).Lock", "internal/race.Disable", "sync/atomic.CompareAndSwapInt32", "internal/race.Enable", "internal/race.Acquire", "(*internal/sync.Mutex).lockSlow", "internal/sync.runtime_canSpin", "internal/sync.runtime_doSpin", "internal/sync.throw", "internal/sync.runtime_nanotime", "internal/sync.runtime_SemacquireMutex", "sync/atomic.AddInt32", "(*internal/sync.Mutex).Unlock", "internal/race.ReleaseMerge", "(*internal/sync.Mutex).unlockSlow", "internal/sync.fatal", "internal/sync.runtime_Semrelease", "sync/atomic.StoreUint32", "internal/bytealg.IndexByteString", "internal/abi.NoEscape"], unfollowed := true, recurses := true, apart := false }
def ArgsTextsSaid : Prop := argsTextsRow.holds Tryz.pinned (OpenSpec.ofChange argsTextsSpec)

/-- ITS FALSE NEIGHBOUR: 'it returns false'. Refute it at one input. -/
def argsTextsWrong : ChangeSpec := { name := "argsTexts", fn := fun _ => fun
  | [d1, d2] => { results := [.lit (.bool false)], args := [d1, d2] }
  | _ => none }
def ArgsTextsWrongFalsely : Prop := argsTextsRow.holds Tryz.pinned (OpenSpec.ofChange argsTextsWrong)

/-- 'oxbowlaw10.ArgsQuotes': WHATEVER THE INPUT: true; the input reads as it did. -/
def argsQuotesSpec : ChangeSpec := { name := "argsQuotes", fn := fun _ => fun
  | [d] => { results := [.lit (.bool true)], args := [d] }
  | _ => none }
def argsQuotesRow : OpenClaim := { program := "ytfaoamdlknlgpaagreat", sum := "71c19fb20fd738e2b4b57f0d062d5e06d208f299e9d838a06f75033066dc88f5", func := "oxbow/oxbowlaw10.ArgsQuotes", spec := "argsQuotes", inPlace := ["sync/atomic.LoadUint32", "(*internal/sync.Mutex).Lock", "internal/race.Disable", "sync/atomic.CompareAndSwapInt32", "internal/race.Enable", "internal/race.Acquire", "(*internal/sync.Mutex).lockSlow", "internal/sync.runtime_canSpin", "internal/sync.runtime_doSpin", "internal/sync.throw", "internal/sync.runtime_nanotime", "internal/sync.runtime_SemacquireMutex", "sync/atomic.AddInt32", "(*internal/sync.Mutex).Unlock", "internal/race.ReleaseMerge", "(*internal/sync.Mutex).unlockSlow", "internal/sync.fatal", "internal/sync.runtime_Semrelease", "sync/atomic.StoreUint32", "internal/bytealg.IndexByteString", "internal/abi.NoEscape"], unfollowed := true, recurses := true, apart := false }
def ArgsQuotesSaid : Prop := argsQuotesRow.holds Tryz.pinned (OpenSpec.ofChange argsQuotesSpec)

/-- ITS FALSE NEIGHBOUR: 'it returns false'. Refute it at one input. -/
def argsQuotesWrong : ChangeSpec := { name := "argsQuotes", fn := fun _ => fun
  | [d] => { results := [.lit (.bool false)], args := [d] }
  | _ => none }
def ArgsQuotesWrongFalsely : Prop := argsQuotesRow.holds Tryz.pinned (OpenSpec.ofChange argsQuotesWrong)

/-- 'oxbowlaw10.ArgsNested': WHATEVER THE INPUT: true; the input reads as it did. -/
def argsNestedSpec : ChangeSpec := { name := "argsNested", fn := fun _ => fun
  | [d1, d2] => { results := [.lit (.bool true)], args := [d1, d2] }
  | _ => none }
def argsNestedRow : OpenClaim := { program := "ytfaoamdlknlgpaagreat", sum := "71c19fb20fd738e2b4b57f0d062d5e06d208f299e9d838a06f75033066dc88f5", func := "oxbow/oxbowlaw10.ArgsNested", spec := "argsNested", inPlace := ["sync/atomic.LoadUint32", "(*internal/sync.Mutex).Lock", "internal/race.Disable", "sync/atomic.CompareAndSwapInt32", "internal/race.Enable", "internal/race.Acquire", "(*internal/sync.Mutex).lockSlow", "internal/sync.runtime_canSpin", "internal/sync.runtime_doSpin", "internal/sync.throw", "internal/sync.runtime_nanotime", "internal/sync.runtime_SemacquireMutex", "sync/atomic.AddInt32", "(*internal/sync.Mutex).Unlock", "internal/race.ReleaseMerge", "(*internal/sync.Mutex).unlockSlow", "internal/sync.fatal", "internal/sync.runtime_Semrelease", "sync/atomic.StoreUint32", "internal/bytealg.IndexByteString", "internal/abi.NoEscape"], unfollowed := true, recurses := true, apart := false }
def ArgsNestedSaid : Prop := argsNestedRow.holds Tryz.pinned (OpenSpec.ofChange argsNestedSpec)

/-- ITS FALSE NEIGHBOUR: 'it returns false'. Refute it at one input. -/
def argsNestedWrong : ChangeSpec := { name := "argsNested", fn := fun _ => fun
  | [d1, d2] => { results := [.lit (.bool false)], args := [d1, d2] }
  | _ => none }
def ArgsNestedWrongFalsely : Prop := argsNestedRow.holds Tryz.pinned (OpenSpec.ofChange argsNestedWrong)

/-- 'oxbowlaw10.ArgsCollect': WHATEVER THE INPUT: true; the input reads as it did. -/
def argsCollectSpec : ChangeSpec := { name := "argsCollect", fn := fun _ => fun
  | [d1, d2] => { results := [.lit (.bool true)], args := [d1, d2] }
  | _ => none }
def argsCollectRow : OpenClaim := { program := "ytfaoamdlknlgpaagreat", sum := "71c19fb20fd738e2b4b57f0d062d5e06d208f299e9d838a06f75033066dc88f5", func := "oxbow/oxbowlaw10.ArgsCollect", spec := "argsCollect", inPlace := ["sync/atomic.LoadUint32", "(*internal/sync.Mutex).Lock", "internal/race.Disable", "sync/atomic.CompareAndSwapInt32", "internal/race.Enable", "internal/race.Acquire", "(*internal/sync.Mutex).lockSlow", "internal/sync.runtime_canSpin", "internal/sync.runtime_doSpin", "internal/sync.throw", "internal/sync.runtime_nanotime", "internal/sync.runtime_SemacquireMutex", "sync/atomic.AddInt32", "(*internal/sync.Mutex).Unlock", "internal/race.ReleaseMerge", "(*internal/sync.Mutex).unlockSlow", "internal/sync.fatal", "internal/sync.runtime_Semrelease", "sync/atomic.StoreUint32", "internal/bytealg.IndexByteString", "internal/abi.NoEscape"], unfollowed := true, recurses := true, apart := false }
def ArgsCollectSaid : Prop := argsCollectRow.holds Tryz.pinned (OpenSpec.ofChange argsCollectSpec)

/-- ITS FALSE NEIGHBOUR: 'it returns false'. Refute it at one input. -/
def argsCollectWrong : ChangeSpec := { name := "argsCollect", fn := fun _ => fun
  | [d1, d2] => { results := [.lit (.bool false)], args := [d1, d2] }
  | _ => none }
def ArgsCollectWrongFalsely : Prop := argsCollectRow.holds Tryz.pinned (OpenSpec.ofChange argsCollectWrong)

/-- 'oxbowlaw10.ArgsWhole': WHATEVER THE INPUT: true; the input reads as it did. -/
def argsWholeSpec : ChangeSpec := { name := "argsWhole", fn := fun _ => fun
  | [d1, d2] => { results := [.lit (.bool true)], args := [d1, d2] }
  | _ => none }
def argsWholeRow : OpenClaim := { program := "ytfaoamdlknlgpaagreat", sum := "71c19fb20fd738e2b4b57f0d062d5e06d208f299e9d838a06f75033066dc88f5", func := "oxbow/oxbowlaw10.ArgsWhole", spec := "argsWhole", inPlace := ["sync/atomic.LoadUint32", "(*internal/sync.Mutex).Lock", "internal/race.Disable", "sync/atomic.CompareAndSwapInt32", "internal/race.Enable", "internal/race.Acquire", "(*internal/sync.Mutex).lockSlow", "internal/sync.runtime_canSpin", "internal/sync.runtime_doSpin", "internal/sync.throw", "internal/sync.runtime_nanotime", "internal/sync.runtime_SemacquireMutex", "sync/atomic.AddInt32", "(*internal/sync.Mutex).Unlock", "internal/race.ReleaseMerge", "(*internal/sync.Mutex).unlockSlow", "internal/sync.fatal", "internal/sync.runtime_Semrelease", "sync/atomic.StoreUint32", "internal/bytealg.IndexByteString", "internal/abi.NoEscape"], unfollowed := true, recurses := true, apart := false }
def ArgsWholeSaid : Prop := argsWholeRow.holds Tryz.pinned (OpenSpec.ofChange argsWholeSpec)

/-- ITS FALSE NEIGHBOUR: 'it returns false'. Refute it at one input. -/
def argsWholeWrong : ChangeSpec := { name := "argsWhole", fn := fun _ => fun
  | [d1, d2] => { results := [.lit (.bool false)], args := [d1, d2] }
  | _ => none }
def ArgsWholeWrongFalsely : Prop := argsWholeRow.holds Tryz.pinned (OpenSpec.ofChange argsWholeWrong)

/-- 'oxbowlaw11.SubstPaste': WHATEVER THE INPUT: true; the input reads as it did. -/
def substPasteSpec : ChangeSpec := { name := "substPaste", fn := fun _ => fun
  | [d1, d2] => { results := [.lit (.bool true)], args := [d1, d2] }
  | _ => none }
def substPasteRow : OpenClaim := { program := "ytfaoamdlknlgpaagreat", sum := "71c19fb20fd738e2b4b57f0d062d5e06d208f299e9d838a06f75033066dc88f5", func := "oxbow/oxbowlaw11.SubstPaste", spec := "substPaste", inPlace := ["internal/abi.NoEscape", "sync/atomic.LoadUint32", "(*internal/sync.Mutex).Lock", "internal/race.Disable", "sync/atomic.CompareAndSwapInt32", "internal/race.Enable", "internal/race.Acquire", "(*internal/sync.Mutex).lockSlow", "internal/sync.runtime_canSpin", "internal/sync.runtime_doSpin", "internal/sync.throw", "internal/sync.runtime_nanotime", "internal/sync.runtime_SemacquireMutex", "sync/atomic.AddInt32", "(*internal/sync.Mutex).Unlock", "internal/race.ReleaseMerge", "(*internal/sync.Mutex).unlockSlow", "internal/sync.fatal", "internal/sync.runtime_Semrelease", "sync/atomic.StoreUint32", "internal/bytealg.IndexByteString"], unfollowed := true, recurses := true, apart := false }
def SubstPasteSaid : Prop := substPasteRow.holds Tryz.pinned (OpenSpec.ofChange substPasteSpec)

/-- ITS FALSE NEIGHBOUR: 'it returns false'. Refute it at one input. -/
def substPasteWrong : ChangeSpec := { name := "substPaste", fn := fun _ => fun
  | [d1, d2] => { results := [.lit (.bool false)], args := [d1, d2] }
  | _ => none }
def SubstPasteWrongFalsely : Prop := substPasteRow.holds Tryz.pinned (OpenSpec.ofChange substPasteWrong)

/-- 'oxbowlaw11.SubstRow': WHATEVER THE INPUT: true; the input reads as it did. -/
def substRowSpec : ChangeSpec := { name := "substRow", fn := fun _ => fun
  | [d] => { results := [.lit (.bool true)], args := [d] }
  | _ => none }
def substRowRow : OpenClaim := { program := "ytfaoamdlknlgpaagreat", sum := "71c19fb20fd738e2b4b57f0d062d5e06d208f299e9d838a06f75033066dc88f5", func := "oxbow/oxbowlaw11.SubstRow", spec := "substRow", inPlace := ["internal/abi.NoEscape", "sync/atomic.LoadUint32", "(*internal/sync.Mutex).Lock", "internal/race.Disable", "sync/atomic.CompareAndSwapInt32", "internal/race.Enable", "internal/race.Acquire", "(*internal/sync.Mutex).lockSlow", "internal/sync.runtime_canSpin", "internal/sync.runtime_doSpin", "internal/sync.throw", "internal/sync.runtime_nanotime", "internal/sync.runtime_SemacquireMutex", "sync/atomic.AddInt32", "(*internal/sync.Mutex).Unlock", "internal/race.ReleaseMerge", "(*internal/sync.Mutex).unlockSlow", "internal/sync.fatal", "internal/sync.runtime_Semrelease", "sync/atomic.StoreUint32", "internal/bytealg.IndexByteString"], unfollowed := true, recurses := true, apart := false }
def SubstRowSaid : Prop := substRowRow.holds Tryz.pinned (OpenSpec.ofChange substRowSpec)

/-- ITS FALSE NEIGHBOUR: 'it returns false'. Refute it at one input. -/
def substRowWrong : ChangeSpec := { name := "substRow", fn := fun _ => fun
  | [d] => { results := [.lit (.bool false)], args := [d] }
  | _ => none }
def SubstRowWrongFalsely : Prop := substRowRow.holds Tryz.pinned (OpenSpec.ofChange substRowWrong)

/-- 'oxbowlaw11.SubstHash': WHATEVER THE INPUT: true; the input reads as it did. -/
def substHashSpec : ChangeSpec := { name := "substHash", fn := fun _ => fun
  | [d1, d2] => { results := [.lit (.bool true)], args := [d1, d2] }
  | _ => none }
def substHashRow : OpenClaim := { program := "ytfaoamdlknlgpaagreat", sum := "71c19fb20fd738e2b4b57f0d062d5e06d208f299e9d838a06f75033066dc88f5", func := "oxbow/oxbowlaw11.SubstHash", spec := "substHash", inPlace := ["internal/abi.NoEscape", "sync/atomic.LoadUint32", "(*internal/sync.Mutex).Lock", "internal/race.Disable", "sync/atomic.CompareAndSwapInt32", "internal/race.Enable", "internal/race.Acquire", "(*internal/sync.Mutex).lockSlow", "internal/sync.runtime_canSpin", "internal/sync.runtime_doSpin", "internal/sync.throw", "internal/sync.runtime_nanotime", "internal/sync.runtime_SemacquireMutex", "sync/atomic.AddInt32", "(*internal/sync.Mutex).Unlock", "internal/race.ReleaseMerge", "(*internal/sync.Mutex).unlockSlow", "internal/sync.fatal", "internal/sync.runtime_Semrelease", "sync/atomic.StoreUint32", "internal/bytealg.IndexByteString"], unfollowed := true, recurses := true, apart := false }
def SubstHashSaid : Prop := substHashRow.holds Tryz.pinned (OpenSpec.ofChange substHashSpec)

/-- ITS FALSE NEIGHBOUR: 'it returns false'. Refute it at one input. -/
def substHashWrong : ChangeSpec := { name := "substHash", fn := fun _ => fun
  | [d1, d2] => { results := [.lit (.bool false)], args := [d1, d2] }
  | _ => none }
def SubstHashWrongFalsely : Prop := substHashRow.holds Tryz.pinned (OpenSpec.ofChange substHashWrong)

/-- 'oxbowlaw11.SubstSides': WHATEVER THE INPUT: true; the input reads as it did. -/
def substSidesSpec : ChangeSpec := { name := "substSides", fn := fun _ => fun
  | [d1, d2] => { results := [.lit (.bool true)], args := [d1, d2] }
  | _ => none }
def substSidesRow : OpenClaim := { program := "ytfaoamdlknlgpaagreat", sum := "71c19fb20fd738e2b4b57f0d062d5e06d208f299e9d838a06f75033066dc88f5", func := "oxbow/oxbowlaw11.SubstSides", spec := "substSides", inPlace := ["internal/abi.NoEscape", "sync/atomic.LoadUint32", "(*internal/sync.Mutex).Lock", "internal/race.Disable", "sync/atomic.CompareAndSwapInt32", "internal/race.Enable", "internal/race.Acquire", "(*internal/sync.Mutex).lockSlow", "internal/sync.runtime_canSpin", "internal/sync.runtime_doSpin", "internal/sync.throw", "internal/sync.runtime_nanotime", "internal/sync.runtime_SemacquireMutex", "sync/atomic.AddInt32", "(*internal/sync.Mutex).Unlock", "internal/race.ReleaseMerge", "(*internal/sync.Mutex).unlockSlow", "internal/sync.fatal", "internal/sync.runtime_Semrelease", "sync/atomic.StoreUint32", "internal/bytealg.IndexByteString"], unfollowed := true, recurses := true, apart := false }
def SubstSidesSaid : Prop := substSidesRow.holds Tryz.pinned (OpenSpec.ofChange substSidesSpec)

/-- ITS FALSE NEIGHBOUR: 'it returns false'. Refute it at one input. -/
def substSidesWrong : ChangeSpec := { name := "substSides", fn := fun _ => fun
  | [d1, d2] => { results := [.lit (.bool false)], args := [d1, d2] }
  | _ => none }
def SubstSidesWrongFalsely : Prop := substSidesRow.holds Tryz.pinned (OpenSpec.ofChange substSidesWrong)

/- THE SECOND FORM. 'bulk': how many values and letters a reading holds, each counted each time it is reached (what is shared counts as often as it is met; a slice's spare places count too). A statement '..UptoSaid' is the law's where the arguments, and the package variables that the reading takes, are together of bulk at most 1048576: NARROWER than '..Said'. Prove '..Said' where nothing that the law and all that it calls make is longer than what came in: it says more and counts as full. Else prove '..UptoSaid'. A law counts once. -/
mutual
def uptoBulk {H : Type} : DataW H → Nat
  | .lit (.string bytes) => bytes.length + 1
  | .lit _ => 1
  | .nil => 1
  | .ptr d => uptoBulk d + 1
  | .slice elems spare => uptoBulkAll elems + uptoBulkAll spare + 1
  | .agg parts => uptoBulkAll parts + 1
  | .iface _ d => uptoBulk d + 1
  | .map entries => uptoBulkEntries entries + 1
  | .held _ => 1
def uptoBulkAll {H : Type} : List (DataW H) → Nat
  | [] => 0
  | d :: r => uptoBulk d + uptoBulkAll r
def uptoBulkEntries {H : Type} : List (Lit × DataW H) → Nat
  | [] => 0
  | x :: r => uptoBulkEntry x + uptoBulkEntries r
def uptoBulkEntry {H : Type} : Lit × DataW H → Nat
  | (.string bytes, d) => bytes.length + uptoBulk d + 1
  | (_, d) => uptoBulk d + 1
 end
def uptoSmall : (H : Type) → List (DataW H) → Bool := fun _ ds => decide (uptoBulkAll ds ≤ 1048576)
def OpenSpec.upto (s : _root_.Go.ChangeSpec) : _root_.Go.OpenSpec := { _root_.Go.OpenSpec.ofChange s with cond := some uptoSmall }

/-- 'oxbowlaw10.ArgsTexts', WHERE WHAT IT READS IS OF BULK AT MOST 1048576: true; the input reads as it did. -/
def argsTextsUptoRow : OpenClaim := { program := "ytfaoamdlknlgpaagreat", sum := "71c19fb20fd738e2b4b57f0d062d5e06d208f299e9d838a06f75033066dc88f5", func := "oxbow/oxbowlaw10.ArgsTexts", spec := "argsTexts", inPlace := ["sync/atomic.LoadUint32", "(*internal/sync.Mutex).Lock", "internal/race.Disable", "sync/atomic.CompareAndSwapInt32", "internal/race.Enable", "internal/race.Acquire", "(*internal/sync.Mutex).lockSlow", "internal/sync.runtime_canSpin", "internal/sync.runtime_doSpin", "internal/sync.throw", "internal/sync.runtime_nanotime", "internal/sync.runtime_SemacquireMutex", "sync/atomic.AddInt32", "(*internal/sync.Mutex).Unlock", "internal/race.ReleaseMerge", "(*internal/sync.Mutex).unlockSlow", "internal/sync.fatal", "internal/sync.runtime_Semrelease", "sync/atomic.StoreUint32", "internal/bytealg.IndexByteString", "internal/abi.NoEscape"], unfollowed := true, recurses := true, apart := false, narrowed := true }
def ArgsTextsUptoSaid : Prop := argsTextsUptoRow.holds Tryz.pinned (OpenSpec.upto argsTextsSpec)

/-- 'oxbowlaw10.ArgsQuotes', WHERE WHAT IT READS IS OF BULK AT MOST 1048576: true; the input reads as it did. -/
def argsQuotesUptoRow : OpenClaim := { program := "ytfaoamdlknlgpaagreat", sum := "71c19fb20fd738e2b4b57f0d062d5e06d208f299e9d838a06f75033066dc88f5", func := "oxbow/oxbowlaw10.ArgsQuotes", spec := "argsQuotes", inPlace := ["sync/atomic.LoadUint32", "(*internal/sync.Mutex).Lock", "internal/race.Disable", "sync/atomic.CompareAndSwapInt32", "internal/race.Enable", "internal/race.Acquire", "(*internal/sync.Mutex).lockSlow", "internal/sync.runtime_canSpin", "internal/sync.runtime_doSpin", "internal/sync.throw", "internal/sync.runtime_nanotime", "internal/sync.runtime_SemacquireMutex", "sync/atomic.AddInt32", "(*internal/sync.Mutex).Unlock", "internal/race.ReleaseMerge", "(*internal/sync.Mutex).unlockSlow", "internal/sync.fatal", "internal/sync.runtime_Semrelease", "sync/atomic.StoreUint32", "internal/bytealg.IndexByteString", "internal/abi.NoEscape"], unfollowed := true, recurses := true, apart := false, narrowed := true }
def ArgsQuotesUptoSaid : Prop := argsQuotesUptoRow.holds Tryz.pinned (OpenSpec.upto argsQuotesSpec)

/-- 'oxbowlaw10.ArgsNested', WHERE WHAT IT READS IS OF BULK AT MOST 1048576: true; the input reads as it did. -/
def argsNestedUptoRow : OpenClaim := { program := "ytfaoamdlknlgpaagreat", sum := "71c19fb20fd738e2b4b57f0d062d5e06d208f299e9d838a06f75033066dc88f5", func := "oxbow/oxbowlaw10.ArgsNested", spec := "argsNested", inPlace := ["sync/atomic.LoadUint32", "(*internal/sync.Mutex).Lock", "internal/race.Disable", "sync/atomic.CompareAndSwapInt32", "internal/race.Enable", "internal/race.Acquire", "(*internal/sync.Mutex).lockSlow", "internal/sync.runtime_canSpin", "internal/sync.runtime_doSpin", "internal/sync.throw", "internal/sync.runtime_nanotime", "internal/sync.runtime_SemacquireMutex", "sync/atomic.AddInt32", "(*internal/sync.Mutex).Unlock", "internal/race.ReleaseMerge", "(*internal/sync.Mutex).unlockSlow", "internal/sync.fatal", "internal/sync.runtime_Semrelease", "sync/atomic.StoreUint32", "internal/bytealg.IndexByteString", "internal/abi.NoEscape"], unfollowed := true, recurses := true, apart := false, narrowed := true }
def ArgsNestedUptoSaid : Prop := argsNestedUptoRow.holds Tryz.pinned (OpenSpec.upto argsNestedSpec)

/-- 'oxbowlaw10.ArgsCollect', WHERE WHAT IT READS IS OF BULK AT MOST 1048576: true; the input reads as it did. -/
def argsCollectUptoRow : OpenClaim := { program := "ytfaoamdlknlgpaagreat", sum := "71c19fb20fd738e2b4b57f0d062d5e06d208f299e9d838a06f75033066dc88f5", func := "oxbow/oxbowlaw10.ArgsCollect", spec := "argsCollect", inPlace := ["sync/atomic.LoadUint32", "(*internal/sync.Mutex).Lock", "internal/race.Disable", "sync/atomic.CompareAndSwapInt32", "internal/race.Enable", "internal/race.Acquire", "(*internal/sync.Mutex).lockSlow", "internal/sync.runtime_canSpin", "internal/sync.runtime_doSpin", "internal/sync.throw", "internal/sync.runtime_nanotime", "internal/sync.runtime_SemacquireMutex", "sync/atomic.AddInt32", "(*internal/sync.Mutex).Unlock", "internal/race.ReleaseMerge", "(*internal/sync.Mutex).unlockSlow", "internal/sync.fatal", "internal/sync.runtime_Semrelease", "sync/atomic.StoreUint32", "internal/bytealg.IndexByteString", "internal/abi.NoEscape"], unfollowed := true, recurses := true, apart := false, narrowed := true }
def ArgsCollectUptoSaid : Prop := argsCollectUptoRow.holds Tryz.pinned (OpenSpec.upto argsCollectSpec)

/-- 'oxbowlaw10.ArgsWhole', WHERE WHAT IT READS IS OF BULK AT MOST 1048576: true; the input reads as it did. -/
def argsWholeUptoRow : OpenClaim := { program := "ytfaoamdlknlgpaagreat", sum := "71c19fb20fd738e2b4b57f0d062d5e06d208f299e9d838a06f75033066dc88f5", func := "oxbow/oxbowlaw10.ArgsWhole", spec := "argsWhole", inPlace := ["sync/atomic.LoadUint32", "(*internal/sync.Mutex).Lock", "internal/race.Disable", "sync/atomic.CompareAndSwapInt32", "internal/race.Enable", "internal/race.Acquire", "(*internal/sync.Mutex).lockSlow", "internal/sync.runtime_canSpin", "internal/sync.runtime_doSpin", "internal/sync.throw", "internal/sync.runtime_nanotime", "internal/sync.runtime_SemacquireMutex", "sync/atomic.AddInt32", "(*internal/sync.Mutex).Unlock", "internal/race.ReleaseMerge", "(*internal/sync.Mutex).unlockSlow", "internal/sync.fatal", "internal/sync.runtime_Semrelease", "sync/atomic.StoreUint32", "internal/bytealg.IndexByteString", "internal/abi.NoEscape"], unfollowed := true, recurses := true, apart := false, narrowed := true }
def ArgsWholeUptoSaid : Prop := argsWholeUptoRow.holds Tryz.pinned (OpenSpec.upto argsWholeSpec)

/-- 'oxbowlaw11.SubstPaste', WHERE WHAT IT READS IS OF BULK AT MOST 1048576: true; the input reads as it did. -/
def substPasteUptoRow : OpenClaim := { program := "ytfaoamdlknlgpaagreat", sum := "71c19fb20fd738e2b4b57f0d062d5e06d208f299e9d838a06f75033066dc88f5", func := "oxbow/oxbowlaw11.SubstPaste", spec := "substPaste", inPlace := ["internal/abi.NoEscape", "sync/atomic.LoadUint32", "(*internal/sync.Mutex).Lock", "internal/race.Disable", "sync/atomic.CompareAndSwapInt32", "internal/race.Enable", "internal/race.Acquire", "(*internal/sync.Mutex).lockSlow", "internal/sync.runtime_canSpin", "internal/sync.runtime_doSpin", "internal/sync.throw", "internal/sync.runtime_nanotime", "internal/sync.runtime_SemacquireMutex", "sync/atomic.AddInt32", "(*internal/sync.Mutex).Unlock", "internal/race.ReleaseMerge", "(*internal/sync.Mutex).unlockSlow", "internal/sync.fatal", "internal/sync.runtime_Semrelease", "sync/atomic.StoreUint32", "internal/bytealg.IndexByteString"], unfollowed := true, recurses := true, apart := false, narrowed := true }
def SubstPasteUptoSaid : Prop := substPasteUptoRow.holds Tryz.pinned (OpenSpec.upto substPasteSpec)

/-- 'oxbowlaw11.SubstRow', WHERE WHAT IT READS IS OF BULK AT MOST 1048576: true; the input reads as it did. -/
def substRowUptoRow : OpenClaim := { program := "ytfaoamdlknlgpaagreat", sum := "71c19fb20fd738e2b4b57f0d062d5e06d208f299e9d838a06f75033066dc88f5", func := "oxbow/oxbowlaw11.SubstRow", spec := "substRow", inPlace := ["internal/abi.NoEscape", "sync/atomic.LoadUint32", "(*internal/sync.Mutex).Lock", "internal/race.Disable", "sync/atomic.CompareAndSwapInt32", "internal/race.Enable", "internal/race.Acquire", "(*internal/sync.Mutex).lockSlow", "internal/sync.runtime_canSpin", "internal/sync.runtime_doSpin", "internal/sync.throw", "internal/sync.runtime_nanotime", "internal/sync.runtime_SemacquireMutex", "sync/atomic.AddInt32", "(*internal/sync.Mutex).Unlock", "internal/race.ReleaseMerge", "(*internal/sync.Mutex).unlockSlow", "internal/sync.fatal", "internal/sync.runtime_Semrelease", "sync/atomic.StoreUint32", "internal/bytealg.IndexByteString"], unfollowed := true, recurses := true, apart := false, narrowed := true }
def SubstRowUptoSaid : Prop := substRowUptoRow.holds Tryz.pinned (OpenSpec.upto substRowSpec)

/-- 'oxbowlaw11.SubstHash', WHERE WHAT IT READS IS OF BULK AT MOST 1048576: true; the input reads as it did. -/
def substHashUptoRow : OpenClaim := { program := "ytfaoamdlknlgpaagreat", sum := "71c19fb20fd738e2b4b57f0d062d5e06d208f299e9d838a06f75033066dc88f5", func := "oxbow/oxbowlaw11.SubstHash", spec := "substHash", inPlace := ["internal/abi.NoEscape", "sync/atomic.LoadUint32", "(*internal/sync.Mutex).Lock", "internal/race.Disable", "sync/atomic.CompareAndSwapInt32", "internal/race.Enable", "internal/race.Acquire", "(*internal/sync.Mutex).lockSlow", "internal/sync.runtime_canSpin", "internal/sync.runtime_doSpin", "internal/sync.throw", "internal/sync.runtime_nanotime", "internal/sync.runtime_SemacquireMutex", "sync/atomic.AddInt32", "(*internal/sync.Mutex).Unlock", "internal/race.ReleaseMerge", "(*internal/sync.Mutex).unlockSlow", "internal/sync.fatal", "internal/sync.runtime_Semrelease", "sync/atomic.StoreUint32", "internal/bytealg.IndexByteString"], unfollowed := true, recurses := true, apart := false, narrowed := true }
def SubstHashUptoSaid : Prop := substHashUptoRow.holds Tryz.pinned (OpenSpec.upto substHashSpec)

/-- 'oxbowlaw11.SubstSides', WHERE WHAT IT READS IS OF BULK AT MOST 1048576: true; the input reads as it did. -/
def substSidesUptoRow : OpenClaim := { program := "ytfaoamdlknlgpaagreat", sum := "71c19fb20fd738e2b4b57f0d062d5e06d208f299e9d838a06f75033066dc88f5", func := "oxbow/oxbowlaw11.SubstSides", spec := "substSides", inPlace := ["internal/abi.NoEscape", "sync/atomic.LoadUint32", "(*internal/sync.Mutex).Lock", "internal/race.Disable", "sync/atomic.CompareAndSwapInt32", "internal/race.Enable", "internal/race.Acquire", "(*internal/sync.Mutex).lockSlow", "internal/sync.runtime_canSpin", "internal/sync.runtime_doSpin", "internal/sync.throw", "internal/sync.runtime_nanotime", "internal/sync.runtime_SemacquireMutex", "sync/atomic.AddInt32", "(*internal/sync.Mutex).Unlock", "internal/race.ReleaseMerge", "(*internal/sync.Mutex).unlockSlow", "internal/sync.fatal", "internal/sync.runtime_Semrelease", "sync/atomic.StoreUint32", "internal/bytealg.IndexByteString"], unfollowed := true, recurses := true, apart := false, narrowed := true }
def SubstSidesUptoSaid : Prop := substSidesUptoRow.holds Tryz.pinned (OpenSpec.upto substSidesSpec)

end Rows
end Go.Proofs.YtfaoamdlknlgpaaGreat
