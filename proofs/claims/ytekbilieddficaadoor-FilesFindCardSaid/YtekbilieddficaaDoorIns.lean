/- Contracts of the shelf at this dump, in plain words: each laying is a table of numbers and one theorem. -/
import Derived.Shelf.Spec.SlicesInsertGrow
import Derived.Test.YtekbilieddficaaDoorProg
namespace Go.Proofs
open Go.Shelf
def Tryd.insL_ren : Go.Shelf.Ren := ⟨fun | 22 => 33 | 29 => 56 | 30 => 57 | 36 => 76 | 17 => 90 | n => n, fun | 24 => 22 | 9 => 9 | 3 => 3 | 4 => 4 | 0 => 0 | n => n, fun | n => n⟩
theorem Tryd.insL : Go.Proofs.Lays2.n22 Tryd.prog Tryd.insL_ren := {
  mixed := by kernel_rfl
  f17 := Tryd.func90.trans (congrArg some (by kernel_rfl))
  f22 := Tryd.func33.trans (congrArg some (by kernel_rfl))
  f29 := Tryd.func56.trans (congrArg some (by kernel_rfl))
  f30 := Tryd.func57.trans (congrArg some (by kernel_rfl))
  f36 := Tryd.func76.trans (congrArg some (by kernel_rfl))
  t0 := Tryd.underlying0
  a0 := Tryd.isAgg0
  z0 := Tryd.sizeOf0
  v0 := Tryd.zeroValue0
  t3 := Tryd.underlying3
  a3 := Tryd.isAgg3
  z3 := Tryd.sizeOf3
  v3 := Tryd.zeroValue3
  t4 := Tryd.underlying4
  a4 := Tryd.isAgg4
  z4 := Tryd.sizeOf4
  v4 := Tryd.zeroValue4
  t9 := Tryd.underlying9
  a9 := Tryd.isAgg9
  z9 := Tryd.sizeOf9
  v9 := Tryd.zeroValue9
  t24 := Tryd.underlying22
  a24 := Tryd.isAgg22
  z24 := Tryd.sizeOf22
  v24 := Tryd.zeroValue22
  i9 := by kernel_rfl }
end Go.Proofs
