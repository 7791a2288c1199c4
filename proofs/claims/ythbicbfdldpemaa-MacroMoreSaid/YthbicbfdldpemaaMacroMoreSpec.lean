/- MacroMore: the texts, and what they are, in plain Lean. -/
import Derived.Test.YthbicbfdldpemaaMc7
namespace Go.Proofs.Ythbicbfdldpemaa
set_option linter.unusedVariables false

def pfxB : Nat → ByteArray
  | 0 => bs []
  | i + 1 => ((pfxB i ++ bs [112]) ++ bs [(97 + i).toUInt8]) ++ bs [44, 32]

def goodT (n : Nat) : ByteArray := (bs [102, 40] ++ pfxB n) ++ bs [46, 46, 46, 41, 32, 120, 32, 95, 95, 86, 65, 95, 65, 82, 71, 83, 95, 95]

def badT (n : Nat) : Nat → ByteArray
  | 0 => (bs [102, 40] ++ pfxB n) ++ bs [46, 46, 46, 44, 32, 122, 41, 32, 120]
  | 1 => (bs [102, 40] ++ pfxB n) ++ bs [122, 41, 32, 95, 95, 86, 65, 95, 65, 82, 71, 83, 95, 95]
  | 2 => bs [102, 32, 95, 95, 86, 65, 95, 65, 82, 71, 83, 95, 95]
  | 3 => (bs [102, 40] ++ pfxB n) ++ bs [46, 46, 46, 32, 120]
  | 4 => (bs [102, 40] ++ pfxB n) ++ bs [41, 32, 120]
  | 5 => bs [95, 95, 86, 65, 95, 65, 82, 71, 83, 95, 95, 32, 120]
  | 6 => bs [100, 101, 102, 105, 110, 101, 100]
  | 7 => bs [95, 95, 76, 73, 78, 69, 95, 95, 32, 49]
  | 8 => bs [95, 95, 70, 73, 76, 69, 95, 95]
  | 9 => bs [102, 40, 95, 95, 86, 65, 95, 65, 82, 71, 83, 95, 95, 41, 32, 120]
  | 10 => (bs [102, 40] ++ pfxB n) ++ bs [112, 97, 44, 32, 112, 97, 41, 32, 120]
  | _ => bs [102, 40, 49, 41, 32, 120]

def goodP (n : Nat) (r : Mac ⊕ Bad) : Bool := match r with
  | .inl m => m.va && m.fn && decide (m.params.length = n + 1) && decide (m.params.getD n ByteArray.empty = restN) && decide (Lib.idxOfS m.params restN = n) && decide (m.body.length ≤ 1000)
  | .inr _ => false
def badP (n i : Nat) (r : Mac ⊕ Bad) : Bool := match r with
  | .inl m => decide (i = 4) && decide (n = 0) && m.fn && decide (m.params.length = 0) && decide (m.body.length ≤ 1000)
  | .inr x => decide (x.code = 5) && !(decide (i = 4) && decide (n = 0))

theorem good_all : (List.range 11).all (fun n => goodP n (parseL (toksL (goodT n).data.toList)) && decide ((goodT n).size ≤ 1000)) = true := by kernel_rfl
theorem bad_all : (List.range 11).all (fun n => (List.range 12).all fun i => badP n i (parseL (toksL (badT n i).data.toList)) && decide ((badT n i).size ≤ 1000)) = true := by kernel_rfl
end Go.Proofs.Ythbicbfdldpemaa
