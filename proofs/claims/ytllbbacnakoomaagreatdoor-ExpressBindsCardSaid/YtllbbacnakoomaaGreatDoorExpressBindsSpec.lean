
/- ExpressBinds in plain Lean: two operators side by side. -/
import Derived.Test.YtllbbacnakoomaaGreatDoorE8
namespace Go.Proofs.YtllbbacnakoomaaGreatDoor

def binOps : List (List UInt8) := [([124, 124] : List UInt8), ([38, 38] : List UInt8), ([124] : List UInt8), ([94] : List UInt8), ([38] : List UInt8), ([61, 61] : List UInt8), ([33, 61] : List UInt8), ([60] : List UInt8), ([62] : List UInt8), ([60, 61] : List UInt8), ([62, 61] : List UInt8), ([60, 60] : List UInt8), ([62, 62] : List UInt8), ([43] : List UInt8), ([45] : List UInt8), ([42] : List UInt8), ([47] : List UInt8), ([37] : List UInt8)]
def binLev : List Nat := [0, 1, 2, 3, 4, 5, 5, 6, 6, 6, 6, 7, 7, 8, 8, 9, 9, 9]
def bindS (x y : List UInt8) : List UInt8 := ([120, 32] : List UInt8) ++ x ++ ([32, 121, 32] : List UInt8) ++ y ++ ([32, 122] : List UInt8)
def bindW (p q : Nat) (x y : List UInt8) : List UInt8 := if p ≥ q then ([40, 98, 105, 110, 97, 114, 121, 32] : List UInt8) ++ y ++ ([32, 40, 98, 105, 110, 97, 114, 121, 32] : List UInt8) ++ x ++ ([32, 40, 110, 97, 109, 101, 32, 120, 41, 32, 40, 110, 97, 109, 101, 32, 121, 41, 41, 32, 40, 110, 97, 109, 101, 32, 122, 41, 41] : List UInt8) else ([40, 98, 105, 110, 97, 114, 121, 32] : List UInt8) ++ x ++ ([32, 40, 110, 97, 109, 101, 32, 120, 41, 32, 40, 98, 105, 110, 97, 114, 121, 32] : List UInt8) ++ y ++ ([32, 40, 110, 97, 109, 101, 32, 121, 41, 32, 40, 110, 97, 109, 101, 32, 122, 41, 41, 41] : List UInt8)
theorem binds_all : ((List.range 18).all fun i => (List.range 18).all fun j => writE (bindS (binOps.getD i []) (binOps.getD j [])) [] == some (bindW (binLev.getD i 0) (binLev.getD j 0) (binOps.getD i []) (binOps.getD j []))) = true := by kernel_rfl
end Go.Proofs.YtllbbacnakoomaaGreatDoor
