/- An argument of truths, opened. -/
import Derived.Test.YtekbilieddficaaDoorOpenSl
namespace Go.Proofs.YtekbilieddficaaDoor
open Go.RowKit Go.ChangeShapes Go.WideShapes
set_option linter.unusedVariables false

theorem cells_boolX : Tryd.prog.cellsOf 4 = 1 := by kernel_rfl

def boolAt (W : World) (a : Addr) : Bool := match W.cell? a with | some (.bool b) => b | _ => false

theorem open_boolsX {H : Type} {enc : TypeId × Value → H} {W : World} {base : Nat} {held : Bool} {n : Nat} {v : Value} {x : DataW H × List MemPlace} (h : DataW.trod enc Tryd.prog W base (fun _ => true) held n 40 [v] = some x) :
    ∃ (zs : List Bool) (ao : Option Addr) (cap : Nat), v = .slice ao zs.length cap ∧ zs.length ≤ cap ∧ Row W 1 ao (zs.map fun z => [.bool z]) := by
  rcases DataW.trod_slice Tryd.underlying40 h with ⟨e, _⟩ | ⟨a, len, cap, elems, rest, m, _, e, rfl, hb, hl, hm, hlen, hel, hsp, hns⟩
  · simp only [List.cons.injEq, and_true] at e
    exact ⟨[], none, 0, e, Nat.le_refl _, Row.nil _ _ _⟩
  · simp only [List.cons.injEq, and_true] at e
    have each : ∀ i, i < len → W.cell? (a.add i) = some (.bool (boolAt W (a.add i))) := by
      intro i hi
      have h1 := hel i hi
      rw [List.getElem?_eq_getElem (by omega), cells_boolX, Nat.mul_one, Option.bind_eq_some_iff] at h1
      obtain ⟨cs', hcs, hy'⟩ := h1
      obtain ⟨b, rfl, _⟩ := DataW.trod_bool Tryd.underlying4 hy'
      have h2 := cell_of_cells?_one hcs
      unfold boolAt
      rw [h2]
    refine ⟨(List.range len).map fun i => boolAt W (a.add i), some a, cap, by rw [List.length_map, List.length_range]; exact e, by rw [List.length_map, List.length_range]; exact hl, ?_⟩
    have hr := row_cells1 (W := W) (a := a) (len := len) (f := fun i => .bool (boolAt W (a.add i))) each
    rw [List.map_map]
    exact hr
end Go.Proofs.YtekbilieddficaaDoor
