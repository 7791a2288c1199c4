/- Rows cut in two. -/
import Derived.Test.YtekbilieddficaaDoorBase2
namespace Go.Proofs.YtekbilieddficaaDoor
open Go.RowKit
set_option linter.unusedVariables false

/-- a row's first ones, and the others -/
theorem Row.take {w : World} {sz : Nat} {ao : Option Addr} {css : List (List Value)} (h : Row w sz ao css) (k : Nat) : Row w sz ao (css.take k) := by
  intro hne
  obtain ⟨b, o, e, hat⟩ := h (by rintro rfl; simp at hne)
  refine ⟨b, o, e, fun i cs hi j u hj => hat i cs ?_ j u hj⟩
  rw [List.getElem?_take] at hi
  split at hi
  · exact hi
  · cases hi

theorem Row.drop1 {w : World} {b o : Nat} {css : List (List Value)} (h : Row w 1 (some ⟨b, o, none⟩) css) (k : Nat) : Row w 1 (some ⟨b, o + k, none⟩) (css.drop k) := by
  intro hne
  obtain ⟨b', o', e, hat⟩ := h (by rintro rfl; simp at hne)
  simp only [Option.some.injEq, Addr.mk.injEq, and_true] at e
  obtain ⟨rfl, rfl⟩ := e
  refine ⟨b, o + k, rfl, fun i cs hi j u hj => ?_⟩
  rw [List.getElem?_drop] at hi
  have := hat (k + i) cs hi j u hj
  rw [← this]
  congr 2
  omega

theorem own_cases {w : World} {B e n lc : Nat} {lo : Option Addr} {css : List (List Value)} (h : Own w B e 1 (.slice lo n lc) css) : (lo = none ∧ n = 0 ∧ lc = 0) ∨ ∃ gb, lo = some ⟨gb, 0, none⟩ := by
  rcases h.1.2 with ⟨hv, h0⟩ | ⟨g, cap, cur, hv, _⟩
  · simp only [Value.slice.injEq] at hv
    exact .inl hv
  · simp only [Value.slice.injEq] at hv
    exact .inr ⟨g, hv.1⟩
end Go.Proofs.YtekbilieddficaaDoor
