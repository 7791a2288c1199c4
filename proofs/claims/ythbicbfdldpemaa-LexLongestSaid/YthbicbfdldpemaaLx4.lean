/- oxbowref4's puncts, punct. -/
import Derived.Test.YthbicbfdldpemaaLx3
import Derived.Deep.QuietTactic
namespace Go.Proofs.Ythbicbfdldpemaa
open Go.RowKit
set_option linter.unusedVariables false

def strV (p : List UInt8) : Value := .string ⟨p.toArray⟩

/-- the world in which the punctuators lie -/
def punW (w : World) : World := w.alloc (.cells (punctsL.map strV).toArray 9)
theorem punW_size (w : World) : (punW w).heap.size = w.heap.size + 1 := by simp [punW]
theorem punW_below (w : World) : Below w.heap.size w (punW w) := (Below.refl _ w).alloc (Nat.le_refl _) _
theorem punW_cell {w : World} {k : Nat} {p : List UInt8} (h : punctsL[k]? = some p) : (punW w).cell? ⟨w.heap.size, k, none⟩ = some (strV p) := cell_new w _ _ (by simp [h])

set_option maxHeartbeats 2000000 in
set_option maxRecDepth 100000 in
theorem rpuncts_any (w : World) : Calls Try.prog 96 #[] w fun e w' => e = .returned (.slice (some ⟨w.heap.size, 0, none⟩) 54 54) ∧ w' = punW w := by
  go_enter Try.func96, Try.ntmps96
  go_wp2
  go_ret
  exact ⟨rfl, rfl⟩

theorem pref_iff (A : List UInt8) : ∀ (p : List UInt8) (i : Nat), (∀ c ∈ p, c ≠ 0) → (p.isPrefixOf (A.drop i) = true ↔ ∀ j, j < p.length → chAt A (i + j) = p.getD j 0) := by
  intro p
  induction p with
  | nil => intro i _; simp
  | cons c p ih =>
    intro i h0
    have hc : c ≠ 0 := h0 c (by simp)
    have ih := ih (i + 1) (fun d hd => h0 d (by simp [hd]))
    by_cases hi : i < A.length
    · rw [drop_at hi, List.isPrefixOf, Bool.and_eq_true, ih, beq_iff_eq]
      constructor
      · rintro ⟨h1, h2⟩ j hj
        cases j with
        | zero => simpa using h1.symm
        | succ j => have := h2 j (by simpa using hj); rw [Nat.add_assoc, Nat.add_comm 1 j] at this; simpa using this
      · intro h
        refine ⟨by simpa using (h 0 (by simp)).symm, fun j hj => ?_⟩
        have := h (j + 1) (by simpa using hj)
        rw [Nat.add_assoc, Nat.add_comm 1 j]
        simpa using this
    · rw [List.drop_eq_nil_of_le (by omega)]
      constructor
      · intro h; simp [List.isPrefixOf] at h
      · intro h
        have := h 0 (by simp)
        rw [chAt_ge (by omega)] at this
        exact (hc (by simpa using this.symm)).elim

theorem puncts_ne : ∀ p ∈ punctsL, (∀ c ∈ p, c ≠ 0) ∧ p.length ≤ 4 := by decide

def punFrom (A : List UInt8) (i k : Nat) : Nat := (((punctsL.drop k).find? fun p => p.isPrefixOf (A.drop i)).map List.length).getD 0

theorem punFrom_zero (A : List UInt8) (i : Nat) : punctL A i = punFrom A i 0 := rfl
theorem punFrom_end (A : List UInt8) (i : Nat) : punFrom A i 54 = 0 := by
  have : punctsL.drop 54 = [] := by decide
  simp [punFrom, this]

theorem punFrom_hit {A : List UInt8} {i k : Nat} {p : List UInt8} (hp : punctsL[k]? = some p) (h : ∀ j, j < p.length → chAt A (i + j) = p.getD j 0) : punFrom A i k = p.length := by
  obtain ⟨hk, rfl⟩ := List.getElem?_eq_some_iff.1 hp
  have := (pref_iff A punctsL[k] i (puncts_ne _ (List.getElem_mem hk)).1).2 h
  unfold punFrom
  rw [List.drop_eq_getElem_cons hk, List.find?_cons, this]
  rfl

theorem punFrom_miss {A : List UInt8} {i k : Nat} {p : List UInt8} (hp : punctsL[k]? = some p) {j : Nat} (hj : j < p.length) (h : chAt A (i + j) ≠ p.getD j 0) : punFrom A i k = punFrom A i (k + 1) := by
  obtain ⟨hk, rfl⟩ := List.getElem?_eq_some_iff.1 hp
  have : ¬ (punctsL[k].isPrefixOf (A.drop i) = true) := fun hh => h ((pref_iff A punctsL[k] i (puncts_ne _ (List.getElem_mem hk)).1).1 hh j hj)
  unfold punFrom
  rw [List.drop_eq_getElem_cons hk, List.find?_cons]
  simp only [this]

end Go.Proofs.Ythbicbfdldpemaa
