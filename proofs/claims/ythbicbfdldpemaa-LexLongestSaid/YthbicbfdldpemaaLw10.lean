/- lex's token. -/
import Derived.Test.YthbicbfdldpemaaLw7
import Derived.Test.YthbicbfdldpemaaLw9
namespace Go.Proofs.Ythbicbfdldpemaa
open Go.RowKit
set_option linter.unusedVariables false

def tokL (A : List UInt8) (i : Nat) : Int × Nat :=
  if 0 < (constL A i).2 then constL A i
  else if letterB (chAt A i) then (1, 1 + ((A.drop (i + 1)).takeWhile idB).length)
  else if 0 < pnumL A i then (2, pnumL A i)
  else if 0 < punctL A i then (5, punctL A i)
  else (6, 1)

theorem quote_no {c : UInt8} (h : c = 34 ∨ c = 39) : letterB c = false ∧ digitB c = false ∧ c ≠ 46 := by
  rcases h with rfl | rfl <;> decide

theorem punct_quote {A : List UInt8} {i : Nat} (h : chAt A i = 34 ∨ chAt A i = 39) : punctL A i = 0 := by
  unfold punctL
  rw [List.find?_eq_none.2]
  · rfl
  · intro p hp
    have hne : p ≠ [] := (show ∀ p ∈ punctsL, p ≠ [] by decide) p hp
    rw [← hasL_prefix hne]
    intro hh
    unfold hasL at hh
    simp only [Bool.and_eq_true, decide_eq_true_eq, List.all_eq_true, List.mem_range, beq_iff_eq] at hh
    have h0 := hh.2 0 (by cases p with | nil => simp at hne | cons => simp)
    rw [Nat.add_zero] at h0
    have : ∀ p ∈ punctsL, p.getD 0 0 ≠ 34 ∧ p.getD 0 0 ≠ 39 := by decide
    have := this p hp
    rcases h with h | h
    · exact this.1 (h0.symm.trans h)
    · exact this.2 (h0.symm.trans h)

theorem tok_next {A : List UInt8} {i : Nat} (hi : i < A.length) : tokL A i = (((nextL A i).1 : Int), (nextL A i).2.1 - i) := by
  have hq := fun h => quotedL_le A (i + (lettersL A i).toNat) h
  unfold tokL nextL constL closesL pnumL
  by_cases hneg : lettersL A i < 0
  · have h0 : ¬ 0 ≤ lettersL A i := by omega
    have h00 : ¬ lettersL A i = 0 := by omega
    simp only [hneg, if_true, h0, false_and, if_false, h00, Nat.lt_irrefl]
    by_cases hL : letterB (chAt A i) = true
    · simp only [hL, if_true]
      simp; omega
    · simp only [hL]
      by_cases hN : i < numL A i
      · have : 0 < numL A i - i := by omega
        simp [hN, this]
      · have : ¬ 0 < numL A i - i := by omega
        simp only [hN, this, if_false]
        by_cases hP : 0 < punctL A i
        · simp [hP]
        · simp [hP]
  · have h0 : 0 ≤ lettersL A i := by omega
    have hQ := letters_quote hneg
    by_cases hz : quotedL A (i + (lettersL A i).toNat) = 0
    · have hzp : ¬ 0 < quotedL A (i + (lettersL A i).toNat) := by omega
      simp only [hneg, if_false, hz, if_true, h0, true_and, Nat.lt_irrefl, false_and]
      by_cases hL0 : lettersL A i = 0
      · have hqc : chAt A i = 34 ∨ chAt A i = 39 := by
          have := hQ.2
          rw [hL0] at this
          simpa using this
        obtain ⟨a1, a2, a3⟩ := quote_no hqc
        have hN : numL A i = i := by unfold numL; rw [if_neg (by simp [a2, a3])]
        simp only [hL0, if_true, a1, hN, punct_quote hqc]
        simp
      · simp only [hL0, if_false]
        by_cases hL : letterB (chAt A i) = true
        · simp only [hL, if_true]
          simp; omega
        · simp only [hL]
          by_cases hN : i < numL A i
          · have : 0 < numL A i - i := by omega
            simp [hN, this]
          · have : ¬ 0 < numL A i - i := by omega
            simp only [hN, this, if_false]
            by_cases hP : 0 < punctL A i
            · simp [hP]
            · simp [hP]
    · have hzp : 0 < quotedL A (i + (lettersL A i).toNat) := by omega
      have := (hq hzp).1
      have hs : ¬ quotedL A (i + (lettersL A i).toNat) - i = 0 := by omega
      have hs2 : 0 < quotedL A (i + (lettersL A i).toNat) - i := by omega
      simp only [hneg, if_false, hz, hs, hs2, if_true, h0, true_and, hzp]
      by_cases h34 : chAt A (i + (lettersL A i).toNat) = 34
      · simp [h34]
      · simp [h34]
end Go.Proofs.Ythbicbfdldpemaa
