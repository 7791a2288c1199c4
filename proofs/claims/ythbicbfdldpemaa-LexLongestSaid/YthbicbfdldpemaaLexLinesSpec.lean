/- LexLines: how many there are. -/
import Derived.Test.YthbicbfdldpemaaLxSpec2
namespace Go.Proofs.Ythbicbfdldpemaa
set_option linter.unusedVariables false

def TokInvX (n : Nat) (s : LS) : Prop := s.toks.length ≤ s.i ∧ (∀ l ∈ s.out, l.toks.length ≤ n) ∧ s.out.length ≤ s.i ∧ s.diags.length ≤ s.i

theorem finL_toksX {n m : Nat} : ∀ {ls : List Ln}, (∀ l ∈ ls, l.toks.length ≤ n) → ∀ l ∈ finL m ls, l.toks.length ≤ n
  | [], h, l, hl => by simp [finL] at hl
  | [a], h, l, hl => by simp only [finL, List.mem_singleton] at hl; subst hl; exact h a (by simp)
  | a :: b :: r, h, l, hl => by
    simp only [finL, List.mem_cons] at hl
    rcases hl with rfl | hl
    · exact h l (by simp)
    · exact finL_toksX (ls := b :: r) (fun l h' => h l (by simp at h' ⊢; exact .inr h')) l hl

theorem finL_len {m : Nat} : ∀ (ls : List Ln), (finL m ls).length = ls.length
  | [] => rfl
  | [a] => rfl
  | a :: b :: r => by simp only [finL, List.length_cons]; rw [finL_len (b :: r)]; rfl

theorem lineStep_toksX {R : List Rn} {n : Nat} {s : LS} (hi : s.i < R.length) (h : TokInvX R.length s) : match lineStep R n s with | .inl s' => TokInvX R.length s' | .inr r => (∀ l ∈ r.1, l.toks.length ≤ R.length) ∧ r.1.length ≤ R.length + 1 ∧ r.2.length ≤ R.length + 1 := by
  have hs := fun s' => lineStep_i (R := R) (n := n) (s := s) (s' := s') hi
  revert hs
  unfold lineStep
  obtain ⟨h1, h2, h4, h5⟩ := h
  have h3 := fun (l : Ln) (hl : l.toks = s.toks) => show l.toks.length ≤ R.length by rw [hl]; omega
  split
  · intro hs
    refine ⟨by simp, fun l hl => ?_, by simp; omega, by simp only; omega⟩
    simp only [List.mem_append, List.mem_singleton] at hl
    rcases hl with hl | rfl
    · exact h2 l hl
    · exact h3 _ rfl
  · split
    · intro hs
      exact ⟨by simp; omega, h2, by simp; omega, by simp; omega⟩
    · split
      · split
        · intro hs
          refine ⟨fun l hl => ?_, by simp; omega, by simp; omega⟩
          simp only [List.mem_append, List.mem_singleton] at hl
          rcases hl with hl | rfl
          · exact h2 l hl
          · exact h3 _ rfl
        · intro hs
          have := (hs _ rfl).1
          exact ⟨by simp only at this ⊢; omega, h2, by simp only at this ⊢; omega, by simp only at this ⊢; omega⟩
      · intro hs
        have := (hs _ rfl).1
        refine ⟨by simp only [List.length_append, List.length_singleton] at this ⊢; omega, h2, by simp only at this ⊢; omega, ?_⟩
        simp only at this ⊢
        split
        · simp only [List.length_append, List.length_singleton]; omega
        · omega

theorem linesRun_toksX {R : List Rn} {n : Nat} : ∀ (k : Nat) (s : LS), s.i ≤ R.length → TokInvX R.length s → (∀ l ∈ (linesRun R n k s).1, l.toks.length ≤ R.length) ∧ (linesRun R n k s).1.length ≤ R.length + 1 ∧ (linesRun R n k s).2.length ≤ R.length + 1
  | 0, s, hi, h => ⟨finL_toksX h.2.1, by simp only [linesRun, finL_len]; have := h.2.2.1; omega, by simp only [linesRun]; have := h.2.2.2; omega⟩
  | k + 1, s, hle, h => by
    unfold linesRun
    split
    · rename_i hi
      have hstep := lineStep_toksX (n := n) hi h
      split
      · rename_i s' he
        rw [he] at hstep
        exact linesRun_toksX k s' (lineStep_i hi he).2 hstep
      · rename_i r he
        rw [he] at hstep
        exact hstep
    · exact ⟨finL_toksX h.2.1, by simp only [finL_len]; have := h.2.2.1; omega, by have := h.2.2.2; simp only; omega⟩

theorem linesL_lens (text : List UInt8) : (∀ l ∈ (linesL text).1, l.toks.length ≤ text.length + 1) ∧ (linesL text).1.length ≤ text.length + 2 ∧ (linesL text).2.length ≤ text.length + 2 := by
  have h := linesRun_toksX (R := charsL text) (n := text.length) ((charsL text).length + 1) ⟨0, [], 0, false, [], []⟩ (Nat.zero_le _) ⟨by simp, by simp, by simp, by simp⟩
  have hl := charsL_len text
  exact ⟨fun l hh => Nat.le_trans (h.1 l hh) hl, Nat.le_trans h.2.1 (by omega), Nat.le_trans h.2.2 (by omega)⟩
end Go.Proofs.Ythbicbfdldpemaa
