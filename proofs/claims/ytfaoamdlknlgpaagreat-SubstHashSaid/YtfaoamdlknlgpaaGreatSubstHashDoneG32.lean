/- Texts of this seat's proofs, laid into one file. -/
import Derived.Test.YtfaoamdlknlgpaaGreatSubstHashDoneG24
import Derived.Test.YtfaoamdlknlgpaaGreatSubstHashDoneG22
/- A text as one token: the program's answer and the document's are the same. -/
namespace Go.Proofs.YtfaoamdlknlgpaaGreat
set_option linter.unusedVariables false

theorem quoL_no10 (q : UInt8) : ∀ (n : Nat) (l : List UInt8) (j : Nat), l.length ≤ n → 0 < quoL q j l → quoL q j l = j + l.length → ∀ c ∈ l, c ≠ 10 := by
  intro n
  induction n with
  | zero => intro l j hl h0 h c hc; rw [List.eq_nil_of_length_eq_zero (by omega : l.length = 0)] at hc; cases hc
  | succ n ih =>
    intro l j hl h0 h
    match l, hl, h0, h with
    | [], _, _, _ => simp
    | [a], _, h0, h =>
      intro c hc
      simp only [List.mem_singleton] at hc
      subst hc
      intro e
      subst e
      simp [quoL] at h0
    | a :: d :: r, hl, h0, h =>
      simp only [List.length_cons] at hl h
      unfold quoL at h h0
      by_cases h1 : a = 10
      · rw [if_pos h1] at h0; omega
      · rw [if_neg h1] at h h0
        by_cases h2 : a = 92 ∧ d ≠ 10
        · rw [if_pos h2] at h h0
          have := ih r (j + 2) (by omega) h0 (by omega)
          intro c hc
          simp only [List.mem_cons] at hc
          rcases hc with rfl | rfl | hc
          · exact h1
          · exact h2.2
          · exact this c hc
        · rw [if_neg h2] at h h0
          by_cases h3 : a = q
          · rw [if_pos h3] at h; omega
          · rw [if_neg h3] at h h0
            have := ih (d :: r) (j + 1) (by simp; omega) h0 (by simp; omega)
            intro c hc
            rcases List.mem_cons.1 hc with rfl | hc
            · exact h1
            · exact this c hc

theorem numRun_chars : ∀ (n : Nat) (l : List UInt8), l.length ≤ n → numRun l = l.length → ∀ c ∈ l, numB c = true ∨ c = 43 ∨ c = 45 := by
  intro n
  induction n with
  | zero => intro l hl h c hc; rw [List.eq_nil_of_length_eq_zero (by omega : l.length = 0)] at hc; cases hc
  | succ n ih =>
    intro l hl h
    match l, hl, h with
    | [], _, _ => simp
    | [a], _, h =>
      intro c hc
      simp only [List.mem_singleton] at hc
      subst hc
      unfold numRun at h
      by_cases h1 : numB c = true
      · exact .inl h1
      · rw [if_neg h1] at h; simp at h
    | a :: d :: r, hl, h =>
      simp only [List.length_cons] at hl h
      unfold numRun at h
      by_cases h1 : expB a d = true
      · rw [if_pos h1] at h
        have := ih r (by omega) (by omega)
        unfold expB at h1
        simp only [decide_eq_true_eq] at h1
        intro c hc
        simp only [List.mem_cons] at hc
        rcases hc with rfl | rfl | hc
        · left
          rcases h1.1 with e | e | e | e <;> rw [e] <;> decide
        · right
          exact h1.2
        · exact this c hc
      · rw [if_neg h1] at h
        by_cases h2 : numB a = true
        · rw [if_pos h2] at h
          have := ih (d :: r) (by simp; omega) (by simp; omega)
          intro c hc
          rcases List.mem_cons.1 hc with rfl | hc
          · exact .inl h2
          · exact this c hc
        · rw [if_neg h2] at h; omega

theorem plain_ch {c : UInt8} (h : numB c = true ∨ c = 43 ∨ c = 45) : whiteB c = false ∧ c ≠ 10 := by
  rcases h with h | h | h
  · unfold numB letterB digitB at h
    simp only [Bool.or_eq_true, decide_eq_true_eq] at h
    refine ⟨?_, fun e => by subst e; revert h; decide⟩
    unfold whiteB
    rw [decide_eq_false_iff_not]
    rintro (rfl | rfl | ⟨h1, h2⟩)
    · revert h; decide
    · revert h; decide
    · have k1 := UInt8.le_iff_toNat_le.1 h1
      have k2 := UInt8.le_iff_toNat_le.1 h2
      rcases h with ((⟨h, _⟩ | ⟨h, _⟩ | h) | ⟨h, _⟩) | h
      · have := UInt8.le_iff_toNat_le.1 h; simp at *; omega
      · have := UInt8.le_iff_toNat_le.1 h; simp at *; omega
      · subst h; simp at k2
      · have := UInt8.le_iff_toNat_le.1 h; simp at *; omega
      · subst h; simp at k2
  · subst h; decide
  · subst h; decide

theorem id_num {c : UInt8} (h : idB c = true) : numB c = true := by
  unfold idB at h
  unfold numB
  rw [h]; rfl

theorem puncts_nowhite : ∀ p ∈ punctsL, ∀ c ∈ p, whiteB c = false ∧ c ≠ 10 := by decide

theorem letters_first {A : List UInt8} (h : 0 ≤ lettersL A 0) : chAt A 0 = 34 ∨ chAt A 0 = 39 ∨ chAt A 0 = 117 ∨ chAt A 0 = 76 ∨ chAt A 0 = 85 := by
  revert h
  unfold lettersL
  split
  · rename_i h; intro _; rcases h with h | h <;> simp [h]
  · split
    · rename_i h; intro _; simp [h.1]
    · split
      · rename_i h; intro _; rcases h.1 with h | h | h <;> simp [h]
      · intro h; exact absurd h (by decide)

theorem mem_chAt {A : List UInt8} {c : UInt8} (h : c ∈ A) : ∃ i, i < A.length ∧ chAt A i = c := by
  obtain ⟨i, hi, e⟩ := List.getElem_of_mem h
  exact ⟨i, hi, by rw [← e]; exact chAt_lt (List.getElem?_eq_getElem hi)⟩

theorem letters_ahead {A : List UInt8} (h : 0 ≤ lettersL A 0) {i : Nat} (hi : i ≤ (lettersL A 0).toNat) : chAt A i ≠ 10 := by
  revert h hi
  unfold lettersL
  split
  · rename_i h
    intro _ hi
    have : i = 0 := by simpa using hi
    subst this
    rcases h with h | h <;> rw [h] <;> decide
  · split
    · rename_i h
      intro _ hi
      have : i = 0 ∨ i = 1 ∨ i = 2 := by simp at hi; omega
      rcases this with rfl | rfl | rfl
      · rw [h.1]; decide
      · rw [h.2.1]; decide
      · rw [h.2.2]; decide
    · split
      · rename_i h
        intro _ hi
        have : i = 0 ∨ i = 1 := by simp at hi; omega
        rcases this with rfl | rfl
        · rcases h.1 with h | h | h <;> rw [h] <;> decide
        · rcases h.2 with h | h <;> rw [h] <;> decide
      · intro h; exact absurd h (by decide)

/-- a constant that does not end, with letters ahead: a name ahead of its quote -/
theorem letters_open {A : List UInt8} (h : 0 ≤ lettersL A 0) (h0 : lettersL A 0 ≠ 0) (hz : quotedL A (lettersL A 0).toNat = 0) : (nextL A 0).2.1 < A.length := by
  have hneg : ¬ lettersL A 0 < 0 := by omega
  have hq := letters_quote hneg
  simp only [Nat.zero_add] at hq
  have hlt : (lettersL A 0).toNat < A.length := ne0_lt (by rcases hq.2 with h | h <;> rw [h] <;> decide)
  obtain ⟨hlet, hend⟩ : letterB (chAt A 0) = true ∧ 1 + ((A.drop 1).takeWhile idB).length = (lettersL A 0).toNat := by
    revert hq h0 hneg
    clear hlt hz h
    unfold lettersL
    split
    · intro h1 h2; omega
    · split
      · rename_i h8
        intro _ _ hq
        refine ⟨by rw [h8.1]; decide, ?_⟩
        have e1 : chAt A 1 = 56 := h8.2.1
        have e2 : chAt A 2 = 34 := h8.2.2
        rw [while_step (ne0_lt (by rw [e1]; decide)), e1, if_pos (by decide), while_step (ne0_lt (by rw [e2]; decide)), e2, if_neg (by decide)]
        rfl
      · split
        · rename_i h1
          intro _ _ hq
          refine ⟨by rcases h1.1 with h | h | h <;> rw [h] <;> decide, ?_⟩
          have e1 : chAt A 1 = 34 ∨ chAt A 1 = 39 := h1.2
          rw [while_step (ne0_lt (by rcases e1 with h | h <;> rw [h] <;> decide)), if_neg (by rcases e1 with h | h <;> rw [h] <;> decide)]
          rfl
        · intro _ h; omega
  have hnx : nextL A 0 = (1, (lettersL A 0).toNat, false) := by
    unfold nextL
    rw [Nat.zero_add, if_neg (by omega), if_neg (by omega), if_neg h0, if_pos hlet, Nat.zero_add, hend]
  rw [hnx]
  exact hlt

/-- a token that is all of its text has no byte that bars it -/
theorem whole_bar {A : List UInt8} (hA : A ≠ []) (h10 : chAt A 0 ≠ 10) (hw : whiteB (chAt A 0) = false) (hn : (nextL A 0).2.1 = A.length) (hb : (nextL A 0).2.2 = false) : ∀ c ∈ A, barB A c = false := by
  have hlen : 0 < A.length := List.length_pos_iff.2 hA
  by_cases hL : 0 ≤ lettersL A 0
  · have hq : 0 < quotedL A (lettersL A 0).toNat := by
      apply Nat.pos_of_ne_zero
      intro hz
      by_cases h0 : lettersL A 0 = 0
      · have : (nextL A 0).2.2 = true := by
          unfold nextL
          rw [Nat.zero_add, if_neg (by omega), if_neg (by omega), if_pos h0]
        rw [hb] at this; cases this
      · have := letters_open hL h0 hz
        omega
    have he : (nextL A 0).2.1 = quotedL A (lettersL A 0).toNat := by
      unfold nextL
      rw [Nat.zero_add]
      by_cases h34 : chAt A (lettersL A 0).toNat = 34
      · rw [if_pos ⟨hL, hq, h34⟩]
      · rw [if_neg (fun h => h34 h.2.2), if_pos ⟨hL, hq⟩]
    have hle := quotedL_le A _ hq
    rw [hn] at he
    have hno := quoL_no10 (chAt A (lettersL A 0).toNat) _ (A.drop ((lettersL A 0).toNat + 1)) ((lettersL A 0).toNat + 1) (Nat.le_refl _) hq (by
      rw [List.length_drop]
      unfold quotedL at he
      omega)
    intro c hc
    obtain ⟨i, hi, rfl⟩ := mem_chAt hc
    unfold barB
    have : chAt A i ≠ 10 := by
      by_cases hil : i ≤ (lettersL A 0).toNat
      · exact letters_ahead hL hil
      · refine hno _ ?_
        refine List.mem_iff_getElem?.2 ⟨i - ((lettersL A 0).toNat + 1), ?_⟩
        rw [List.getElem?_drop, show (lettersL A 0).toNat + 1 + (i - ((lettersL A 0).toNat + 1)) = i by omega, List.getElem?_eq_getElem hi]
        rw [chAt_lt (List.getElem?_eq_getElem hi)]
    simp [hL, this]
  · have hcs : ∀ c ∈ A, whiteB c = false ∧ c ≠ 10 := by
      have hsplit : A = chAt A 0 :: A.drop 1 := by have := drop_at (A := A) (i := 0) hlen; simpa using this
      unfold nextL at hn
      rw [if_neg (by omega), if_neg (by omega), if_neg (by omega)] at hn
      by_cases h1 : letterB (chAt A 0) = true
      · rw [if_pos h1] at hn
        simp only [Nat.zero_add] at hn
        have hall : (A.drop 1).takeWhile idB = A.drop 1 := by
          have hp := List.takeWhile_prefix idB (l := A.drop 1)
          exact hp.eq_of_length (by rw [List.length_drop]; omega)
        intro c hc
        rw [hsplit] at hc
        rcases List.mem_cons.1 hc with rfl | hc
        · exact ⟨hw, h10⟩
        · rw [← hall] at hc
          exact plain_ch (.inl (id_num (takeWhile_mem hc)))
      · rw [if_neg h1] at hn
        by_cases h2 : 0 < numL A 0
        · rw [if_pos h2] at hn
          simp only at hn
          unfold numL at hn h2
          split at hn
          · simp only [Nat.zero_add] at hn
            have hall := numRun_chars _ (A.drop 1) (Nat.le_refl _) (by rw [List.length_drop]; omega)
            intro c hc
            rw [hsplit] at hc
            rcases List.mem_cons.1 hc with rfl | hc
            · exact ⟨hw, h10⟩
            · exact plain_ch (hall c hc)
          · omega
        · rw [if_neg h2] at hn
          by_cases h3 : 0 < punctL A 0
          · rw [if_pos h3] at hn
            simp only [Nat.zero_add] at hn
            unfold punctL at hn h3
            rw [List.drop_zero] at hn h3
            cases hf : punctsL.find? (fun p => p.isPrefixOf A) with
            | none => rw [hf] at h3; simp at h3
            | some p =>
              rw [hf] at hn
              simp only [Option.map_some, Option.getD_some] at hn
              have hp := List.find?_some hf
              have hm := List.mem_of_find?_eq_some hf
              have e : p = A := (List.isPrefixOf_iff_prefix.1 hp).eq_of_length hn
              rw [← e]
              exact puncts_nowhite p hm
          · rw [if_neg h3] at hn
            simp only [Nat.zero_add] at hn
            intro c hc
            rw [hsplit, List.eq_nil_of_length_eq_zero (by rw [List.length_drop]; omega : (A.drop 1).length = 0)] at hc
            simp only [List.mem_singleton] at hc
            subst hc
            exact ⟨hw, h10⟩
    intro c hc
    unfold barB
    simp [(hcs c hc).1, (hcs c hc).2]

theorem one_same (A : List UInt8) : oneK A = oneR A := by
  by_cases hA : A = []
  · subst hA; rfl
  have hlen : 0 < A.length := List.length_pos_iff.2 hA
  have hm0 : chAt A 0 ∈ A := by
    rw [chAt_lt (List.getElem?_eq_getElem hlen)]
    exact List.getElem_mem hlen
  by_cases hP : chAt A 0 = 10 ∨ whiteB (chAt A 0) = true
  · have hbar : barB A (chAt A 0) = true := by
      unfold barB
      rcases hP with h | h
      · rw [h]; simp
      · have : ¬ 0 ≤ lettersL A 0 := by
          intro hL
          rcases letters_first hL with e | e | e | e | e <;> rw [e] at h <;> revert h <;> decide
        simp [h, this]
    have e1 : oneK A = none := if_pos (by rcases hP with h | h; exact .inr (.inl h); exact .inr (.inr (.inl h)))
    have e2 : oneR A = none := if_pos (.inl (List.any_eq_true.2 ⟨_, hm0, hbar⟩))
    rw [e1, e2]
  · have h10 : chAt A 0 ≠ 10 := fun h => hP (.inl h)
    have hw : whiteB (chAt A 0) = false := by
      cases h : whiteB (chAt A 0) with
      | false => rfl
      | true => exact absurd (.inr h) hP
    by_cases hc : 0 < (commentL A 0).1
    · have e1 : oneK A = none := if_pos (.inr (.inr (.inr (.inl hc))))
      have e2 : oneR A = none := if_pos (.inr (.inr (.inl hc)))
      rw [e1, e2]
    · have hle := (nextL_len hlen).2
      by_cases hn : (nextL A 0).2.1 = A.length
      · cases hb : (nextL A 0).2.2 with
        | true =>
          have ht : tellB A 0 (-1) = true := by
            unfold nextL at hb
            unfold tellB closesL
            split at hb
            · cases hb
            · split at hb
              · cases hb
              · split at hb
                · rename_i k1 k2 k3
                  have hz : quotedL A (0 + (lettersL A 0).toNat) = 0 := by
                    apply Nat.eq_zero_of_not_pos
                    intro h
                    exact k2 ⟨by omega, h⟩
                  rw [if_pos hz]
                  simp [k3]
                · exfalso
                  revert hb
                  repeat' split
                  all_goals intro hb; cases hb
          have e1 : oneK A = none := if_pos (.inr (.inr (.inr (.inr (.inr ht)))))
          have e2 : oneR A = none := if_pos (.inr (.inr (.inr (.inl hb))))
          rw [e1, e2]
        | false =>
          have ht : tellB A 0 (-1) = false := by
            unfold tellB closesL
            rw [decide_eq_false_iff_not]
            rintro ⟨h1, h2, _⟩
            have hL : 0 ≤ lettersL A 0 := by omega
            rw [Nat.zero_add] at h2
            by_cases hz : quotedL A (lettersL A 0).toNat = 0
            · by_cases h0 : lettersL A 0 = 0
              · have : (nextL A 0).2.2 = true := by
                  unfold nextL
                  rw [Nat.zero_add, if_neg (by omega), if_neg (by omega), if_pos h0]
                rw [hb] at this; cases this
              · have := letters_open hL h0 hz
                omega
            · rw [if_neg hz] at h2
              omega
          have hall := whole_bar hA h10 hw hn hb
          have e1 : oneK A = some (nextL A 0).1 := by
            unfold oneK
            rw [if_neg]
            rintro (h | h | h | h | h | h)
            · omega
            · exact h10 h
            · rw [hw] at h; cases h
            · exact hc h
            · omega
            · rw [ht] at h; cases h
          have e2 : oneR A = some (nextL A 0).1 := by
            unfold oneR
            rw [if_neg]
            rintro (h | h | h | h | h)
            · obtain ⟨c, h1, h2⟩ := List.any_eq_true.1 h
              rw [hall c h1] at h2; cases h2
            · exact hA h
            · exact hc h
            · rw [hb] at h; cases h
            · exact h hn
          rw [e1, e2]
      · have e1 : oneK A = none := if_pos (.inr (.inr (.inr (.inr (.inl (by omega))))))
        have e2 : oneR A = none := if_pos (.inr (.inr (.inr (.inr hn))))
        rw [e1, e2]
end Go.Proofs.YtfaoamdlknlgpaaGreat
