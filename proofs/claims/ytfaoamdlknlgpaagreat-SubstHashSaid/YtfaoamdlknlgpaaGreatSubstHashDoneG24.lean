/- Texts of this seat's proofs, laid into one file. -/
import Derived.Test.YtfaoamdlknlgpaaGreatSubstHashDoneG20
import Derived.Test.YtfaoamdlknlgpaaGreatSubstHashDoneG6
import Derived.Test.YtfaoamdlknlgpaaGreatSubstHashDoneG8
import Derived.Test.YtfaoamdlknlgpaaGreatSubstHashDoneG19
import Derived.Deep.LoopGhost
/- Chapter 5, plain Lean: a token hangs on what stands from its place on; and it is itself ahead of a blank. -/
namespace Go.Proofs.YtfaoamdlknlgpaaGreat
set_option linter.unusedVariables false

theorem chAt_drop (A : List UInt8) (i j : Nat) : chAt (A.drop i) j = chAt A (i + j) := by
  simp [chAt, List.getD_eq_getElem?_getD]

theorem letters_shift (A : List UInt8) (i : Nat) : lettersL A i = lettersL (A.drop i) 0 := by
  unfold lettersL
  simp [chAt_drop]

theorem quoL_shift (q : UInt8) : ∀ (n : Nat) (l : List UInt8) (j d : Nat), l.length ≤ n → quoL q (j + d) l = if quoL q j l = 0 then 0 else quoL q j l + d := by
  intro n
  induction n with
  | zero => intro l j d h; have := List.eq_nil_of_length_eq_zero (by omega : l.length = 0); subst this; simp [quoL]
  | succ n ih =>
    intro l j d h
    match l with
    | [] => simp [quoL]
    | [c] =>
      simp only [quoL]
      split
      · simp
      · split
        · rw [if_neg (by omega)]; omega
        · simp
    | c :: e :: r =>
      simp only [List.length_cons] at h
      have h1 := ih r (j + 2) d (by omega)
      have h2 := ih (e :: r) (j + 1) d (by simp; omega)
      simp only [quoL]
      split
      · simp
      · split
        · rw [show j + d + 2 = j + 2 + d by omega]; exact h1
        · split
          · rw [if_neg (by omega)]; omega
          · rw [show j + d + 1 = j + 1 + d by omega]; exact h2

theorem quoted_shift (A : List UInt8) (i k : Nat) : quotedL A (i + k) = if quotedL (A.drop i) k = 0 then 0 else quotedL (A.drop i) k + i := by
  unfold quotedL
  rw [chAt_drop, List.drop_drop, ← Nat.add_assoc, show i + k + 1 = k + 1 + i by omega]
  exact quoL_shift _ _ _ _ _ (Nat.le_refl _)

theorem num_shift (A : List UInt8) (i : Nat) : numL A i = i + numL (A.drop i) 0 := by
  unfold numL
  simp only [chAt_drop, Nat.add_zero, Nat.zero_add, List.drop_drop]
  split <;> omega

theorem punct_shift (A : List UInt8) (i : Nat) : punctL A i = punctL (A.drop i) 0 := by
  unfold punctL
  simp

theorem next_shift (A : List UInt8) (i : Nat) : nextL A i = ((nextL (A.drop i) 0).1, i + (nextL (A.drop i) 0).2.1, (nextL (A.drop i) 0).2.2) := by
  have hl := letters_shift A i
  have hq := quoted_shift A i (lettersL A i).toNat
  have hn := num_shift A i
  have hp := punct_shift A i
  have hc : chAt A i = chAt (A.drop i) 0 := by rw [chAt_drop]; rfl
  have hc2 : chAt A (i + (lettersL A i).toNat) = chAt (A.drop i) (lettersL A i).toNat := by rw [chAt_drop]
  have hw : A.drop (i + 1) = (A.drop i).drop (0 + 1) := by rw [List.drop_drop, Nat.zero_add]
  unfold nextL
  rw [hn, hp, hc, hc2, hw, hq, hl]
  simp only [Nat.zero_add]
  by_cases h1 : quotedL (A.drop i) (lettersL (A.drop i) 0).toNat = 0
  · simp only [h1, if_true, Nat.lt_irrefl, false_and, and_false, if_false]
    by_cases h2 : lettersL (A.drop i) 0 = 0
    · simp [h2]
    · simp only [h2, if_false]
      by_cases h3 : letterB (chAt (A.drop i) 0) = true
      · simp only [h3, if_true]; simp only [Prod.mk.injEq, and_true, true_and]; omega
      · simp only [h3]
        by_cases h4 : 0 < numL (A.drop i) 0
        · rw [if_pos (by omega : i < i + numL (A.drop i) 0)]; simp [h4]
        · rw [if_neg (by omega : ¬ i < i + numL (A.drop i) 0)]
          by_cases h5 : 0 < punctL (A.drop i) 0
          · simp [h4, h5]
          · simp [h4, h5]
  · have h1p : 0 < quotedL (A.drop i) (lettersL (A.drop i) 0).toNat := by omega
    have h1q : 0 < quotedL (A.drop i) (lettersL (A.drop i) 0).toNat + i := by omega
    simp only [h1, if_false, h1p, h1q, true_and]
    by_cases h2 : 0 ≤ lettersL (A.drop i) 0
    · simp only [h2, true_and, if_true]
      by_cases h3 : chAt (A.drop i) (lettersL (A.drop i) 0).toNat = 34
      · simp [h3, Nat.add_comm]
      · simp [h3, Nat.add_comm]
    · have h0 : ¬ lettersL (A.drop i) 0 = 0 := by omega
      simp only [h2, false_and, if_false, h0]
      by_cases h3 : letterB (chAt (A.drop i) 0) = true
      · simp only [h3, if_true]; simp only [Prod.mk.injEq, and_true, true_and]; omega
      · simp only [h3]
        by_cases h4 : 0 < numL (A.drop i) 0
        · rw [if_pos (by omega : i < i + numL (A.drop i) 0)]; simp [h4]
        · rw [if_neg (by omega : ¬ i < i + numL (A.drop i) 0)]
          by_cases h5 : 0 < punctL (A.drop i) 0
          · simp [h4, h5]
          · simp [h4, h5]

/-! ## quotes without backslashes -/

theorem quoL_cons {q c : UInt8} (hc : c ≠ 92) (j : Nat) (l : List UInt8) : quoL q j (c :: l) = if c = 10 then 0 else if c = q then j + 1 else quoL q (j + 1) l := by
  cases l with
  | nil => simp [quoL]
  | cons d r => simp [quoL, hc]

theorem quoL_find {q : UInt8} : ∀ {l : List UInt8} {j : Nat}, (∀ c ∈ l, c ≠ 92) → 0 < quoL q j l → ∃ body rest, l = body ++ q :: rest ∧ (∀ c ∈ body, c ≠ 10 ∧ c ≠ q ∧ c ≠ 92) ∧ quoL q j l = j + body.length + 1
  | [], j, _, h => by simp [quoL] at h
  | c :: l, j, h92, h => by
    have hc := h92 c (by simp)
    rw [quoL_cons hc] at h ⊢
    split at h
    · omega
    · rename_i h10
      rw [if_neg h10]
      split at h
      · rename_i hq
        subst hq
        exact ⟨[], l, rfl, by simp, by rw [if_pos rfl]; simp⟩
      · rename_i hq
        rw [if_neg hq]
        obtain ⟨body, rest, h1, h2, h3⟩ := quoL_find (fun x hx => h92 x (by simp [hx])) h
        refine ⟨c :: body, rest, by rw [h1]; rfl, ?_, by rw [h3]; simp only [List.length_cons]; omega⟩
        intro x hx
        rcases List.mem_cons.1 hx with rfl | hx
        · exact ⟨h10, hq, hc⟩
        · exact h2 x hx

theorem quoL_body {q : UInt8} (hq : q ≠ 10 ∧ q ≠ 92) : ∀ {body rest : List UInt8} {j : Nat}, (∀ c ∈ body, c ≠ 10 ∧ c ≠ q ∧ c ≠ 92) → quoL q j (body ++ q :: rest) = j + body.length + 1
  | [], rest, j, _ => by
    rw [List.nil_append, quoL_cons hq.2, if_neg hq.1, if_pos rfl]
    simp
  | c :: body, rest, j, h => by
    have hc := h c (by simp)
    rw [List.cons_append, quoL_cons hc.2.2, if_neg hc.1, if_neg hc.2.1, quoL_body hq (fun x hx => h x (by simp [hx]))]
    simp only [List.length_cons]
    omega

/-! ## a token ahead of a blank -/

theorem chAt_app_lt {A B : List UInt8} {i : Nat} (h : i < A.length) : chAt (A ++ B) i = chAt A i := by
  simp [chAt, List.getD_eq_getElem?_getD, List.getElem?_append_left h]
theorem chAt_app_ge {A B : List UInt8} {i : Nat} (h : A.length ≤ i) : chAt (A ++ B) i = chAt B (i - A.length) := by
  simp [chAt, List.getD_eq_getElem?_getD, List.getElem?_append_right h]
theorem chAt_take {A : List UInt8} {i e : Nat} (h : i < e) : chAt (A.take e) i = chAt A i := by
  simp [chAt, List.getD_eq_getElem?_getD, h]

theorem num_blank : ∀ (n : Nat) (l r : List UInt8), l.length ≤ n → numRun (l.take (numRun l) ++ 32 :: r) = numRun l := by
  have hb : ∀ c, expB c 32 = false := by intro c; simp [expB]
  have hr : ∀ r, numRun (32 :: r) = 0 := by
    intro r
    cases r with
    | nil => rfl
    | cons d r => simp [numRun, show expB 32 d = false by simp [expB], show numB 32 = false by decide]
  intro n
  induction n with
  | zero => intro l r h; have := List.eq_nil_of_length_eq_zero (by omega : l.length = 0); subst this; simp [numRun, hr]
  | succ n ih =>
    intro l r h
    match l with
    | [] => simp [numRun, hr]
    | [c] =>
      by_cases hc : numB c = true
      · simp [numRun, hc, hb, hr]
      · simp [numRun, hc, hr]
    | c :: d :: l =>
      simp only [List.length_cons] at h
      by_cases he : expB c d = true
      · have := ih l r (by omega)
        simp [numRun, he, this]
      · by_cases hc : numB c = true
        · have := ih (d :: l) r (by simp; omega)
          have e1 : numRun (c :: d :: l) = numRun (d :: l) + 1 := by simp [numRun, he, hc]
          rw [e1, List.take_succ_cons, List.cons_append]
          cases ht : (d :: l).take (numRun (d :: l)) with
          | nil =>
            rw [ht] at this
            simp only [List.nil_append] at this ⊢
            simp [numRun, hb, hc, this]
          | cons x y =>
            rw [ht] at this
            have hx : x = d := by
              cases hk : numRun (d :: l) with
              | zero => rw [hk] at ht; simp at ht
              | succ k => rw [hk] at ht; simp at ht; exact ht.1.symm
            subst hx
            simp only [List.cons_append] at this ⊢
            simp [numRun, he, hc, this]
        · simp [numRun, he, hc, hr]

theorem while_blank {p : UInt8 → Bool} (hp : p 32 = false) : ∀ (l r : List UInt8), (l.takeWhile p ++ 32 :: r).takeWhile p = l.takeWhile p
  | [], r => by simp [hp]
  | c :: l, r => by
    by_cases hc : p c = true
    · simp [hc, while_blank hp l r]
    · simp [hc, hp]

theorem find_first {α : Type} {p q : α → Bool} : ∀ {l : List α} {a : α}, l.find? p = some a → q a = true → (∀ x ∈ l, q x = true → p x = true) → l.find? q = some a
  | [], a, h, _, _ => by simp at h
  | x :: l, a, h, ha, hq => by
    rw [List.find?_cons] at h ⊢
    cases hx : p x with
    | true => rw [hx] at h; simp only [Option.some.injEq] at h; subst h; rw [ha]
    | false =>
      rw [hx] at h
      have : q x = false := by
        cases hy : q x with
        | false => rfl
        | true => rw [hq x (by simp) hy] at hx; cases hx
      rw [this]
      exact find_first h ha (fun y hy => hq y (by simp [hy]))

/-- a punctuator is cut so where what follows differs, if no longer one begins there -/
theorem punct_same {X Y : List UInt8} {p : List UInt8} (hf : (punctsL.find? fun p => p.isPrefixOf X) = some p) (hy : p <+: Y) (h : ∀ x ∈ punctsL, x <+: Y → x <+: X) : punctL Y 0 = p.length := by
  unfold punctL
  rw [List.drop_zero, find_first (q := fun p => p.isPrefixOf Y) hf (List.isPrefixOf_iff_prefix.2 hy) (fun x hx hq => List.isPrefixOf_iff_prefix.2 (h x hx (List.isPrefixOf_iff_prefix.1 hq)))]
  rfl

theorem puncts_no32 : ∀ p ∈ punctsL, (32 : UInt8) ∉ p ∧ p ≠ [] := by decide

theorem prefix_blank {x t r : List UInt8} (h : x <+: t ++ 32 :: r) (hx : (32 : UInt8) ∉ x) : x <+: t := by
  obtain ⟨s, hs⟩ := h
  rcases List.append_eq_append_iff.1 hs with ⟨a, h1, h2⟩ | ⟨a, h1, h2⟩
  · exact ⟨a, h1.symm⟩
  · cases a with
    | nil => simp at h1; exact ⟨[], by simp [h1]⟩
    | cons b a =>
      exfalso
      apply hx
      simp only [List.cons_append, List.cons.injEq] at h2
      rw [h1, h2.1]
      simp

theorem letters_same {X Y : List UInt8} (h : 0 ≤ lettersL X 0) (hc : ∀ j, j ≤ (lettersL X 0).toNat → chAt Y j = chAt X j) : lettersL Y 0 = lettersL X 0 := by
  revert h hc
  unfold lettersL
  split
  · rename_i h0
    intro _ hc
    rw [hc 0 (Nat.zero_le _), if_pos h0]
  · rename_i h0
    split
    · rename_i h1
      intro _ hc
      rw [hc 0 (by decide), hc 1 (by decide), hc 2 (by decide), if_neg h0, if_pos h1]
    · rename_i h1
      split
      · rename_i h2
        intro _ hc
        rw [hc 0 (by decide), hc 1 (by decide), if_neg h0, if_neg (fun h => by rcases h2.2 with e | e <;> rw [h.2.1] at e <;> exact absurd e (by decide)), if_pos h2]
      · intro h; omega

theorem letters_neg {Y : List UInt8} (h : chAt Y 0 ≠ 34 ∧ chAt Y 0 ≠ 39 ∧ chAt Y 0 ≠ 117 ∧ chAt Y 0 ≠ 76 ∧ chAt Y 0 ≠ 85) : lettersL Y 0 = -1 := by
  unfold lettersL
  rw [if_neg (by simp [h.1, h.2.1]), if_neg (by simp [h.2.2.1]), if_neg (by simp [h.2.2.1, h.2.2.2.1, h.2.2.2.2])]

theorem letters_ident {x : UInt8} {tw r : List UInt8} (hx : letterB x = true) (ht : ∀ c ∈ tw, idB c = true) : lettersL (x :: (tw ++ 32 :: r)) 0 = -1 := by
  have hx0 : x ≠ 34 ∧ x ≠ 39 := ⟨fun e => by rw [e] at hx; exact absurd hx (by decide), fun e => by rw [e] at hx; exact absurd hx (by decide)⟩
  have hid : ∀ c, idB c = true → c ≠ 34 ∧ c ≠ 39 := fun c hc => ⟨fun e => by rw [e] at hc; exact absurd hc (by decide), fun e => by rw [e] at hc; exact absurd hc (by decide)⟩
  unfold lettersL
  have c0 : chAt (x :: (tw ++ 32 :: r)) 0 = x := rfl
  match tw, ht with
  | [], _ =>
    have c1 : chAt (x :: ([] ++ 32 :: r)) 1 = 32 := rfl
    rw [c0, c1, if_neg (by simp [hx0.1, hx0.2]), if_neg (by simp), if_neg (by simp)]
  | [a], ht =>
    have ha := hid a (ht a (by simp))
    have c1 : chAt (x :: ([a] ++ 32 :: r)) 1 = a := rfl
    have c2 : chAt (x :: ([a] ++ 32 :: r)) 2 = 32 := rfl
    rw [c0, c1, c2, if_neg (by simp [hx0.1, hx0.2]), if_neg (by simp), if_neg (by simp [ha.1, ha.2])]
  | a :: b :: tw, ht =>
    have ha := hid a (ht a (by simp))
    have hb := hid b (ht b (by simp))
    have c1 : chAt (x :: (a :: b :: tw ++ 32 :: r)) 1 = a := rfl
    have c2 : chAt (x :: (a :: b :: tw ++ 32 :: r)) 2 = b := rfl
    rw [c0, c1, c2, if_neg (by simp [hx0.1, hx0.2]), if_neg (by simp [hb.1]), if_neg (by simp [ha.1, ha.2])]

theorem takeWhile_mem {p : UInt8 → Bool} : ∀ {l : List UInt8} {c : UInt8}, c ∈ l.takeWhile p → p c = true
  | [], c, h => by simp at h
  | a :: l, c, h => by
    by_cases ha : p a = true
    · rw [List.takeWhile_cons, if_pos ha] at h
      rcases List.mem_cons.1 h with rfl | h
      · exact ha
      · exact takeWhile_mem h
    · rw [List.takeWhile_cons, if_neg ha] at h
      cases h

theorem takeWhile_take (p : UInt8 → Bool) : ∀ (l : List UInt8), l.take (l.takeWhile p).length = l.takeWhile p
  | [] => rfl
  | a :: l => by
    by_cases ha : p a = true
    · rw [List.takeWhile_cons, if_pos ha, List.length_cons, List.take_succ_cons, takeWhile_take p l]
    · rw [List.takeWhile_cons, if_neg ha]; rfl

/-- a token, a blank behind it, is itself -/
theorem next_blank {X r : List UInt8} {k e : Nat} (h : nextL X 0 = (k, e, false)) (hk : k ≠ 6) (hX : 0 < X.length) (h92 : ∀ c ∈ X, c ≠ 92) : nextL (X.take e ++ 32 :: r) 0 = (k, e, false) := by
  have hlen := nextL_len (A := X) hX
  rw [h] at hlen
  simp only at hlen
  have hle : (X.take e).length = e := by rw [List.length_take]; omega
  have hc : ∀ j, j < e → chAt (X.take e ++ 32 :: r) j = chAt X j := fun j hj => by rw [chAt_app_lt (by omega), chAt_take hj]
  have hce : chAt (X.take e ++ 32 :: r) e = 32 := by rw [chAt_app_ge (by omega), hle, Nat.sub_self]; rfl
  have hqd : ∀ n, n + 1 < e → (chAt X n = 34 ∨ chAt X n = 39) → 0 < quotedL X n → quotedL X n = e → quotedL (X.take e ++ 32 :: r) n = e := by
    intro n hn hq h0 he
    have hq2 : chAt X n ≠ 10 ∧ chAt X n ≠ 92 := by rcases hq with e | e <;> rw [e] <;> decide
    unfold quotedL at h0 he ⊢
    obtain ⟨body, rest, h1, h2, h3⟩ := quoL_find (fun c hc => h92 c (List.mem_of_mem_drop hc)) h0
    have hd : (X.take e ++ 32 :: r).drop (n + 1) = body ++ chAt X n :: (32 :: r) := by
      rw [List.drop_append_of_le_length (by omega), List.drop_take, h1, show e - (n + 1) = body.length + 1 by omega, List.take_append, List.take_of_length_le (by omega), show body.length + 1 - body.length = 1 by omega]
      simp
    rw [hc n (by omega), hd, quoL_body hq2 h2]
    omega
  by_cases hA : 0 ≤ lettersL X 0 ∧ 0 < quotedL X (0 + (lettersL X 0).toNat)
  · have hq := (letters_quote (A := X) (i := 0) (by omega)).2
    rw [Nat.zero_add] at hA hq
    have hql := quotedL_le X _ hA.2
    have he : quotedL X (lettersL X 0).toNat = e ∧ ((chAt X (lettersL X 0).toNat = 34 ∧ k = 4) ∨ (chAt X (lettersL X 0).toNat ≠ 34 ∧ k = 3)) := by
      unfold nextL at h
      rw [Nat.zero_add] at h
      by_cases h34 : chAt X (lettersL X 0).toNat = 34
      · rw [if_pos ⟨hA.1, hA.2, h34⟩] at h
        simp only [Prod.mk.injEq] at h
        exact ⟨h.2.1, .inl ⟨h34, h.1.symm⟩⟩
      · rw [if_neg (fun x => h34 x.2.2), if_pos hA] at h
        simp only [Prod.mk.injEq] at h
        exact ⟨h.2.1, .inr ⟨h34, h.1.symm⟩⟩
    have hL := letters_same (Y := X.take e ++ 32 :: r) hA.1 (fun j hj => hc j (by omega))
    have hQ := hqd _ (by omega) hq hA.2 he.1
    unfold nextL
    rw [hL, Nat.zero_add, hQ, hc _ (by omega)]
    rcases he.2 with ⟨h34, rfl⟩ | ⟨h34, rfl⟩
    · rw [if_pos ⟨hA.1, by omega, h34⟩]
    · rw [if_neg (fun x => h34 x.2.2), if_pos ⟨hA.1, by omega⟩]
  · unfold nextL at h
    rw [if_neg (fun x => hA ⟨x.1, x.2.1⟩), if_neg hA] at h
    by_cases hL0 : lettersL X 0 = 0
    · rw [if_pos hL0] at h
      simp only [Prod.mk.injEq] at h
      exact absurd h.1.symm hk
    · rw [if_neg hL0] at h
      have h0q : chAt X 0 ≠ 34 ∧ chAt X 0 ≠ 39 := by
        constructor
        · intro e1; apply hL0; unfold lettersL; rw [if_pos (.inl e1)]
        · intro e1; apply hL0; unfold lettersL; rw [if_pos (.inr e1)]
      by_cases hlet : letterB (chAt X 0) = true
      · rw [if_pos hlet] at h
        simp only [Prod.mk.injEq, Nat.zero_add, and_true] at h
        obtain ⟨rfl, he⟩ := h
        obtain ⟨x, X', rfl⟩ : ∃ x X', X = x :: X' := by cases X with | nil => simp at hX | cons x X' => exact ⟨x, X', rfl⟩
        simp only [List.drop_succ_cons, List.drop_zero] at he
        have ht : (x :: X').take e = x :: X'.takeWhile idB := by
          rw [← he, Nat.add_comm, List.take_succ_cons, takeWhile_take]
        have hx : letterB x = true := hlet
        rw [ht, List.cons_append]
        have hn := letters_ident (r := r) (tw := X'.takeWhile idB) hx (fun c hc => takeWhile_mem hc)
        unfold nextL
        rw [hn, if_neg (by omega), if_neg (by omega), if_neg (by omega), if_pos (show letterB (chAt (x :: (X'.takeWhile idB ++ 32 :: r)) 0) = true from hx), List.drop_succ_cons, List.drop_zero, while_blank (by decide)]
        rw [Nat.zero_add, he]
      · rw [if_neg hlet] at h
        have h0l : chAt X 0 ≠ 117 ∧ chAt X 0 ≠ 76 ∧ chAt X 0 ≠ 85 := by
          refine ⟨?_, ?_, ?_⟩ <;> intro e1 <;> rw [e1] at hlet <;> exact hlet (by decide)
        have hLY : lettersL (X.take e ++ 32 :: r) 0 = -1 := letters_neg (by rw [hc 0 hlen.1]; exact ⟨h0q.1, h0q.2, h0l.1, h0l.2.1, h0l.2.2⟩)
        by_cases hnum : 0 < numL X 0
        · rw [if_pos hnum] at h
          simp only [Prod.mk.injEq, and_true] at h
          obtain ⟨rfl, he⟩ := h
          have hcond : digitB (chAt X 0) = true ∨ chAt X 0 = 46 ∧ digitB (chAt X 1) = true := by
            unfold numL at hnum
            split at hnum
            · assumption
            · exact absurd hnum (by omega)
          have he2 : e = 1 + numRun (X.drop 1) := by
            rw [← he]; unfold numL; rw [if_pos hcond]
          have hcond2 : digitB (chAt (X.take e ++ 32 :: r) 0) = true ∨ chAt (X.take e ++ 32 :: r) 0 = 46 ∧ digitB (chAt (X.take e ++ 32 :: r) 1) = true := by
            rw [hc 0 hlen.1]
            rcases hcond with h1 | h1
            · exact .inl h1
            · refine .inr ⟨h1.1, ?_⟩
              have h1lt : 1 < X.length := by
                rcases Nat.lt_or_ge 1 X.length with h2 | h2
                · exact h2
                · have := h1.2; rw [chAt_ge h2] at this; exact absurd this (by decide)
              have : 0 < numRun (X.drop 1) := by
                rw [num_step h1lt]
                split
                · omega
                · rw [if_pos (by unfold numB; rw [h1.2]; simp)]; omega
              rw [hc 1 (by omega)]
              exact h1.2
          have hdrop : (X.take e ++ 32 :: r).drop 1 = (X.drop 1).take (numRun (X.drop 1)) ++ 32 :: r := by
            rw [List.drop_append_of_le_length (by omega), List.drop_take, show e - 1 = numRun (X.drop 1) by omega]
          have hnY : numL (X.take e ++ 32 :: r) 0 = e := by
            unfold numL
            rw [if_pos hcond2, Nat.zero_add, hdrop, num_blank _ _ _ (Nat.le_refl _)]
            omega
          unfold nextL
          rw [hLY, if_neg (by omega), if_neg (by omega), if_neg (by omega), if_neg (by rw [hc 0 hlen.1]; exact hlet), hnY, if_pos (by omega)]
        · rw [if_neg hnum] at h
          by_cases hp : 0 < punctL X 0
          · rw [if_pos hp] at h
            simp only [Prod.mk.injEq, and_true, Nat.zero_add] at h
            obtain ⟨rfl, he⟩ := h
            obtain ⟨p, hf⟩ : ∃ p, (punctsL.find? fun p => p.isPrefixOf X) = some p := by
              unfold punctL at hp
              rw [List.drop_zero] at hp
              cases hf : punctsL.find? fun p => p.isPrefixOf X with
              | none => rw [hf] at hp; simp at hp
              | some p => exact ⟨p, rfl⟩
            have hpe : p.length = e := by
              rw [← he]; unfold punctL; rw [List.drop_zero, hf]; rfl
            have hpX : p <+: X := by
              have := List.find?_some hf
              exact List.isPrefixOf_iff_prefix.1 this
            have hpt : X.take e = p := by
              rw [← hpe]; exact (List.prefix_iff_eq_take.1 hpX).symm
            have hPY : punctL (X.take e ++ 32 :: r) 0 = e := by
              rw [punct_same hf (by rw [hpt]; exact ⟨_, rfl⟩) (fun x hx hxY => (prefix_blank hxY (puncts_no32 x hx).1).trans (List.take_prefix _ _)), hpe]
            have hnY : numL (X.take e ++ 32 :: r) 0 = 0 := by
              have hn0 : ¬ (digitB (chAt X 0) = true ∨ chAt X 0 = 46 ∧ digitB (chAt X 1) = true) := by
                intro hh
                apply hnum
                unfold numL
                rw [if_pos hh]
                omega
              unfold numL
              rw [if_neg]
              rw [hc 0 hlen.1]
              intro hh
              apply hn0
              rcases hh with hh | hh
              · exact .inl hh
              · right
                refine ⟨hh.1, ?_⟩
                rcases Nat.lt_or_ge 1 e with h2 | h2
                · rw [← hc 1 h2]; exact hh.2
                · have h3 : e = 1 := by omega
                  rw [h3] at hce hh
                  rw [hce] at hh
                  exact absurd hh.2 (by decide)
            unfold nextL
            rw [hLY, if_neg (by omega), if_neg (by omega), if_neg (by omega), if_neg (by rw [hc 0 hlen.1]; exact hlet), hnY, if_neg (by omega), hPY, if_pos (by omega), Nat.zero_add]
          · rw [if_neg hp] at h
            simp only [Prod.mk.injEq] at h
            exact absurd h.1.symm hk
end Go.Proofs.YtfaoamdlknlgpaaGreat

/- The document's One: a text as one token. -/
namespace Go.Proofs.YtfaoamdlknlgpaaGreat
open Go.RowKit
set_option linter.unusedVariables false

/-- a byte as a character without a place -/
def rn0 (c : UInt8) : Rn := ⟨c, 0, 0⟩
theorem cs_rn0 (l : List UInt8) : cs (l.map rn0) = l := by
  unfold cs
  rw [List.map_map]
  exact List.map_id _

theorem letters_take (A : List UInt8) : lettersL (A.take 3) 0 = lettersL A 0 := by
  have h0 := chAt_take (A := A) (i := 0) (e := 3) (by decide)
  have h1 := chAt_take (A := A) (i := 1) (e := 3) (by decide)
  have h2 := chAt_take (A := A) (i := 2) (e := 3) (by decide)
  unfold lettersL
  simp only [Nat.zero_add, h0, h1, h2]

def rowN (l : List UInt8) : List (List Value) := (l.map rn0).map Rn.v
theorem rowN_snoc (l : List UInt8) (c : UInt8) : rowN (l ++ [c]) = rowN l ++ [[.int .u8 c.toNat, .int .i64 0, .int .i64 0]] := by
  simp [rowN, rn0, Rn.v]

theorem byte_at {s : ByteArray} {i : Nat} (hin : i < s.size) : ∃ c, s.data.toList[i]? = some c ∧ (s[i]'hin) = c ∧ s.data.toList.take (i + 1) = s.data.toList.take i ++ [c] := by
  obtain ⟨c, hc⟩ : ∃ c, s.data.toList[i]? = some c := ⟨_, List.getElem?_eq_getElem (by rw [Array.length_toList]; exact hin)⟩
  refine ⟨c, hc, ?_, ?_⟩
  · rw [List.getElem?_eq_some_iff] at hc
    obtain ⟨h1, h2⟩ := hc
    rw [← h2]; simp [ByteArray.getElem_eq_getElem_data]
  · rw [List.take_add_one, hc]
    rfl

set_option maxRecDepth 100000 in
theorem rQuotes_any (s : ByteArray) (w : World) :
    Calls Tryz.prog 47 #[.string s] w fun e w' => e = .returned (.bool (decide (0 ≤ lettersL s.data.toList 0))) ∧ Below w.heap.size w w' := by
  go_enter Tryz.func47, Tryz.ntmps47
  go_wp2_with fail
  go_loopg [3, 4] 3 (fun q v3 v4 wx => ∃ i : Nat, q = 3 - i ∧ i ≤ 3 ∧ i ≤ s.size ∧ v4 = .int .i64 i ∧ Hid (Own wx w.heap.size 85 3 v3 (rowN (s.data.toList.take i))) ∧ Hid (Below w.heap.size w wx))
  case atStart => exact ⟨0, rfl, Nat.zero_le _, Nat.zero_le _, rfl, Lib.hid (Own.nil _ _ _ _), Lib.hid (Below.refl _ _)⟩
  case round =>
    obtain ⟨i, hq, hi, hi2, rfl, ho, hb⟩ := hrel
    replace hq := hq.symm
    subst hq
    have hsB := hb.out.size
    by_cases hin : i < s.size
    · have hin' : (i : Int) < s.size := by omega
      by_cases h3 : i < 3
      · have h3' : (i : Int) < 3 := by omega
        have f4 : Hid (3 - (i + 1) < 3 - i) := Lib.hid (by omega)
        have g1 : IntKind.i64.wrap ((i : Int) + 1) = (i : Int) + 1 := IntWalk.i64_in _ (by omega)
        obtain ⟨c, hc, hci, hst⟩ := byte_at hin
        have hlen : (rowN (s.data.toList.take i)).length + 1 ≤ 1000000000 := by
          unfold rowN
          rw [List.length_map, List.length_map, List.length_take]
          omega
        replace hst := Lib.hid hst
        clear hc
        go_wp2_with (at_builtin; go_must (refine wpList_append1 E28 rfl rfl ho.out rfl rfl (news := [.int .u8 c.toNat, .int .i64 0, .int .i64 0]) (by simp) rfl (by simp [Value.oneCell']) hlen (by decide) hsB ?_); intro v5 w5 hown5 hg5; have hb5 := bapp hb.out ho.out hg5 hsB)
        go_roundg (3 - (i + 1))
        case measure => exact f4.out
        case rel => exact ⟨i + 1, rfl, by omega, by omega, by simp, Lib.hid (by rw [hst.out, rowN_snoc]; exact hown5), Lib.hid hb5⟩
      · have h3' : ¬ (i : Int) < 3 := by omega
        have hi3 : i = 3 := by omega
        subst hi3
        obtain ⟨ao, cap, rfl, _, _, hrow, _⟩ := ho.out.rown (n := ((s.data.toList.take 3).map rn0).length) (by unfold rowN; simp)
        have HL := rletters_any ((s.data.toList.take 3).map rn0) ao cap 0 (by rw [List.length_map, List.length_take]; omega) (by decide) wr hrow
        rw [cs_rn0, letters_take] at HL
        generalize ((s.data.toList.take 3).map rn0).length = m at HL
        obtain ⟨L, hL⟩ : ∃ L, L = lettersL s.data.toList 0 := ⟨_, rfl⟩
        rw [← hL] at HL
        replace hL := Lib.hid hL
        replace HL := Lib.hid HL
        clear hrow
        go_wp2_with fail
        refine HL.out.mono ?_
        rintro e w2 ⟨rfl, hw⟩
        replace hw := hw.symm
        subst hw
        go_wp2
        go_ret
        exact ⟨by rw [← hL.out]; rfl, hb.out⟩
    · have hin' : ¬ (i : Int) < s.size := by omega
      have hie : i = s.size := by omega
      have htk : s.data.toList.take i = s.data.toList := List.take_of_length_le (by rw [Array.length_toList, hie]; exact Nat.le_refl _)
      have hsl : s.data.toList.length ≤ 3 := by rw [Array.length_toList]; show s.size ≤ 3; omega
      rw [htk] at ho
      obtain ⟨ao, cap, rfl, _, _, hrow, _⟩ := ho.out.rown (n := (s.data.toList.map rn0).length) (by unfold rowN; simp)
      have HL := rletters_any (s.data.toList.map rn0) ao cap 0 (by rw [List.length_map]; omega) (by decide) wr hrow
      rw [cs_rn0] at HL
      generalize (s.data.toList.map rn0).length = m at HL
      obtain ⟨L, hL⟩ : ∃ L, L = lettersL s.data.toList 0 := ⟨_, rfl⟩
      rw [← hL] at HL
      replace hL := Lib.hid hL
      replace HL := Lib.hid HL
      clear hrow htk hsl
      go_wp2_with fail
      refine HL.out.mono ?_
      rintro e w2 ⟨rfl, hw⟩
      replace hw := hw.symm
      subst hw
      go_wp2
      go_ret
      exact ⟨by rw [← hL.out]; rfl, hb.out⟩

/-- does a byte bar One? -/
def barB (A : List UInt8) (c : UInt8) : Bool := whiteB c && !decide (0 ≤ lettersL A 0) || decide (c = 10)

/-- a text as one token, by the document: its kind -/
def oneR (A : List UInt8) : Option Nat :=
  if A.any (barB A) = true ∨ A = [] ∨ 0 < (commentL A 0).1 ∨ (nextL A 0).2.2 = true ∨ (nextL A 0).2.1 ≠ A.length then none else some (nextL A 0).1

def oneTokR (A : List UInt8) : List Value :=
  match oneR A with
  | none => [.int .i64 0, .string ⟨#[]⟩, .bool false, .string ⟨#[]⟩, .int .i64 0, .int .i64 0, .bool false, .slice none 0 0]
  | some k => [.int .i64 k, .string ⟨A.toArray⟩, .bool false, .string ⟨#[]⟩, .int .i64 0, .int .i64 0, .bool false, .slice none 0 0]

theorem one_bad {A : List UInt8} (h : oneR A = none) : oneTokR A = [.int .i64 0, .string ⟨#[]⟩, .bool false, .string ⟨#[]⟩, .int .i64 0, .int .i64 0, .bool false, .slice none 0 0] ∧ (oneR A).isSome = false := by
  unfold oneTokR
  rw [h]
  exact ⟨rfl, rfl⟩

set_option maxRecDepth 100000 in
set_option maxHeartbeats 1000000 in
theorem rOne_any (s : ByteArray) (hs : s.size ≤ 1000000) (w : World) :
    Calls Tryz.prog 20 #[.string s] w fun e w' => e = .returned (.tuple #[.agg (oneTokR s.data.toList).toArray, .bool (oneR s.data.toList).isSome]) ∧ Below w.heap.size w w' := by
  have HW := Lib.hid (fun c W => rWhite_any c W)
  have HQ := Lib.hid (fun W => rQuotes_any s W)
  obtain ⟨W1, hW1⟩ : ∃ W1, W1 = w.alloc (.cells #[.int .i64 0, .string ⟨#[]⟩, .bool false, .string ⟨#[]⟩, .int .i64 0, .int .i64 0, .bool false, .slice none 0 0] 34) := ⟨_, rfl⟩
  have hb1 : Hid (Below w.heap.size w W1) := Lib.hid (by rw [hW1]; exact (Below.refl _ w).alloc (Nat.le_refl _) _)
  have hc1 : W1.heap[w.heap.size]? = some (.cells #[.int .i64 0, .string ⟨#[]⟩, .bool false, .string ⟨#[]⟩, .int .i64 0, .int .i64 0, .bool false, .slice none 0 0] 34 (0, 0)) := by rw [hW1]; exact heap_alloc_new w _
  replace hc1 := Lib.hid hc1
  have hlt1 : Hid (w.heap.size < W1.heap.size) := Lib.hid (by rw [hW1]; simp)
  go_enter Tryz.func20, Tryz.ntmps20
  go_wp2_with fail
  rw [← hW1]
  replace hW1 := Lib.hid hW1
  go_loopg [4, 5] s.size (fun q v4 v5 wx => ∃ i : Nat, q = s.size - i ∧ i ≤ s.size ∧ v5 = .int .i64 i ∧ Hid (Own wx W1.heap.size 85 3 v4 (rowN (s.data.toList.take i))) ∧ Hid (Below W1.heap.size W1 wx) ∧ Hid ((s.data.toList.take i).any (barB s.data.toList) = false))
  case atStart => exact ⟨0, rfl, Nat.zero_le _, rfl, Lib.hid (Own.nil _ _ _ _), Lib.hid (Below.refl _ _), Lib.hid (by simp)⟩
  case round =>
    obtain ⟨i, hq, hi, rfl, ho, hb, hbar⟩ := hrel
    replace hq := hq.symm
    subst hq
    have hsB := hb.out.size
    by_cases hin : i < s.size
    · have hin' : (i : Int) < s.size := by omega
      have f4 : Hid (s.size - (i + 1) < s.size - i) := Lib.hid (by omega)
      have g1 : IntKind.i64.wrap ((i : Int) + 1) = (i : Int) + 1 := IntWalk.i64_in _ (by omega)
      obtain ⟨c, hc, hci, hst⟩ := byte_at hin
      have hno : barB s.data.toList c = true → oneR s.data.toList = none := fun h => if_pos (.inl (List.any_eq_true.2 ⟨c, List.mem_of_getElem? hc, h⟩))
      have hgo : barB s.data.toList c = false → (s.data.toList.take (i + 1)).any (barB s.data.toList) = false := fun h => by
        rw [hst, List.any_append, hbar.out]
        simp [h]
      have hlen : (rowN (s.data.toList.take i)).length + 1 ≤ 1000000000 := by
        unfold rowN
        rw [List.length_map, List.length_map, List.length_take]
        omega
      replace hst := Lib.hid hst
      have HWc := HW.out c wr
      unfold barB at hno hgo
      clear hc
      cases hw : whiteB c with
      | true =>
        have hc10 : c ≠ 10 := by rintro rfl; exact absurd hw (by decide)
        have hc10' : (((c.toNat : Nat) : Int) == 10) = false := by
          apply beq_false_of_ne
          intro h
          exact hc10 (u8_of (n := 10) (by decide) h)
        rw [hw] at HWc hno hgo
        replace HWc := Lib.hid HWc
        have HQc := HQ.out wr
        cases hl : decide (0 ≤ lettersL s.data.toList 0) with
        | true =>
          rw [hl] at HQc
          replace HQc := Lib.hid HQc
          have hgo' := Lib.hid (hgo (by simp only [hl, decide_eq_false hc10]; rfl))
          clear hno hgo
          go_wp2_with fail
          refine HWc.out.mono ?_
          rintro e w2 ⟨rfl, hw2⟩
          replace hw2 := hw2.symm
          subst hw2
          go_wp2_with fail
          refine HQc.out.mono ?_
          rintro e w3 ⟨rfl, hb3⟩
          have ho3 := ho.out.below hb3
          have hbb := hb.out.trans (hb3.mono hsB)
          have hsB3 := hbb.size
          clear hb3
          go_wp2_with (at_builtin; go_must (refine wpList_append1 E28 rfl rfl ho3 rfl rfl (news := [.int .u8 c.toNat, .int .i64 0, .int .i64 0]) (by simp) rfl (by simp [Value.oneCell']) hlen (by decide) hsB3 ?_); intro v9 w9 hown9 hg9; have hb9 := bapp hbb ho3 hg9 hsB3)
          go_roundg (s.size - (i + 1))
          case measure => exact f4.out
          case rel => exact ⟨i + 1, rfl, by omega, by simp, Lib.hid (by rw [hst.out, rowN_snoc]; exact hown9), Lib.hid hb9, hgo'⟩
        | false =>
          rw [hl] at HQc
          replace HQc := Lib.hid HQc
          have hno' := Lib.hid (hno (by simp only [hl]; rfl))
          clear hno hgo
          go_wp2_with fail
          refine HWc.out.mono ?_
          rintro e w2 ⟨rfl, hw2⟩
          replace hw2 := hw2.symm
          subst hw2
          go_wp2_with fail
          refine HQc.out.mono ?_
          rintro e w3 ⟨rfl, hb3⟩
          have hbb := hb.out.trans (hb3.mono hsB)
          have hRq := (hbb.block w.heap.size (by have := hlt1.out; omega)).trans hc1.out
          have hBq : Below w.heap.size w w3 := hb1.out.trans (hbb.mono hb1.out.size)
          obtain ⟨r0, r1, r2, r3, r4, r5, r6, r7⟩ := cells8x hRq
          have fr := fun j => Lib.frozen_of_heap hRq j
          have hg := set8_at (b0 := .int .i64 0) (b1 := .string ⟨#[]⟩) (b2 := .bool false) (b3 := .string ⟨#[]⟩) (b4 := .int .i64 0) (b5 := .int .i64 0) (b6 := .bool false) (b7 := .slice none 0 0) hRq
          have hfin : Hid ((Ending.returned (.tuple #[.agg #[.int .i64 0, .string ⟨#[]⟩, .bool false, .string ⟨#[]⟩, .int .i64 0, .int .i64 0, .bool false, .slice none 0 0], .bool false]) = .returned (.tuple #[.agg (oneTokR s.data.toList).toArray, .bool (oneR s.data.toList).isSome])) ∧ Below w.heap.size w (set8 w3 w.heap.size (.int .i64 0) (.string ⟨#[]⟩) (.bool false) (.string ⟨#[]⟩) (.int .i64 0) (.int .i64 0) (.bool false) (.slice none 0 0))) := Lib.hid ⟨by rw [(one_bad hno'.out).1, (one_bad hno'.out).2], set8_below hBq (Nat.le_refl _)⟩
          obtain ⟨m0, m1, m2, m3, m4, m5, m6, m7⟩ := cells8x hg
          clear hg
          unfold set8 at m0 m1 m2 m3 m4 m5 m6 m7
          go_wp2
          refine bodyPost_ret (v := .tuple #[.agg #[.int .i64 0, .string ⟨#[]⟩, .bool false, .string ⟨#[]⟩, .int .i64 0, .int .i64 0, .bool false, .slice none 0 0], .bool false]) (by simp [results, Tryz.results20, go_sem, m0, m1, m2, m3, m4, m5, m6, m7]) rfl hfin.out
      | false =>
        rw [hw] at HWc hno hgo
        replace HWc := Lib.hid HWc
        by_cases hc10 : c = 10
        · have hc10' : (((c.toNat : Nat) : Int) == 10) = true := by rw [hc10]; rfl
          have hno' := Lib.hid (hno (by simp only [decide_eq_true hc10]; rfl))
          clear hno hgo
          replace hc10 := Lib.hid hc10
          go_wp2_with fail
          refine HWc.out.mono ?_
          rintro e w2 ⟨rfl, hw2⟩
          replace hw2 := hw2.symm
          subst hw2
          have hRq := (hb.out.block w.heap.size (by have := hlt1.out; omega)).trans hc1.out
          have hBq : Below w.heap.size w wr := hb1.out.trans (hb.out.mono hb1.out.size)
          obtain ⟨r0, r1, r2, r3, r4, r5, r6, r7⟩ := cells8x hRq
          have fr := fun j => Lib.frozen_of_heap hRq j
          have hg := set8_at (b0 := .int .i64 0) (b1 := .string ⟨#[]⟩) (b2 := .bool false) (b3 := .string ⟨#[]⟩) (b4 := .int .i64 0) (b5 := .int .i64 0) (b6 := .bool false) (b7 := .slice none 0 0) hRq
          have hfin : Hid ((Ending.returned (.tuple #[.agg #[.int .i64 0, .string ⟨#[]⟩, .bool false, .string ⟨#[]⟩, .int .i64 0, .int .i64 0, .bool false, .slice none 0 0], .bool false]) = .returned (.tuple #[.agg (oneTokR s.data.toList).toArray, .bool (oneR s.data.toList).isSome])) ∧ Below w.heap.size w (set8 wr w.heap.size (.int .i64 0) (.string ⟨#[]⟩) (.bool false) (.string ⟨#[]⟩) (.int .i64 0) (.int .i64 0) (.bool false) (.slice none 0 0))) := Lib.hid ⟨by rw [(one_bad hno'.out).1, (one_bad hno'.out).2], set8_below hBq (Nat.le_refl _)⟩
          obtain ⟨m0, m1, m2, m3, m4, m5, m6, m7⟩ := cells8x hg
          clear hg
          unfold set8 at m0 m1 m2 m3 m4 m5 m6 m7
          go_wp2
          refine bodyPost_ret (v := .tuple #[.agg #[.int .i64 0, .string ⟨#[]⟩, .bool false, .string ⟨#[]⟩, .int .i64 0, .int .i64 0, .bool false, .slice none 0 0], .bool false]) (by simp [results, Tryz.results20, go_sem, m0, m1, m2, m3, m4, m5, m6, m7]) rfl hfin.out
        · have hc10' : (((c.toNat : Nat) : Int) == 10) = false := by
            apply beq_false_of_ne
            intro h
            exact hc10 (u8_of (n := 10) (by decide) h)
          have hgo' := Lib.hid (hgo (by simp only [decide_eq_false hc10]; rfl))
          clear hno hgo
          go_wp2_with fail
          refine HWc.out.mono ?_
          rintro e w2 ⟨rfl, hw2⟩
          replace hw2 := hw2.symm
          subst hw2
          have ho2 := ho.out
          go_wp2_with (at_builtin; go_must (refine wpList_append1 E28 rfl rfl ho2 rfl rfl (news := [.int .u8 c.toNat, .int .i64 0, .int .i64 0]) (by simp) rfl (by simp [Value.oneCell']) hlen (by decide) hsB ?_); intro v9 w9 hown9 hg9; have hb9 := bapp hb.out ho2 hg9 hsB)
          go_roundg (s.size - (i + 1))
          case measure => exact f4.out
          case rel => exact ⟨i + 1, rfl, by omega, by simp, Lib.hid (by rw [hst.out, rowN_snoc]; exact hown9), Lib.hid hb9, hgo'⟩
    · have hin' : ¬ (i : Int) < s.size := by omega
      have hie : i = s.size := by omega
      have hsl : s.data.toList.length = s.size := Array.length_toList
      have htk : s.data.toList.take i = s.data.toList := List.take_of_length_le (by rw [hsl, hie]; exact Nat.le_refl _)
      rw [htk] at ho hbar
      have hs2 : (⟨s.data.toList.toArray⟩ : ByteArray) = s := by cases s; simp
      obtain ⟨A, hA⟩ : ∃ A, A = s.data.toList := ⟨_, rfl⟩
      have hRn : (A.map rn0).length = s.size := by rw [List.length_map, hA, hsl]
      obtain ⟨ao, cap, rfl, _, _, hrow, _⟩ := ho.out.rown (n := s.size) (by unfold rowN; rw [List.length_map, ← hA, hRn])
      rw [← hA] at hrow
      by_cases hz : s.size = 0
      · have hz' : ((s.size : Int) == 0) = true := by rw [hz]; rfl
        have hno' : oneR s.data.toList = none := if_pos (.inr (.inl (List.eq_nil_of_length_eq_zero (by rw [hsl, hz]))))
        replace hno' := Lib.hid hno'
        replace hz := Lib.hid hz
        clear hrow hRn hA hs2 htk hsl
        have hRq := (hb.out.block w.heap.size (by have := hlt1.out; omega)).trans hc1.out
        have hBq : Below w.heap.size w wr := hb1.out.trans (hb.out.mono hb1.out.size)
        obtain ⟨r0, r1, r2, r3, r4, r5, r6, r7⟩ := cells8x hRq
        have fr := fun j => Lib.frozen_of_heap hRq j
        have hg := set8_at (b0 := .int .i64 0) (b1 := .string ⟨#[]⟩) (b2 := .bool false) (b3 := .string ⟨#[]⟩) (b4 := .int .i64 0) (b5 := .int .i64 0) (b6 := .bool false) (b7 := .slice none 0 0) hRq
        have hfin : Hid ((Ending.returned (.tuple #[.agg #[.int .i64 0, .string ⟨#[]⟩, .bool false, .string ⟨#[]⟩, .int .i64 0, .int .i64 0, .bool false, .slice none 0 0], .bool false]) = .returned (.tuple #[.agg (oneTokR s.data.toList).toArray, .bool (oneR s.data.toList).isSome])) ∧ Below w.heap.size w (set8 wr w.heap.size (.int .i64 0) (.string ⟨#[]⟩) (.bool false) (.string ⟨#[]⟩) (.int .i64 0) (.int .i64 0) (.bool false) (.slice none 0 0))) := Lib.hid ⟨by rw [(one_bad hno'.out).1, (one_bad hno'.out).2], set8_below hBq (Nat.le_refl _)⟩
        obtain ⟨m0, m1, m2, m3, m4, m5, m6, m7⟩ := cells8x hg
        clear hg
        unfold set8 at m0 m1 m2 m3 m4 m5 m6 m7
        go_wp2
        refine bodyPost_ret (v := .tuple #[.agg #[.int .i64 0, .string ⟨#[]⟩, .bool false, .string ⟨#[]⟩, .int .i64 0, .int .i64 0, .bool false, .slice none 0 0], .bool false]) (by simp [results, Tryz.results20, go_sem, m0, m1, m2, m3, m4, m5, m6, m7]) rfl hfin.out
      · have hz' : ((s.size : Int) == 0) = false := beq_false_of_ne (by omega)
        have HC := rcomment_any (A.map rn0) ao cap 0 (by rw [hRn]; omega) (Nat.zero_le _) wr hrow
        have HN := rnext_any (A.map rn0) ao cap 0 (by rw [hRn]; omega) (by rw [hRn]; omega) wr hrow
        rw [cs_rn0, hRn] at HC HN
        have hval : oneR s.data.toList = if 0 < (commentL A 0).1 ∨ (nextL A 0).2.2 = true ∨ (nextL A 0).2.1 ≠ s.size then none else some (nextL A 0).1 := by
          unfold oneR
          rw [← hA, ← hsl, ← hA]
          rw [← hA] at hbar
          have hne : A ≠ [] := by
            intro e
            rw [e] at hRn
            simp at hRn
            omega
          simp only [hbar.out, hne, Bool.false_eq_true, false_or]
        generalize (commentL A 0).2 = jb at HC
        generalize (commentL A 0).1 = j at HC hval
        generalize nextL A 0 = nx at HN hval
        obtain ⟨k, e, bd⟩ := nx
        simp only at HN hval
        have hok : ¬ (0 < j ∨ bd = true ∨ e ≠ s.size) → Ending.returned (.tuple #[.agg #[.int .i64 k, .string s, .bool false, .string ⟨#[]⟩, .int .i64 0, .int .i64 0, .bool false, .slice none 0 0], .bool true]) = .returned (.tuple #[.agg (oneTokR s.data.toList).toArray, .bool (oneR s.data.toList).isSome]) := fun h => by
          rw [if_neg h] at hval
          unfold oneTokR
          rw [hval]
          show _ = Ending.returned (.tuple #[.agg #[.int .i64 k, .string ⟨s.data.toList.toArray⟩, .bool false, .string ⟨#[]⟩, .int .i64 0, .int .i64 0, .bool false, .slice none 0 0], .bool true])
          rw [hs2]
        have hno : (0 < j ∨ bd = true ∨ e ≠ s.size) → oneR s.data.toList = none := fun h => by rw [hval, if_pos h]
        replace HC := Lib.hid HC
        replace HN := Lib.hid HN
        clear hrow hRn hA hs2 htk hsl hval
        replace hok := Lib.hid hok
        replace hno := Lib.hid hno
        replace hie := Lib.hid hie
        by_cases hj : 0 < j
        · have hj' : (0 : Int) < j := by omega
          go_wp2_with fail
          refine HC.out.mono ?_
          rintro e w2 ⟨rfl, hw2⟩
          replace hw2 := hw2.symm
          subst hw2
          have hRq := (hb.out.block w.heap.size (by have := hlt1.out; omega)).trans hc1.out
          have hBq : Below w.heap.size w wr := hb1.out.trans (hb.out.mono hb1.out.size)
          obtain ⟨r0, r1, r2, r3, r4, r5, r6, r7⟩ := cells8x hRq
          have fr := fun j => Lib.frozen_of_heap hRq j
          have hg := set8_at (b0 := .int .i64 0) (b1 := .string ⟨#[]⟩) (b2 := .bool false) (b3 := .string ⟨#[]⟩) (b4 := .int .i64 0) (b5 := .int .i64 0) (b6 := .bool false) (b7 := .slice none 0 0) hRq
          have hfin : Hid ((Ending.returned (.tuple #[.agg #[.int .i64 0, .string ⟨#[]⟩, .bool false, .string ⟨#[]⟩, .int .i64 0, .int .i64 0, .bool false, .slice none 0 0], .bool false]) = .returned (.tuple #[.agg (oneTokR s.data.toList).toArray, .bool (oneR s.data.toList).isSome])) ∧ Below w.heap.size w (set8 wr w.heap.size (.int .i64 0) (.string ⟨#[]⟩) (.bool false) (.string ⟨#[]⟩) (.int .i64 0) (.int .i64 0) (.bool false) (.slice none 0 0))) := Lib.hid ⟨by rw [(one_bad (hno.out (.inl hj))).1, (one_bad (hno.out (.inl hj))).2], set8_below hBq (Nat.le_refl _)⟩
          obtain ⟨m0, m1, m2, m3, m4, m5, m6, m7⟩ := cells8x hg
          clear hg
          unfold set8 at m0 m1 m2 m3 m4 m5 m6 m7
          go_wp2
          refine bodyPost_ret (v := .tuple #[.agg #[.int .i64 0, .string ⟨#[]⟩, .bool false, .string ⟨#[]⟩, .int .i64 0, .int .i64 0, .bool false, .slice none 0 0], .bool false]) (by simp [results, Tryz.results20, go_sem, m0, m1, m2, m3, m4, m5, m6, m7]) rfl hfin.out
        · have hj' : ¬ (0 : Int) < j := by omega
          cases bd with
          | true =>
            go_wp2_with fail
            refine HC.out.mono ?_
            rintro e w2 ⟨rfl, hw2⟩
            replace hw2 := hw2.symm
            subst hw2
            go_wp2_with fail
            refine HN.out.mono ?_
            rintro e w3 ⟨rfl, hb3⟩
            have hbb := hb.out.trans (hb3.mono hsB)
            have hRq := (hbb.block w.heap.size (by have := hlt1.out; omega)).trans hc1.out
            have hBq : Below w.heap.size w w3 := hb1.out.trans (hbb.mono hb1.out.size)
            obtain ⟨r0, r1, r2, r3, r4, r5, r6, r7⟩ := cells8x hRq
            have fr := fun j => Lib.frozen_of_heap hRq j
            have hg := set8_at (b0 := .int .i64 0) (b1 := .string ⟨#[]⟩) (b2 := .bool false) (b3 := .string ⟨#[]⟩) (b4 := .int .i64 0) (b5 := .int .i64 0) (b6 := .bool false) (b7 := .slice none 0 0) hRq
            have hfin : Hid ((Ending.returned (.tuple #[.agg #[.int .i64 0, .string ⟨#[]⟩, .bool false, .string ⟨#[]⟩, .int .i64 0, .int .i64 0, .bool false, .slice none 0 0], .bool false]) = .returned (.tuple #[.agg (oneTokR s.data.toList).toArray, .bool (oneR s.data.toList).isSome])) ∧ Below w.heap.size w (set8 w3 w.heap.size (.int .i64 0) (.string ⟨#[]⟩) (.bool false) (.string ⟨#[]⟩) (.int .i64 0) (.int .i64 0) (.bool false) (.slice none 0 0))) := Lib.hid ⟨by rw [(one_bad (hno.out (.inr (.inl trivial)))).1, (one_bad (hno.out (.inr (.inl trivial)))).2], set8_below hBq (Nat.le_refl _)⟩
            obtain ⟨m0, m1, m2, m3, m4, m5, m6, m7⟩ := cells8x hg
            clear hg
            unfold set8 at m0 m1 m2 m3 m4 m5 m6 m7
            go_wp2
            refine bodyPost_ret (v := .tuple #[.agg #[.int .i64 0, .string ⟨#[]⟩, .bool false, .string ⟨#[]⟩, .int .i64 0, .int .i64 0, .bool false, .slice none 0 0], .bool false]) (by simp [results, Tryz.results20, go_sem, m0, m1, m2, m3, m4, m5, m6, m7]) rfl hfin.out
          | false =>
            by_cases he : e = s.size
            · have hok' := Lib.hid (hok.out (by simp [hj, he]))
              subst he
              go_wp2_with fail
              refine HC.out.mono ?_
              rintro e w2 ⟨rfl, hw2⟩
              replace hw2 := hw2.symm
              subst hw2
              go_wp2_with fail
              refine HN.out.mono ?_
              rintro e w3 ⟨rfl, hb3⟩
              have hbb := hb.out.trans (hb3.mono hsB)
              have hRq := (hbb.block w.heap.size (by have := hlt1.out; omega)).trans hc1.out
              have hBq : Below w.heap.size w w3 := hb1.out.trans (hbb.mono hb1.out.size)
              obtain ⟨r0, r1, r2, r3, r4, r5, r6, r7⟩ := cells8x hRq
              have fr := fun j => Lib.frozen_of_heap hRq j
              have hg := set8_at (b0 := .int .i64 k) (b1 := .string s) (b2 := .bool false) (b3 := .string ⟨#[]⟩) (b4 := .int .i64 0) (b5 := .int .i64 0) (b6 := .bool false) (b7 := .slice none 0 0) hRq
              have hfin : Hid ((Ending.returned (.tuple #[.agg #[.int .i64 k, .string s, .bool false, .string ⟨#[]⟩, .int .i64 0, .int .i64 0, .bool false, .slice none 0 0], .bool true]) = .returned (.tuple #[.agg (oneTokR s.data.toList).toArray, .bool (oneR s.data.toList).isSome])) ∧ Below w.heap.size w (set8 w3 w.heap.size (.int .i64 k) (.string s) (.bool false) (.string ⟨#[]⟩) (.int .i64 0) (.int .i64 0) (.bool false) (.slice none 0 0))) := Lib.hid ⟨by exact hok'.out, set8_below hBq (Nat.le_refl _)⟩
              obtain ⟨m0, m1, m2, m3, m4, m5, m6, m7⟩ := cells8x hg
              clear hg
              unfold set8 at m0 m1 m2 m3 m4 m5 m6 m7
              go_wp2
              refine bodyPost_ret (v := .tuple #[.agg #[.int .i64 k, .string s, .bool false, .string ⟨#[]⟩, .int .i64 0, .int .i64 0, .bool false, .slice none 0 0], .bool true]) (by simp [results, Tryz.results20, go_sem, m0, m1, m2, m3, m4, m5, m6, m7]) rfl hfin.out
            · have he' : ((e : Int) == s.size) = false := beq_false_of_ne (by omega)
              have he1 : ((e : Int) != s.size) = true := by rw [bne, he']; rfl
              have he2 : (e == s.size) = false := beq_false_of_ne he
              have he3 : (e != s.size) = true := by rw [bne, he2]; rfl
              have he4 : decide (e = s.size) = false := decide_eq_false he
              have he5 : decide ((e : Int) = s.size) = false := decide_eq_false (by omega)
              have hno' := Lib.hid (hno.out (.inr (.inr he)))
              go_wp2_with fail
              refine HC.out.mono ?_
              rintro e w2 ⟨rfl, hw2⟩
              replace hw2 := hw2.symm
              subst hw2
              go_wp2_with fail
              refine HN.out.mono ?_
              rintro e w3 ⟨rfl, hb3⟩
              have hbb := hb.out.trans (hb3.mono hsB)
              have hRq := (hbb.block w.heap.size (by have := hlt1.out; omega)).trans hc1.out
              have hBq : Below w.heap.size w w3 := hb1.out.trans (hbb.mono hb1.out.size)
              obtain ⟨r0, r1, r2, r3, r4, r5, r6, r7⟩ := cells8x hRq
              have fr := fun j => Lib.frozen_of_heap hRq j
              have hg := set8_at (b0 := .int .i64 0) (b1 := .string ⟨#[]⟩) (b2 := .bool false) (b3 := .string ⟨#[]⟩) (b4 := .int .i64 0) (b5 := .int .i64 0) (b6 := .bool false) (b7 := .slice none 0 0) hRq
              have hfin : Hid ((Ending.returned (.tuple #[.agg #[.int .i64 0, .string ⟨#[]⟩, .bool false, .string ⟨#[]⟩, .int .i64 0, .int .i64 0, .bool false, .slice none 0 0], .bool false]) = .returned (.tuple #[.agg (oneTokR s.data.toList).toArray, .bool (oneR s.data.toList).isSome])) ∧ Below w.heap.size w (set8 w3 w.heap.size (.int .i64 0) (.string ⟨#[]⟩) (.bool false) (.string ⟨#[]⟩) (.int .i64 0) (.int .i64 0) (.bool false) (.slice none 0 0))) := Lib.hid ⟨by rw [(one_bad hno'.out).1, (one_bad hno'.out).2], set8_below hBq (Nat.le_refl _)⟩
              obtain ⟨m0, m1, m2, m3, m4, m5, m6, m7⟩ := cells8x hg
              clear hg
              unfold set8 at m0 m1 m2 m3 m4 m5 m6 m7
              go_wp2
              refine bodyPost_ret (v := .tuple #[.agg #[.int .i64 0, .string ⟨#[]⟩, .bool false, .string ⟨#[]⟩, .int .i64 0, .int .i64 0, .bool false, .slice none 0 0], .bool false]) (by simp [results, Tryz.results20, go_sem, m0, m1, m2, m3, m4, m5, m6, m7]) rfl hfin.out
end Go.Proofs.YtfaoamdlknlgpaaGreat
