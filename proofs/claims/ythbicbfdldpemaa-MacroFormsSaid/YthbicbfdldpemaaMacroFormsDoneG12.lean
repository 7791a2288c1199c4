/- Texts of this seat's proofs, laid into one file. -/
import Derived.Test.YthbicbfdldpemaaMacroFormsDoneG11
import Derived.Test.YthbicbfdldpemaaMacroFormsDoneG6
/- Chapter 5, plain Lean: a token hangs on what stands from its place on; and it is itself ahead of a blank. -/
namespace Go.Proofs.Ythbicbfdldpemaa
set_option linter.unusedVariables false

theorem chAt_drop (A : List UInt8) (i j : Nat) : chAt (A.drop i) j = chAt A (i + j) := by
  simp [chAt, List.getD_eq_getElem?_getD]

theorem letters_shift (A : List UInt8) (i : Nat) : lettersL A i = lettersL (A.drop i) 0 := by
  unfold lettersL
  simp [chAt_drop]

theorem quoL_shift (q : UInt8) : ∀ (n : Nat) (l : List UInt8) (j d : Nat), l.length ≤ n → quoL q (j + d) l = if quoL q j l = 0 then 0 else quoL q j l + d := by
  intro n
  induction n with
  | zero => intro l j d h; have := List.eq_nil_of_length_eq_zero (by omega : l.length = 0); subst this; simp [quoL]
  | succ n ih =>
    intro l j d h
    match l with
    | [] => simp [quoL]
    | [c] =>
      simp only [quoL]
      split
      · simp
      · split
        · rw [if_neg (by omega)]; omega
        · simp
    | c :: e :: r =>
      simp only [List.length_cons] at h
      have h1 := ih r (j + 2) d (by omega)
      have h2 := ih (e :: r) (j + 1) d (by simp; omega)
      simp only [quoL]
      split
      · simp
      · split
        · rw [show j + d + 2 = j + 2 + d by omega]; exact h1
        · split
          · rw [if_neg (by omega)]; omega
          · rw [show j + d + 1 = j + 1 + d by omega]; exact h2

theorem quoted_shift (A : List UInt8) (i k : Nat) : quotedL A (i + k) = if quotedL (A.drop i) k = 0 then 0 else quotedL (A.drop i) k + i := by
  unfold quotedL
  rw [chAt_drop, List.drop_drop, ← Nat.add_assoc, show i + k + 1 = k + 1 + i by omega]
  exact quoL_shift _ _ _ _ _ (Nat.le_refl _)

theorem num_shift (A : List UInt8) (i : Nat) : numL A i = i + numL (A.drop i) 0 := by
  unfold numL
  simp only [chAt_drop, Nat.add_zero, Nat.zero_add, List.drop_drop]
  split <;> omega

theorem punct_shift (A : List UInt8) (i : Nat) : punctL A i = punctL (A.drop i) 0 := by
  unfold punctL
  simp

theorem next_shift (A : List UInt8) (i : Nat) : nextL A i = ((nextL (A.drop i) 0).1, i + (nextL (A.drop i) 0).2.1, (nextL (A.drop i) 0).2.2) := by
  have hl := letters_shift A i
  have hq := quoted_shift A i (lettersL A i).toNat
  have hn := num_shift A i
  have hp := punct_shift A i
  have hc : chAt A i = chAt (A.drop i) 0 := by rw [chAt_drop]; rfl
  have hc2 : chAt A (i + (lettersL A i).toNat) = chAt (A.drop i) (lettersL A i).toNat := by rw [chAt_drop]
  have hw : A.drop (i + 1) = (A.drop i).drop (0 + 1) := by rw [List.drop_drop, Nat.zero_add]
  unfold nextL
  rw [hn, hp, hc, hc2, hw, hq, hl]
  simp only [Nat.zero_add]
  by_cases h1 : quotedL (A.drop i) (lettersL (A.drop i) 0).toNat = 0
  · simp only [h1, if_true, Nat.lt_irrefl, false_and, and_false, if_false]
    by_cases h2 : lettersL (A.drop i) 0 = 0
    · simp [h2]
    · simp only [h2, if_false]
      by_cases h3 : letterB (chAt (A.drop i) 0) = true
      · simp only [h3, if_true]; simp only [Prod.mk.injEq, and_true, true_and]; omega
      · simp only [h3]
        by_cases h4 : 0 < numL (A.drop i) 0
        · rw [if_pos (by omega : i < i + numL (A.drop i) 0)]; simp [h4]
        · rw [if_neg (by omega : ¬ i < i + numL (A.drop i) 0)]
          by_cases h5 : 0 < punctL (A.drop i) 0
          · simp [h4, h5]
          · simp [h4, h5]
  · have h1p : 0 < quotedL (A.drop i) (lettersL (A.drop i) 0).toNat := by omega
    have h1q : 0 < quotedL (A.drop i) (lettersL (A.drop i) 0).toNat + i := by omega
    simp only [h1, if_false, h1p, h1q, true_and]
    by_cases h2 : 0 ≤ lettersL (A.drop i) 0
    · simp only [h2, true_and, if_true]
      by_cases h3 : chAt (A.drop i) (lettersL (A.drop i) 0).toNat = 34
      · simp [h3, Nat.add_comm]
      · simp [h3, Nat.add_comm]
    · have h0 : ¬ lettersL (A.drop i) 0 = 0 := by omega
      simp only [h2, false_and, if_false, h0]
      by_cases h3 : letterB (chAt (A.drop i) 0) = true
      · simp only [h3, if_true]; simp only [Prod.mk.injEq, and_true, true_and]; omega
      · simp only [h3]
        by_cases h4 : 0 < numL (A.drop i) 0
        · rw [if_pos (by omega : i < i + numL (A.drop i) 0)]; simp [h4]
        · rw [if_neg (by omega : ¬ i < i + numL (A.drop i) 0)]
          by_cases h5 : 0 < punctL (A.drop i) 0
          · simp [h4, h5]
          · simp [h4, h5]

/-! ## quotes without backslashes -/

theorem quoL_cons {q c : UInt8} (hc : c ≠ 92) (j : Nat) (l : List UInt8) : quoL q j (c :: l) = if c = 10 then 0 else if c = q then j + 1 else quoL q (j + 1) l := by
  cases l with
  | nil => simp [quoL]
  | cons d r => simp [quoL, hc]

theorem quoL_find {q : UInt8} : ∀ {l : List UInt8} {j : Nat}, (∀ c ∈ l, c ≠ 92) → 0 < quoL q j l → ∃ body rest, l = body ++ q :: rest ∧ (∀ c ∈ body, c ≠ 10 ∧ c ≠ q ∧ c ≠ 92) ∧ quoL q j l = j + body.length + 1
  | [], j, _, h => by simp [quoL] at h
  | c :: l, j, h92, h => by
    have hc := h92 c (by simp)
    rw [quoL_cons hc] at h ⊢
    split at h
    · omega
    · rename_i h10
      rw [if_neg h10]
      split at h
      · rename_i hq
        subst hq
        exact ⟨[], l, rfl, by simp, by rw [if_pos rfl]; simp⟩
      · rename_i hq
        rw [if_neg hq]
        obtain ⟨body, rest, h1, h2, h3⟩ := quoL_find (fun x hx => h92 x (by simp [hx])) h
        refine ⟨c :: body, rest, by rw [h1]; rfl, ?_, by rw [h3]; simp only [List.length_cons]; omega⟩
        intro x hx
        rcases List.mem_cons.1 hx with rfl | hx
        · exact ⟨h10, hq, hc⟩
        · exact h2 x hx

theorem quoL_body {q : UInt8} (hq : q ≠ 10 ∧ q ≠ 92) : ∀ {body rest : List UInt8} {j : Nat}, (∀ c ∈ body, c ≠ 10 ∧ c ≠ q ∧ c ≠ 92) → quoL q j (body ++ q :: rest) = j + body.length + 1
  | [], rest, j, _ => by
    rw [List.nil_append, quoL_cons hq.2, if_neg hq.1, if_pos rfl]
    simp
  | c :: body, rest, j, h => by
    have hc := h c (by simp)
    rw [List.cons_append, quoL_cons hc.2.2, if_neg hc.1, if_neg hc.2.1, quoL_body hq (fun x hx => h x (by simp [hx]))]
    simp only [List.length_cons]
    omega

/-! ## a token ahead of a blank -/

theorem chAt_app_lt {A B : List UInt8} {i : Nat} (h : i < A.length) : chAt (A ++ B) i = chAt A i := by
  simp [chAt, List.getD_eq_getElem?_getD, List.getElem?_append_left h]
theorem chAt_app_ge {A B : List UInt8} {i : Nat} (h : A.length ≤ i) : chAt (A ++ B) i = chAt B (i - A.length) := by
  simp [chAt, List.getD_eq_getElem?_getD, List.getElem?_append_right h]
theorem chAt_take {A : List UInt8} {i e : Nat} (h : i < e) : chAt (A.take e) i = chAt A i := by
  simp [chAt, List.getD_eq_getElem?_getD, h]

theorem num_blank : ∀ (n : Nat) (l r : List UInt8), l.length ≤ n → numRun (l.take (numRun l) ++ 32 :: r) = numRun l := by
  have hb : ∀ c, expB c 32 = false := by intro c; simp [expB]
  have hr : ∀ r, numRun (32 :: r) = 0 := by
    intro r
    cases r with
    | nil => rfl
    | cons d r => simp [numRun, show expB 32 d = false by simp [expB], show numB 32 = false by decide]
  intro n
  induction n with
  | zero => intro l r h; have := List.eq_nil_of_length_eq_zero (by omega : l.length = 0); subst this; simp [numRun, hr]
  | succ n ih =>
    intro l r h
    match l with
    | [] => simp [numRun, hr]
    | [c] =>
      by_cases hc : numB c = true
      · simp [numRun, hc, hb, hr]
      · simp [numRun, hc, hr]
    | c :: d :: l =>
      simp only [List.length_cons] at h
      by_cases he : expB c d = true
      · have := ih l r (by omega)
        simp [numRun, he, this]
      · by_cases hc : numB c = true
        · have := ih (d :: l) r (by simp; omega)
          have e1 : numRun (c :: d :: l) = numRun (d :: l) + 1 := by simp [numRun, he, hc]
          rw [e1, List.take_succ_cons, List.cons_append]
          cases ht : (d :: l).take (numRun (d :: l)) with
          | nil =>
            rw [ht] at this
            simp only [List.nil_append] at this ⊢
            simp [numRun, hb, hc, this]
          | cons x y =>
            rw [ht] at this
            have hx : x = d := by
              cases hk : numRun (d :: l) with
              | zero => rw [hk] at ht; simp at ht
              | succ k => rw [hk] at ht; simp at ht; exact ht.1.symm
            subst hx
            simp only [List.cons_append] at this ⊢
            simp [numRun, he, hc, this]
        · simp [numRun, he, hc, hr]

theorem while_blank {p : UInt8 → Bool} (hp : p 32 = false) : ∀ (l r : List UInt8), (l.takeWhile p ++ 32 :: r).takeWhile p = l.takeWhile p
  | [], r => by simp [hp]
  | c :: l, r => by
    by_cases hc : p c = true
    · simp [hc, while_blank hp l r]
    · simp [hc, hp]

theorem find_first {α : Type} {p q : α → Bool} : ∀ {l : List α} {a : α}, l.find? p = some a → q a = true → (∀ x ∈ l, q x = true → p x = true) → l.find? q = some a
  | [], a, h, _, _ => by simp at h
  | x :: l, a, h, ha, hq => by
    rw [List.find?_cons] at h ⊢
    cases hx : p x with
    | true => rw [hx] at h; simp only [Option.some.injEq] at h; subst h; rw [ha]
    | false =>
      rw [hx] at h
      have : q x = false := by
        cases hy : q x with
        | false => rfl
        | true => rw [hq x (by simp) hy] at hx; cases hx
      rw [this]
      exact find_first h ha (fun y hy => hq y (by simp [hy]))

/-- a punctuator is cut so where what follows differs, if no longer one begins there -/
theorem punct_same {X Y : List UInt8} {p : List UInt8} (hf : (punctsL.find? fun p => p.isPrefixOf X) = some p) (hy : p <+: Y) (h : ∀ x ∈ punctsL, x <+: Y → x <+: X) : punctL Y 0 = p.length := by
  unfold punctL
  rw [List.drop_zero, find_first (q := fun p => p.isPrefixOf Y) hf (List.isPrefixOf_iff_prefix.2 hy) (fun x hx hq => List.isPrefixOf_iff_prefix.2 (h x hx (List.isPrefixOf_iff_prefix.1 hq)))]
  rfl

theorem puncts_no32 : ∀ p ∈ punctsL, (32 : UInt8) ∉ p ∧ p ≠ [] := by decide

theorem prefix_blank {x t r : List UInt8} (h : x <+: t ++ 32 :: r) (hx : (32 : UInt8) ∉ x) : x <+: t := by
  obtain ⟨s, hs⟩ := h
  rcases List.append_eq_append_iff.1 hs with ⟨a, h1, h2⟩ | ⟨a, h1, h2⟩
  · exact ⟨a, h1.symm⟩
  · cases a with
    | nil => simp at h1; exact ⟨[], by simp [h1]⟩
    | cons b a =>
      exfalso
      apply hx
      simp only [List.cons_append, List.cons.injEq] at h2
      rw [h1, h2.1]
      simp

theorem letters_same {X Y : List UInt8} (h : 0 ≤ lettersL X 0) (hc : ∀ j, j ≤ (lettersL X 0).toNat → chAt Y j = chAt X j) : lettersL Y 0 = lettersL X 0 := by
  revert h hc
  unfold lettersL
  split
  · rename_i h0
    intro _ hc
    rw [hc 0 (Nat.zero_le _), if_pos h0]
  · rename_i h0
    split
    · rename_i h1
      intro _ hc
      rw [hc 0 (by decide), hc 1 (by decide), hc 2 (by decide), if_neg h0, if_pos h1]
    · rename_i h1
      split
      · rename_i h2
        intro _ hc
        rw [hc 0 (by decide), hc 1 (by decide), if_neg h0, if_neg (fun h => by rcases h2.2 with e | e <;> rw [h.2.1] at e <;> exact absurd e (by decide)), if_pos h2]
      · intro h; omega

theorem letters_neg {Y : List UInt8} (h : chAt Y 0 ≠ 34 ∧ chAt Y 0 ≠ 39 ∧ chAt Y 0 ≠ 117 ∧ chAt Y 0 ≠ 76 ∧ chAt Y 0 ≠ 85) : lettersL Y 0 = -1 := by
  unfold lettersL
  rw [if_neg (by simp [h.1, h.2.1]), if_neg (by simp [h.2.2.1]), if_neg (by simp [h.2.2.1, h.2.2.2.1, h.2.2.2.2])]

theorem letters_ident {x : UInt8} {tw r : List UInt8} (hx : letterB x = true) (ht : ∀ c ∈ tw, idB c = true) : lettersL (x :: (tw ++ 32 :: r)) 0 = -1 := by
  have hx0 : x ≠ 34 ∧ x ≠ 39 := ⟨fun e => by rw [e] at hx; exact absurd hx (by decide), fun e => by rw [e] at hx; exact absurd hx (by decide)⟩
  have hid : ∀ c, idB c = true → c ≠ 34 ∧ c ≠ 39 := fun c hc => ⟨fun e => by rw [e] at hc; exact absurd hc (by decide), fun e => by rw [e] at hc; exact absurd hc (by decide)⟩
  unfold lettersL
  have c0 : chAt (x :: (tw ++ 32 :: r)) 0 = x := rfl
  match tw, ht with
  | [], _ =>
    have c1 : chAt (x :: ([] ++ 32 :: r)) 1 = 32 := rfl
    rw [c0, c1, if_neg (by simp [hx0.1, hx0.2]), if_neg (by simp), if_neg (by simp)]
  | [a], ht =>
    have ha := hid a (ht a (by simp))
    have c1 : chAt (x :: ([a] ++ 32 :: r)) 1 = a := rfl
    have c2 : chAt (x :: ([a] ++ 32 :: r)) 2 = 32 := rfl
    rw [c0, c1, c2, if_neg (by simp [hx0.1, hx0.2]), if_neg (by simp), if_neg (by simp [ha.1, ha.2])]
  | a :: b :: tw, ht =>
    have ha := hid a (ht a (by simp))
    have hb := hid b (ht b (by simp))
    have c1 : chAt (x :: (a :: b :: tw ++ 32 :: r)) 1 = a := rfl
    have c2 : chAt (x :: (a :: b :: tw ++ 32 :: r)) 2 = b := rfl
    rw [c0, c1, c2, if_neg (by simp [hx0.1, hx0.2]), if_neg (by simp [hb.1]), if_neg (by simp [ha.1, ha.2])]

theorem takeWhile_mem {p : UInt8 → Bool} : ∀ {l : List UInt8} {c : UInt8}, c ∈ l.takeWhile p → p c = true
  | [], c, h => by simp at h
  | a :: l, c, h => by
    by_cases ha : p a = true
    · rw [List.takeWhile_cons, if_pos ha] at h
      rcases List.mem_cons.1 h with rfl | h
      · exact ha
      · exact takeWhile_mem h
    · rw [List.takeWhile_cons, if_neg ha] at h
      cases h

theorem takeWhile_take (p : UInt8 → Bool) : ∀ (l : List UInt8), l.take (l.takeWhile p).length = l.takeWhile p
  | [] => rfl
  | a :: l => by
    by_cases ha : p a = true
    · rw [List.takeWhile_cons, if_pos ha, List.length_cons, List.take_succ_cons, takeWhile_take p l]
    · rw [List.takeWhile_cons, if_neg ha]; rfl

/-- a token, a blank behind it, is itself -/
theorem next_blank {X r : List UInt8} {k e : Nat} (h : nextL X 0 = (k, e, false)) (hk : k ≠ 6) (hX : 0 < X.length) (h92 : ∀ c ∈ X, c ≠ 92) : nextL (X.take e ++ 32 :: r) 0 = (k, e, false) := by
  have hlen := nextL_len (A := X) hX
  rw [h] at hlen
  simp only at hlen
  have hle : (X.take e).length = e := by rw [List.length_take]; omega
  have hc : ∀ j, j < e → chAt (X.take e ++ 32 :: r) j = chAt X j := fun j hj => by rw [chAt_app_lt (by omega), chAt_take hj]
  have hce : chAt (X.take e ++ 32 :: r) e = 32 := by rw [chAt_app_ge (by omega), hle, Nat.sub_self]; rfl
  have hqd : ∀ n, n + 1 < e → (chAt X n = 34 ∨ chAt X n = 39) → 0 < quotedL X n → quotedL X n = e → quotedL (X.take e ++ 32 :: r) n = e := by
    intro n hn hq h0 he
    have hq2 : chAt X n ≠ 10 ∧ chAt X n ≠ 92 := by rcases hq with e | e <;> rw [e] <;> decide
    unfold quotedL at h0 he ⊢
    obtain ⟨body, rest, h1, h2, h3⟩ := quoL_find (fun c hc => h92 c (List.mem_of_mem_drop hc)) h0
    have hd : (X.take e ++ 32 :: r).drop (n + 1) = body ++ chAt X n :: (32 :: r) := by
      rw [List.drop_append_of_le_length (by omega), List.drop_take, h1, show e - (n + 1) = body.length + 1 by omega, List.take_append, List.take_of_length_le (by omega), show body.length + 1 - body.length = 1 by omega]
      simp
    rw [hc n (by omega), hd, quoL_body hq2 h2]
    omega
  by_cases hA : 0 ≤ lettersL X 0 ∧ 0 < quotedL X (0 + (lettersL X 0).toNat)
  · have hq := (letters_quote (A := X) (i := 0) (by omega)).2
    rw [Nat.zero_add] at hA hq
    have hql := quotedL_le X _ hA.2
    have he : quotedL X (lettersL X 0).toNat = e ∧ ((chAt X (lettersL X 0).toNat = 34 ∧ k = 4) ∨ (chAt X (lettersL X 0).toNat ≠ 34 ∧ k = 3)) := by
      unfold nextL at h
      rw [Nat.zero_add] at h
      by_cases h34 : chAt X (lettersL X 0).toNat = 34
      · rw [if_pos ⟨hA.1, hA.2, h34⟩] at h
        simp only [Prod.mk.injEq] at h
        exact ⟨h.2.1, .inl ⟨h34, h.1.symm⟩⟩
      · rw [if_neg (fun x => h34 x.2.2), if_pos hA] at h
        simp only [Prod.mk.injEq] at h
        exact ⟨h.2.1, .inr ⟨h34, h.1.symm⟩⟩
    have hL := letters_same (Y := X.take e ++ 32 :: r) hA.1 (fun j hj => hc j (by omega))
    have hQ := hqd _ (by omega) hq hA.2 he.1
    unfold nextL
    rw [hL, Nat.zero_add, hQ, hc _ (by omega)]
    rcases he.2 with ⟨h34, rfl⟩ | ⟨h34, rfl⟩
    · rw [if_pos ⟨hA.1, by omega, h34⟩]
    · rw [if_neg (fun x => h34 x.2.2), if_pos ⟨hA.1, by omega⟩]
  · unfold nextL at h
    rw [if_neg (fun x => hA ⟨x.1, x.2.1⟩), if_neg hA] at h
    by_cases hL0 : lettersL X 0 = 0
    · rw [if_pos hL0] at h
      simp only [Prod.mk.injEq] at h
      exact absurd h.1.symm hk
    · rw [if_neg hL0] at h
      have h0q : chAt X 0 ≠ 34 ∧ chAt X 0 ≠ 39 := by
        constructor
        · intro e1; apply hL0; unfold lettersL; rw [if_pos (.inl e1)]
        · intro e1; apply hL0; unfold lettersL; rw [if_pos (.inr e1)]
      by_cases hlet : letterB (chAt X 0) = true
      · rw [if_pos hlet] at h
        simp only [Prod.mk.injEq, Nat.zero_add, and_true] at h
        obtain ⟨rfl, he⟩ := h
        obtain ⟨x, X', rfl⟩ : ∃ x X', X = x :: X' := by cases X with | nil => simp at hX | cons x X' => exact ⟨x, X', rfl⟩
        simp only [List.drop_succ_cons, List.drop_zero] at he
        have ht : (x :: X').take e = x :: X'.takeWhile idB := by
          rw [← he, Nat.add_comm, List.take_succ_cons, takeWhile_take]
        have hx : letterB x = true := hlet
        rw [ht, List.cons_append]
        have hn := letters_ident (r := r) (tw := X'.takeWhile idB) hx (fun c hc => takeWhile_mem hc)
        unfold nextL
        rw [hn, if_neg (by omega), if_neg (by omega), if_neg (by omega), if_pos (show letterB (chAt (x :: (X'.takeWhile idB ++ 32 :: r)) 0) = true from hx), List.drop_succ_cons, List.drop_zero, while_blank (by decide)]
        rw [Nat.zero_add, he]
      · rw [if_neg hlet] at h
        have h0l : chAt X 0 ≠ 117 ∧ chAt X 0 ≠ 76 ∧ chAt X 0 ≠ 85 := by
          refine ⟨?_, ?_, ?_⟩ <;> intro e1 <;> rw [e1] at hlet <;> exact hlet (by decide)
        have hLY : lettersL (X.take e ++ 32 :: r) 0 = -1 := letters_neg (by rw [hc 0 hlen.1]; exact ⟨h0q.1, h0q.2, h0l.1, h0l.2.1, h0l.2.2⟩)
        by_cases hnum : 0 < numL X 0
        · rw [if_pos hnum] at h
          simp only [Prod.mk.injEq, and_true] at h
          obtain ⟨rfl, he⟩ := h
          have hcond : digitB (chAt X 0) = true ∨ chAt X 0 = 46 ∧ digitB (chAt X 1) = true := by
            unfold numL at hnum
            split at hnum
            · assumption
            · exact absurd hnum (by omega)
          have he2 : e = 1 + numRun (X.drop 1) := by
            rw [← he]; unfold numL; rw [if_pos hcond]
          have hcond2 : digitB (chAt (X.take e ++ 32 :: r) 0) = true ∨ chAt (X.take e ++ 32 :: r) 0 = 46 ∧ digitB (chAt (X.take e ++ 32 :: r) 1) = true := by
            rw [hc 0 hlen.1]
            rcases hcond with h1 | h1
            · exact .inl h1
            · refine .inr ⟨h1.1, ?_⟩
              have h1lt : 1 < X.length := by
                rcases Nat.lt_or_ge 1 X.length with h2 | h2
                · exact h2
                · have := h1.2; rw [chAt_ge h2] at this; exact absurd this (by decide)
              have : 0 < numRun (X.drop 1) := by
                rw [num_step h1lt]
                split
                · omega
                · rw [if_pos (by unfold numB; rw [h1.2]; simp)]; omega
              rw [hc 1 (by omega)]
              exact h1.2
          have hdrop : (X.take e ++ 32 :: r).drop 1 = (X.drop 1).take (numRun (X.drop 1)) ++ 32 :: r := by
            rw [List.drop_append_of_le_length (by omega), List.drop_take, show e - 1 = numRun (X.drop 1) by omega]
          have hnY : numL (X.take e ++ 32 :: r) 0 = e := by
            unfold numL
            rw [if_pos hcond2, Nat.zero_add, hdrop, num_blank _ _ _ (Nat.le_refl _)]
            omega
          unfold nextL
          rw [hLY, if_neg (by omega), if_neg (by omega), if_neg (by omega), if_neg (by rw [hc 0 hlen.1]; exact hlet), hnY, if_pos (by omega)]
        · rw [if_neg hnum] at h
          by_cases hp : 0 < punctL X 0
          · rw [if_pos hp] at h
            simp only [Prod.mk.injEq, and_true, Nat.zero_add] at h
            obtain ⟨rfl, he⟩ := h
            obtain ⟨p, hf⟩ : ∃ p, (punctsL.find? fun p => p.isPrefixOf X) = some p := by
              unfold punctL at hp
              rw [List.drop_zero] at hp
              cases hf : punctsL.find? fun p => p.isPrefixOf X with
              | none => rw [hf] at hp; simp at hp
              | some p => exact ⟨p, rfl⟩
            have hpe : p.length = e := by
              rw [← he]; unfold punctL; rw [List.drop_zero, hf]; rfl
            have hpX : p <+: X := by
              have := List.find?_some hf
              exact List.isPrefixOf_iff_prefix.1 this
            have hpt : X.take e = p := by
              rw [← hpe]; exact (List.prefix_iff_eq_take.1 hpX).symm
            have hPY : punctL (X.take e ++ 32 :: r) 0 = e := by
              rw [punct_same hf (by rw [hpt]; exact ⟨_, rfl⟩) (fun x hx hxY => (prefix_blank hxY (puncts_no32 x hx).1).trans (List.take_prefix _ _)), hpe]
            have hnY : numL (X.take e ++ 32 :: r) 0 = 0 := by
              have hn0 : ¬ (digitB (chAt X 0) = true ∨ chAt X 0 = 46 ∧ digitB (chAt X 1) = true) := by
                intro hh
                apply hnum
                unfold numL
                rw [if_pos hh]
                omega
              unfold numL
              rw [if_neg]
              rw [hc 0 hlen.1]
              intro hh
              apply hn0
              rcases hh with hh | hh
              · exact .inl hh
              · right
                refine ⟨hh.1, ?_⟩
                rcases Nat.lt_or_ge 1 e with h2 | h2
                · rw [← hc 1 h2]; exact hh.2
                · have h3 : e = 1 := by omega
                  rw [h3] at hce hh
                  rw [hce] at hh
                  exact absurd hh.2 (by decide)
            unfold nextL
            rw [hLY, if_neg (by omega), if_neg (by omega), if_neg (by omega), if_neg (by rw [hc 0 hlen.1]; exact hlet), hnY, if_neg (by omega), hPY, if_pos (by omega), Nat.zero_add]
          · rw [if_neg hp] at h
            simp only [Prod.mk.injEq] at h
            exact absurd h.1.symm hk
end Go.Proofs.Ythbicbfdldpemaa

/- LexBack: the plain law: a line told with blanks is lexed to the same tokens. -/
namespace Go.Proofs.Ythbicbfdldpemaa
set_option linter.unusedVariables false

def spellL : List Tk → List UInt8
  | [] => []
  | t :: ts => t.text ++ 32 :: spellL ts

structure GdT (t : Tk) : Prop where
  ne : t.text ≠ []
  ch : ∀ c ∈ t.text, c ≠ 92 ∧ c ≠ 63
  nl : chAt t.text 0 ≠ 10
  wh : whiteB (chAt t.text 0) = false
  nx : ∀ r, nextL (t.text ++ 32 :: r) 0 = (t.kind, t.text.length, false)
  co : ∀ r, ¬ 0 < (commentL (t.text ++ 32 :: r) 0).1

theorem next_bad {A : List UInt8} {i : Nat} (h : (nextL A i).1 ≠ 6) : (nextL A i).2.2 = false := by
  revert h
  unfold nextL
  repeat' split
  all_goals first | (intro h; rfl) | (intro h; exact absurd rfl h)

theorem com_no {A : List UInt8} {i : Nat} (h : chAt A i = 47 → chAt A (i + 1) ≠ 47 ∧ chAt A (i + 1) ≠ 42) : commentL A i = (i, false) := by
  unfold commentL
  by_cases h0 : chAt A i = 47
  · rw [if_neg (by simp [h0]), if_neg (h h0).1, if_pos (h h0).2]
  · rw [if_pos h0]

theorem com_yes {A : List UInt8} {i : Nat} (hi : i < A.length) (h : ¬ i < (commentL A i).1) : chAt A i = 47 → chAt A (i + 1) ≠ 47 ∧ chAt A (i + 1) ≠ 42 := by
  intro h0
  refine ⟨fun h1 => h ?_, fun h1 => h ?_⟩
  · unfold commentL
    rw [if_neg (by simp [h0]), if_pos h1]
    simp only
    rw [while_step hi, h0]
    simp
  · unfold commentL
    rw [if_neg (by simp [h0]), if_neg (by rw [h1]; decide), if_neg (by simp [h1])]
    cases hc : comEnd (i + 2) (A.drop (i + 2)) with
    | none => exact hi
    | some e => have := comEnd_le _ _ _ hc; simp only; omega

/-- a token that is cut anywhere, with a blank behind it -/
theorem good_tok {A : List UInt8} {i : Nat} {sp : Bool} {f t : Nat} (hi : i < A.length) (h92 : ∀ c ∈ A, c ≠ 92 ∧ c ≠ 63) (h10 : chAt A i ≠ 10) (hw : whiteB (chAt A i) = false) (hc : ¬ i < (commentL A i).1) (hk : (nextL A i).1 ≠ 6) :
    GdT ⟨(nextL A i).1, (A.drop i).take ((nextL A i).2.1 - i), sp, f, t⟩ := by
  have hl := nextL_len hi
  have hb := next_bad hk
  have hs := next_shift A i
  obtain ⟨k, e, b, hX⟩ : ∃ k e b, nextL (A.drop i) 0 = (k, e, b) := ⟨_, _, _, rfl⟩
  rw [hX] at hs
  rw [hs] at hl hb hk ⊢
  simp only at hl hb hk ⊢
  subst hb
  rw [show i + e - i = e by omega]
  have hXl : 0 < (A.drop i).length := by rw [List.length_drop]; omega
  have h92X : ∀ c ∈ A.drop i, c ≠ 92 := fun c hc => (h92 c (List.mem_of_mem_drop hc)).1
  have htl : ((A.drop i).take e).length = e := by rw [List.length_take, List.length_drop]; omega
  have hc0 : chAt ((A.drop i).take e) 0 = chAt A i := by rw [chAt_take (by omega), chAt_drop, Nat.add_zero]
  refine ⟨?_, ?_, by simp only [hc0]; exact h10, by simp only [hc0]; exact hw, ?_, ?_⟩
  · intro e1
    have := htl
    simp only at e1
    rw [e1] at this
    simp at this
    omega
  · intro c hc
    exact h92 c (List.mem_of_mem_drop (List.mem_of_mem_take hc))
  · intro r
    rw [htl]
    exact next_blank hX hk hXl h92X
  · intro r
    simp only
    have h1 := com_yes hi hc
    rw [com_no]
    · simp
    · intro h0
      rw [chAt_app_lt (by omega), hc0] at h0
      rcases Nat.lt_or_ge 1 e with h2 | h2
      · rw [chAt_app_lt (by omega), chAt_take (by omega), chAt_drop]
        exact h1 h0
      · rw [chAt_app_ge (by omega), show 0 + 1 - ((A.drop i).take e).length = 0 by omega, show chAt (32 :: r) 0 = 32 from rfl]
        exact ⟨by decide, by decide⟩

/-- the spaces that are told -/
def spacesL (sp : Bool) : List Tk → List Bool
  | [] => []
  | _ :: ts => sp :: ts.map fun _ => true

theorem relex {R : List Rn} (n : Nat) : ∀ (ts : List Tk) (s : LS), (∀ t ∈ ts, GdT t) → s.i ≤ R.length → (cs R).drop s.i = spellL ts ++ [10] → s.out = [] → s.diags = [] → s.from_ = 0 →
    ∃ toks', linesFrom R n s = ([⟨s.toks ++ toks', 0, n, false⟩], []) ∧ toks'.map (fun t => (t.kind, t.text)) = ts.map (fun t => (t.kind, t.text)) ∧ toks'.map (·.space) = spacesL s.space ts
  | [], s, _, hi, hd, ho, hg, hf => by
    have hlen : (cs R).length = s.i + 1 := by
      have := congrArg List.length hd
      rw [List.length_drop] at this
      simp [spellL] at this
      omega
    rw [cs_len] at hlen
    have h10 : chAt (cs R) s.i = 10 := by
      have := chAt_drop (cs R) s.i 0
      rw [hd] at this
      exact this.symm
    refine ⟨[], ?_, rfl, rfl⟩
    rw [linesFrom_inl (s' := ⟨s.i + 1, [], rT R s.i, false, s.out ++ [⟨s.toks, s.from_, rT R s.i, false⟩], s.diags⟩) (by omega) (by unfold lineStep; rw [if_pos h10]), linesFrom_end (by simp only; omega), ho, hg, hf]
    simp [finL]
  | t :: ts, s, hG, hi, hd, ho, hg, hf => by
    have ht := hG t (by simp)
    have hd1 : (cs R).drop s.i = t.text ++ 32 :: (spellL ts ++ [10]) := by rw [hd]; simp [spellL]
    have htl : 0 < t.text.length := List.length_pos_iff.2 ht.ne
    have hlen : (cs R).length = s.i + t.text.length + 1 + (spellL ts).length + 1 := by
      have := congrArg List.length hd1
      rw [List.length_drop] at this
      simp at this
      have hi2 : s.i ≤ (cs R).length := by rw [cs_len]; exact hi
      omega
    have hR := cs_len R
    have hc0 : chAt (cs R) s.i = chAt t.text 0 := by
      have := chAt_drop (cs R) s.i 0
      rw [hd1, chAt_app_lt htl] at this
      exact this.symm
    have hcm : ¬ s.i < (commentL (cs R) s.i).1 := by
      have hy := com_yes (A := t.text ++ 32 :: (spellL ts ++ [10])) (i := 0) (by simp; omega) (ht.co _)
      rw [com_no]
      · simp
      · intro h0
        have e0 := chAt_drop (cs R) s.i 0
        have e1 := chAt_drop (cs R) s.i 1
        rw [hd1] at e0 e1
        rw [← e1]
        exact hy (e0.trans h0)
    have hnx : nextL (cs R) s.i = (t.kind, s.i + t.text.length, false) := by
      rw [next_shift, hd1, ht.nx]
    have htk : tokAt R s = ⟨t.kind, t.text, s.space, rF R s.i, rT R (s.i + t.text.length - 1)⟩ := by
      unfold tokAt
      rw [hnx]
      simp only
      rw [hd1, show s.i + t.text.length - s.i = t.text.length by omega, List.take_left]
    have st1 : linesFrom R n s = linesFrom R n ⟨s.i + t.text.length, s.toks ++ [tokAt R s], s.from_, false, s.out, s.diags⟩ := by
      refine linesFrom_inl (by omega) ?_
      unfold lineStep
      rw [if_neg (by rw [hc0]; exact ht.nl), if_neg (by rw [hc0, ht.wh]; decide), if_neg hcm, hnx]
      rfl
    have h32 : chAt (cs R) (s.i + t.text.length) = 32 := by
      have := chAt_drop (cs R) s.i t.text.length
      rw [hd1, chAt_app_ge (Nat.le_refl _), Nat.sub_self] at this
      exact this.symm
    have st2 : linesFrom R n ⟨s.i + t.text.length, s.toks ++ [tokAt R s], s.from_, false, s.out, s.diags⟩ = linesFrom R n ⟨s.i + t.text.length + 1, s.toks ++ [tokAt R s], s.from_, true, s.out, s.diags⟩ := by
      refine linesFrom_inl (by simp only; omega) ?_
      unfold lineStep
      simp only
      rw [h32, if_neg (by decide), if_pos (by decide)]
    have hd2 : (cs R).drop (s.i + t.text.length + 1) = spellL ts ++ [10] := by
      rw [Nat.add_assoc, ← List.drop_drop, hd1, List.drop_append, List.drop_eq_nil_of_le (by omega), show t.text.length + 1 - t.text.length = 1 by omega]
      rfl
    obtain ⟨tk', h1, h2, h3⟩ := relex n ts ⟨s.i + t.text.length + 1, s.toks ++ [tokAt R s], s.from_, true, s.out, s.diags⟩ (fun x hx => hG x (by simp [hx])) (by simp only; omega) hd2 ho hg hf
    refine ⟨tokAt R s :: tk', ?_, ?_, ?_⟩
    · rw [st1, st2, h1]
      simp
    · rw [List.map_cons, h2, htk]
      rfl
    · rw [List.map_cons, h3, htk]
      simp only [spacesL]
      cases ts with
      | nil => rfl
      | cons u us => rfl

theorem spell_mem : ∀ {ts : List Tk}, (∀ t ∈ ts, GdT t) → ∀ c ∈ spellL ts, c ≠ 92 ∧ c ≠ 63
  | [], _, c, h => by simp [spellL] at h
  | t :: ts, hG, c, h => by
    simp only [spellL, List.mem_append, List.mem_cons] at h
    rcases h with h | rfl | h
    · exact (hG t (by simp)).ch c h
    · decide
    · exact spell_mem (fun x hx => hG x (by simp [hx])) c h

theorem spell_last : ∀ {ts : List Tk}, ts ≠ [] → ∃ l, spellL ts = l ++ [32]
  | [], h => absurd rfl h
  | [t], _ => ⟨t.text, by simp [spellL]⟩
  | t :: u :: ts, _ => by
    obtain ⟨l, hl⟩ := spell_last (ts := u :: ts) (by simp)
    exact ⟨t.text ++ 32 :: l, by rw [spellL, hl]; simp⟩

theorem plain_of {l : List UInt8} (h : ∀ c ∈ l, c ≠ 92 ∧ c ≠ 63) : plainB l = true := by
  simp only [plainB, List.all_eq_true, Bool.and_eq_true, bne_iff_ne]
  exact fun c hc => ⟨(h c hc).2, (h c hc).1⟩

theorem cs_plain {l : List UInt8} (h : ∀ c ∈ l, c ≠ 92 ∧ c ≠ 63) : cs (charsL l) = l ∨ cs (charsL l) = l ++ [10] := by
  unfold charsL
  split
  · right
    unfold cs
    rw [List.map_append, standL_plain (plain_of h), idL_c]
    rfl
  · left
    unfold cs
    rw [standL_plain (plain_of h), idL_c]

theorem lex_spelled {ts : List Tk} (hne : ts ≠ []) (hG : ∀ t ∈ ts, GdT t) : ∃ toks', linesL (spellL ts) = ([⟨toks', 0, (spellL ts).length, false⟩], []) ∧ toks'.map (fun t => (t.kind, t.text)) = ts.map (fun t => (t.kind, t.text)) ∧ toks'.map (·.space) = spacesL false ts := by
  have hm := spell_mem hG
  obtain ⟨l, hl⟩ := spell_last hne
  have hcs : cs (charsL (spellL ts)) = spellL ts ++ [10] := by
    rcases cs_plain hm with h | h
    · exfalso
      obtain ⟨ini, r, h1, h2⟩ := charsL_last (spellL ts) (by rw [hl]; simp)
      rw [h1, hl] at h
      unfold cs at h
      rw [List.map_append] at h
      have := List.append_inj_right' h rfl
      simp at this
      rw [h2] at this
      exact absurd this (by decide)
    · exact h
  obtain ⟨tk', h1, h2, h3⟩ := relex (R := charsL (spellL ts)) (spellL ts).length ts ⟨0, [], 0, false, [], []⟩ hG (Nat.zero_le _) (by simp [hcs]) rfl rfl rfl
  exact ⟨tk', by simpa [linesL, linesFrom] using h1, h2, h3⟩

/-! ## the first text -/

def NoCom (A : List UInt8) : Prop := ∀ i, chAt A i = 47 → chAt A (i + 1) ≠ 47 ∧ chAt A (i + 1) ≠ 42

def LGood (l : Ln) : Prop := l.op = false ∧ ∀ t ∈ l.toks, t.kind ≠ 6 → GdT t
def SGood (s : LS) : Prop := (∀ t ∈ s.toks, t.kind ≠ 6 → GdT t) ∧ ∀ l ∈ s.out, LGood l

theorem finL_good {n : Nat} : ∀ {ls : List Ln}, (∀ l ∈ ls, LGood l) → ∀ l ∈ finL n ls, LGood l
  | [], h, l, hl => by simp [finL] at hl
  | [a], h, l, hl => by simp only [finL, List.mem_singleton] at hl; subst hl; exact h a (by simp)
  | a :: b :: r, h, l, hl => by
    simp only [finL, List.mem_cons] at hl
    rcases hl with rfl | hl
    · exact h l (by simp)
    · exact finL_good (ls := b :: r) (fun l h' => h l (by simp at h' ⊢; exact .inr h')) l hl

theorem step_good {R : List Rn} {n : Nat} {s : LS} (h92 : ∀ c ∈ cs R, c ≠ 92 ∧ c ≠ 63) (hN : NoCom (cs R)) (hi : s.i < R.length) (h : SGood s) : ∃ s', lineStep R n s = .inl s' ∧ SGood s' := by
  have hcm : ¬ s.i < (commentL (cs R) s.i).1 := by rw [com_no (hN s.i)]; simp
  unfold lineStep
  by_cases h10 : chAt (cs R) s.i = 10
  · rw [if_pos h10]
    refine ⟨_, rfl, by simp, fun l hl => ?_⟩
    rcases List.mem_append.1 hl with hl | hl
    · exact h.2 l hl
    · simp only [List.mem_singleton] at hl; subst hl; exact ⟨rfl, h.1⟩
  · rw [if_neg h10]
    by_cases hw : whiteB (chAt (cs R) s.i) = true
    · rw [if_pos hw]
      exact ⟨_, rfl, h⟩
    · rw [if_neg hw, if_neg hcm]
      refine ⟨_, rfl, fun t ht hk => ?_, h.2⟩
      rcases List.mem_append.1 ht with ht | ht
      · exact h.1 t ht hk
      · simp only [List.mem_singleton] at ht
        subst ht
        exact good_tok (by rw [cs_len]; exact hi) h92 h10 (by simpa using hw) hcm hk

theorem run_good {R : List Rn} {n : Nat} (h92 : ∀ c ∈ cs R, c ≠ 92 ∧ c ≠ 63) (hN : NoCom (cs R)) : ∀ (k : Nat) (s : LS), SGood s → ∀ l ∈ (linesRun R n k s).1, LGood l
  | 0, s, h, l, hl => finL_good h.2 l hl
  | k + 1, s, h, l, hl => by
    unfold linesRun at hl
    split at hl
    · rename_i hi
      obtain ⟨s', he, hs'⟩ := step_good (n := n) h92 hN hi h
      rw [he] at hl
      exact run_good h92 hN k s' hs' l hl
    · exact finL_good h.2 l hl

theorem lines_good {text : List UInt8} (h92 : ∀ c ∈ text, c ≠ 92 ∧ c ≠ 63) (hN : NoCom text) : ∀ l ∈ (linesL text).1, LGood l := by
  have hc := cs_plain h92
  refine run_good ?_ ?_ _ _ ⟨by simp, by simp⟩
  · intro c hm
    rcases hc with h | h
    · rw [h] at hm; exact h92 c hm
    · rw [h] at hm
      rcases List.mem_append.1 hm with hm | hm
      · exact h92 c hm
      · simp only [List.mem_singleton] at hm; subst hm; decide
  · rcases hc with h | h
    · rw [h]; exact hN
    · rw [h]
      intro i h0
      rcases Nat.lt_or_ge i text.length with h1 | h1
      · rw [chAt_app_lt h1] at h0
        have := hN i h0
        rcases Nat.lt_or_ge (i + 1) text.length with h2 | h2
        · rw [chAt_app_lt h2]; exact this
        · rw [chAt_app_ge h2, show i + 1 - text.length = 0 by omega]; exact ⟨by decide, by decide⟩
      · rw [chAt_app_ge h1] at h0
        exfalso
        cases hh : i - text.length with
        | zero => rw [hh] at h0; exact absurd h0 (by decide)
        | succ k => rw [hh] at h0; exact absurd (chAt_ge (by simp) : chAt [10] (k + 1) = 0) (by rw [h0]; decide)

/-! ## how long a told line is -/

theorem spell_app : ∀ (a b : List Tk), spellL (a ++ b) = spellL a ++ spellL b
  | [], b => rfl
  | t :: a, b => by simp [spellL, spell_app a b]

def SLen (n : Nat) (s : LS) : Prop := (spellL s.toks).length ≤ 2 * s.i ∧ ∀ l ∈ s.out, (spellL l.toks).length ≤ 2 * n

theorem finL_slen {n m : Nat} : ∀ {ls : List Ln}, (∀ l ∈ ls, (spellL l.toks).length ≤ n) → ∀ l ∈ finL m ls, (spellL l.toks).length ≤ n
  | [], h, l, hl => by simp [finL] at hl
  | [a], h, l, hl => by simp only [finL, List.mem_singleton] at hl; subst hl; exact h a (by simp)
  | a :: b :: r, h, l, hl => by
    simp only [finL, List.mem_cons] at hl
    rcases hl with rfl | hl
    · exact h l (by simp)
    · exact finL_slen (ls := b :: r) (fun l h' => h l (by simp at h' ⊢; exact .inr h')) l hl

theorem step_slen {R : List Rn} {n : Nat} {s : LS} (hi : s.i < R.length) (h : SLen R.length s) : match lineStep R n s with | .inl s' => SLen R.length s' | .inr r => ∀ l ∈ r.1, (spellL l.toks).length ≤ 2 * R.length := by
  have hcl : s.i < (cs R).length := by rw [cs_len]; exact hi
  have hcm := commentL_len hcl
  have hnl := nextL_len hcl
  rw [cs_len] at hcm hnl
  have h1 := h.1
  have hadd : ∀ (l : Ln), l.toks = s.toks → ∀ x ∈ s.out ++ [l], (spellL x.toks).length ≤ 2 * R.length := by
    intro l hl x hx
    rcases List.mem_append.1 hx with hx | hx
    · exact h.2 x hx
    · simp only [List.mem_singleton] at hx; subst hx; rw [hl]; omega
  by_cases h10 : chAt (cs R) s.i = 10
  · have he : lineStep R n s = .inl ⟨s.i + 1, [], rT R s.i, false, s.out ++ [⟨s.toks, s.from_, rT R s.i, false⟩], s.diags⟩ := by unfold lineStep; rw [if_pos h10]
    rw [he]
    exact ⟨by simp [spellL], hadd _ rfl⟩
  · by_cases hw : whiteB (chAt (cs R) s.i) = true
    · have he : lineStep R n s = .inl ⟨s.i + 1, s.toks, s.from_, true, s.out, s.diags⟩ := by unfold lineStep; rw [if_neg h10, if_pos hw]
      rw [he]
      exact ⟨by simp only; omega, h.2⟩
    · by_cases hc : s.i < (commentL (cs R) s.i).1
      · by_cases ho : (commentL (cs R) s.i).2 = true
        · have he : lineStep R n s = .inr (s.out ++ [⟨s.toks, s.from_, n, true⟩], s.diags ++ [⟨1, rF R s.i, rT R (s.i + 1)⟩]) := by unfold lineStep; rw [if_neg h10, if_neg hw, if_pos hc, if_pos ho]
          rw [he]
          exact hadd _ rfl
        · have he : lineStep R n s = .inl ⟨(commentL (cs R) s.i).1, s.toks, s.from_, true, s.out, s.diags⟩ := by unfold lineStep; rw [if_neg h10, if_neg hw, if_pos hc, if_neg ho]
          rw [he]
          exact ⟨by simp only; omega, h.2⟩
      · obtain ⟨dg, he⟩ : ∃ dg, lineStep R n s = .inl ⟨(nextL (cs R) s.i).2.1, s.toks ++ [tokAt R s], s.from_, false, s.out, dg⟩ := by unfold lineStep; rw [if_neg h10, if_neg hw, if_neg hc]; exact ⟨_, rfl⟩
        rw [he]
        refine ⟨?_, h.2⟩
        simp only [spell_app, spellL, List.length_append, List.length_cons, List.length_nil, tokAt, List.length_take]
        omega

theorem run_slen {R : List Rn} {n : Nat} : ∀ (k : Nat) (s : LS), s.i ≤ R.length → SLen R.length s → ∀ l ∈ (linesRun R n k s).1, (spellL l.toks).length ≤ 2 * R.length
  | 0, s, hi, h, l, hl => finL_slen h.2 l hl
  | k + 1, s, hle, h, l, hl => by
    unfold linesRun at hl
    split at hl
    · rename_i hi
      have hstep := step_slen (n := n) hi h
      split at hl
      · rename_i s' he
        rw [he] at hstep
        exact run_slen k s' (lineStep_i hi he).2 hstep l hl
      · rename_i r he
        rw [he] at hstep
        exact hstep l hl
    · exact finL_slen h.2 l hl

theorem spell_len {text : List UInt8} {l : Ln} (hl : l ∈ (linesL text).1) : (spellL l.toks).length ≤ 2 * (text.length + 1) :=
  Nat.le_trans (run_slen _ _ (Nat.zero_le _) ⟨by simp [spellL], by simp⟩ l hl) (Nat.mul_le_mul_left 2 (charsL_len text))
end Go.Proofs.Ythbicbfdldpemaa

/- LexGaps: the plain law: blanks and comments ahead of words. -/
namespace Go.Proofs.Ythbicbfdldpemaa
set_option linter.unusedVariables false

def kindsG : List (List UInt8) := [[32], [9], [47, 42, 42, 47], [47, 42, 32, 97, 32, 10, 32, 98, 32, 42, 47], [32, 47, 42, 32, 42, 32, 47, 32, 42, 47, 32], [11, 12]]
def tailG : List UInt8 := [32, 47, 47, 32, 99, 32, 47, 42, 32, 100, 10]
def spellG : List (List UInt8 × List UInt8) → List UInt8
  | [] => []
  | p :: ps => p.1 ++ (p.2 ++ spellG ps)

def Wd (w : List UInt8) : Prop := w ≠ [] ∧ ∀ c ∈ w, 97 ≤ c ∧ c ≤ 122

theorem all_bytesX (p : UInt8 → Bool) (h : (List.range 256).all (fun n => p n.toUInt8) = true) (c : UInt8) : p c = true := by
  have := List.all_eq_true.1 h c.toNat (by simpa using c.toNat_lt)
  simpa using this

theorem low_facts {c : UInt8} (h : 97 ≤ c ∧ c ≤ 122) : letterB c = true ∧ idB c = true ∧ c ≠ 34 ∧ c ≠ 39 ∧ c ≠ 56 ∧ c ≠ 10 ∧ whiteB c = false ∧ c ≠ 47 ∧ c ≠ 92 ∧ c ≠ 63 := by
  have := all_bytesX (fun c => !(decide (97 ≤ c) && decide (c ≤ 122)) || (letterB c && idB c && c != 34 && c != 39 && c != 56 && c != 10 && !whiteB c && c != 47 && c != 92 && c != 63)) (by decide +kernel) c
  simp only [h.1, h.2, decide_true, Bool.and_self, Bool.not_true, Bool.false_or, Bool.and_eq_true, bne_iff_ne, Bool.not_eq_true'] at this
  simp_all

theorem drop_step {A X : List UInt8} {i : Nat} {g rest : List UInt8} (h : A.drop i = g ++ rest) : A.drop (i + g.length) = rest := by
  rw [← List.drop_drop, h, List.drop_left]

theorem drop_len {A : List UInt8} {i : Nat} {c : UInt8} {rest : List UInt8} (h : A.drop i = c :: rest) : i < A.length ∧ chAt A i = c := by
  refine ⟨?_, ?_⟩
  · have := congrArg List.length h
    rw [List.length_drop] at this
    simp at this
    omega
  · have := chAt_drop A i 0
    rw [h] at this
    exact this.symm

theorem white_step {R : List Rn} {n : Nat} {s : LS} {c : UInt8} {rest : List UInt8} (hd : (cs R).drop s.i = c :: rest) (hw : whiteB c = true) (h10 : c ≠ 10) : linesFrom R n s = linesFrom R n ⟨s.i + 1, s.toks, s.from_, true, s.out, s.diags⟩ := by
  obtain ⟨h1, h2⟩ := drop_len hd
  rw [cs_len] at h1
  refine linesFrom_inl h1 ?_
  unfold lineStep
  rw [if_neg (by rw [h2]; exact h10), if_pos (by rw [h2]; exact hw)]

theorem com_step' {R : List Rn} {n : Nat} {s : LS} {e : Nat} {X : List UInt8} (hd : (cs R).drop s.i = 47 :: 42 :: X) (hc : comEnd (s.i + 2) X = some e) (he : s.i < e) : linesFrom R n s = linesFrom R n ⟨e, s.toks, s.from_, true, s.out, s.diags⟩ := by
  obtain ⟨h1, h2⟩ := drop_len hd
  have h3 : chAt (cs R) (s.i + 1) = 42 := by
    have := chAt_drop (cs R) s.i 1
    rw [hd] at this
    exact this.symm
  have hX : (cs R).drop (s.i + 2) = X := by rw [← List.drop_drop, hd]; rfl
  rw [cs_len] at h1
  have hcm : commentL (cs R) s.i = (e, false) := by
    unfold commentL
    rw [if_neg (by simp [h2]), if_neg (by rw [h3]; decide), if_neg (by simp [h3]), hX, hc]
  refine linesFrom_inl h1 ?_
  unfold lineStep
  rw [if_neg (by rw [h2]; decide), if_neg (by rw [h2]; decide), hcm, if_pos he]
  simp

theorem gap_step {R : List Rn} {n : Nat} {s : LS} {g rest : List UInt8} (hg : g ∈ kindsG) (hd : (cs R).drop s.i = g ++ rest) : linesFrom R n s = linesFrom R n ⟨s.i + g.length, s.toks, s.from_, true, s.out, s.diags⟩ := by
  simp only [kindsG, List.mem_cons, List.not_mem_nil, or_false] at hg
  rcases hg with rfl | rfl | rfl | rfl | rfl | rfl
  · exact white_step hd (by decide) (by decide)
  · exact white_step hd (by decide) (by decide)
  · exact com_step' (e := s.i + 4) (X := 42 :: 47 :: rest) hd (by simp [comEnd]) (by omega)
  · exact com_step' (e := s.i + 11) (X := [32, 97, 32, 10, 32, 98, 32, 42, 47] ++ rest) (by rw [hd]; rfl) (by simp [comEnd]) (by omega)
  · rw [white_step (c := 32) hd (by decide) (by decide)]
    have hd2 : (cs R).drop (s.i + 1) = 47 :: 42 :: ([32, 42, 32, 47, 32, 42, 47, 32] ++ rest) := by rw [← List.drop_drop, hd]; rfl
    rw [com_step' (s := ⟨s.i + 1, s.toks, s.from_, true, s.out, s.diags⟩) (e := s.i + 10) hd2 (by simp [comEnd]) (by simp only; omega)]
    have hd3 : (cs R).drop (s.i + 10) = 32 :: rest := by rw [← List.drop_drop, hd]; rfl
    rw [white_step (s := ⟨s.i + 10, s.toks, s.from_, true, s.out, s.diags⟩) (c := 32) hd3 (by decide) (by decide)]
    rfl
  · rw [white_step (c := 11) hd (by decide) (by decide)]
    have hd2 : (cs R).drop (s.i + 1) = 12 :: rest := by rw [← List.drop_drop, hd]; rfl
    rw [white_step (s := ⟨s.i + 1, s.toks, s.from_, true, s.out, s.diags⟩) (c := 12) hd2 (by decide) (by decide)]
    rfl

theorem while_word {w r : List UInt8} {c : UInt8} (hw : ∀ x ∈ w, idB x = true) (hc : idB c = false) : (w ++ c :: r).takeWhile idB = w := by
  induction w with
  | nil => simp [hc]
  | cons a w ih => simp [hw a (by simp), ih (fun x hx => hw x (by simp [hx]))]

theorem word_next {w r : List UInt8} {c : UInt8} (hw : Wd w) (hc : idB c = false ∧ c ≠ 34 ∧ c ≠ 39) : nextL (w ++ c :: r) 0 = (1, w.length, false) := by
  obtain ⟨x, w', rfl⟩ : ∃ x w', w = x :: w' := by cases w with | nil => exact absurd rfl hw.1 | cons x w' => exact ⟨x, w', rfl⟩
  have hx := low_facts (hw.2 x (by simp))
  have hl : lettersL (x :: w' ++ c :: r) 0 = -1 := by
    have c0 : chAt (x :: w' ++ c :: r) 0 = x := rfl
    have c1 : chAt (x :: w' ++ c :: r) 1 ≠ 34 ∧ chAt (x :: w' ++ c :: r) 1 ≠ 39 ∧ chAt (x :: w' ++ c :: r) 1 ≠ 56 := by
      cases w' with
      | nil =>
        have : chAt ([x] ++ c :: r) 1 = c := rfl
        rw [this]
        refine ⟨hc.2.1, hc.2.2, fun e => ?_⟩
        rw [e] at hc
        exact absurd hc.1 (by decide)
      | cons y w' =>
        have : chAt (x :: y :: w' ++ c :: r) 1 = y := rfl
        have hy := low_facts (hw.2 y (by simp))
        rw [this]
        exact ⟨hy.2.2.1, hy.2.2.2.1, hy.2.2.2.2.1⟩
    unfold lettersL
    rw [c0, if_neg (by simp [hx.2.2.1, hx.2.2.2.1]), if_neg (fun h => c1.2.2 h.2.1), if_neg (fun h => h.2.elim c1.1 c1.2.1)]
  have hw2 : ∀ y ∈ w', idB y = true := fun y hy => (low_facts (hw.2 y (by simp [hy]))).2.1
  have hdr : (x :: w' ++ c :: r).drop (0 + 1) = w' ++ c :: r := rfl
  unfold nextL
  rw [hl, if_neg (by omega), if_neg (by omega), if_neg (by omega), if_pos (show letterB (chAt (x :: w' ++ c :: r) 0) = true from hx.1), hdr, while_word hw2 hc.1, List.length_cons]
  simp only [Prod.mk.injEq, and_true, true_and]
  omega

theorem word_step {R : List Rn} {n : Nat} {s : LS} {w r : List UInt8} {c : UInt8} (hw : Wd w) (hc : idB c = false ∧ c ≠ 34 ∧ c ≠ 39) (hd : (cs R).drop s.i = w ++ c :: r) :
    ∃ t : Tk, (t.kind = 1 ∧ t.text = w ∧ t.space = s.space) ∧ linesFrom R n s = linesFrom R n ⟨s.i + w.length, s.toks ++ [t], s.from_, false, s.out, s.diags⟩ := by
  obtain ⟨x, w', rfl⟩ : ∃ x w', w = x :: w' := by cases w with | nil => exact absurd rfl hw.1 | cons x w' => exact ⟨x, w', rfl⟩
  have hx := low_facts (hw.2 x (by simp))
  obtain ⟨h1, h2⟩ := drop_len hd
  rw [cs_len] at h1
  have hnx : nextL (cs R) s.i = (1, s.i + (x :: w').length, false) := by rw [next_shift, hd, word_next hw hc]
  have hcm : commentL (cs R) s.i = (s.i, false) := com_no (fun h => by rw [h2] at h; exact absurd h hx.2.2.2.2.2.2.2.1)
  refine ⟨tokAt R s, ?_, linesFrom_inl h1 ?_⟩
  · unfold tokAt
    rw [hnx]
    simp only
    refine ⟨trivial, ?_, trivial⟩
    rw [hd, show s.i + (x :: w').length - s.i = (x :: w').length by omega, List.take_left]
  · unfold lineStep
    rw [if_neg (by rw [h2]; exact hx.2.2.2.2.2.1), if_neg (by rw [h2, hx.2.2.2.2.2.2.1]; decide), hcm, if_neg (by omega), hnx]
    rfl

theorem tail_run {R : List Rn} {n : Nat} {s : LS} (hd : (cs R).drop s.i = tailG) (ho : s.out = []) (hg : s.diags = []) (hf : s.from_ = 0) : linesFrom R n s = ([⟨s.toks, 0, n, false⟩], []) := by
  unfold tailG at hd
  rw [white_step hd (by decide) (by decide)]
  have hd2 : (cs R).drop (s.i + 1) = [47, 47, 32, 99, 32, 47, 42, 32, 100, 10] := by rw [← List.drop_drop, hd]; rfl
  have hlen : R.length = s.i + 11 := by
    have := congrArg List.length hd
    rw [List.length_drop, cs_len] at this
    simp at this
    omega
  have h2 := (drop_len hd2).2
  have h3 : chAt (cs R) (s.i + 1 + 1) = 47 := by
    have := chAt_drop (cs R) (s.i + 1) 1
    rw [hd2] at this
    exact this.symm
  have hcm : commentL (cs R) (s.i + 1) = (s.i + 10, false) := by
    unfold commentL
    rw [if_neg (by simp [h2]), if_pos h3, hd2]
    rfl
  rw [linesFrom_inl (s := ⟨s.i + 1, s.toks, s.from_, true, s.out, s.diags⟩) (s' := ⟨s.i + 10, s.toks, s.from_, true, s.out, s.diags⟩) (by simp only; omega) (by
    unfold lineStep
    simp only
    rw [if_neg (by rw [h2]; decide), if_neg (by rw [h2]; decide), hcm, if_pos (by omega)]
    simp)]
  have hd3 : (cs R).drop (s.i + 10) = [10] := by rw [← List.drop_drop, hd]; rfl
  have h4 := (drop_len hd3).2
  rw [linesFrom_inl (s := ⟨s.i + 10, s.toks, s.from_, true, s.out, s.diags⟩) (s' := ⟨s.i + 11, [], rT R (s.i + 10), false, s.out ++ [⟨s.toks, s.from_, rT R (s.i + 10), false⟩], s.diags⟩) (by simp only; omega) (by
    unfold lineStep
    simp only
    rw [if_pos h4]), linesFrom_end (by simp only; omega), ho, hg, hf]
  rfl

theorem gap_head {g : List UInt8} (hg : g ∈ kindsG) : ∃ c g', g = c :: g' ∧ idB c = false ∧ c ≠ 34 ∧ c ≠ 39 := by
  simp only [kindsG, List.mem_cons, List.not_mem_nil, or_false] at hg
  rcases hg with rfl | rfl | rfl | rfl | rfl | rfl <;> exact ⟨_, _, rfl, by decide, by decide, by decide⟩

theorem spell_head {gs : List (List UInt8 × List UInt8)} (h : ∀ p ∈ gs, p.1 ∈ kindsG ∧ Wd p.2) : ∃ c r, spellG gs ++ tailG = c :: r ∧ idB c = false ∧ c ≠ 34 ∧ c ≠ 39 := by
  cases gs with
  | nil => exact ⟨_, _, rfl, by decide, by decide, by decide⟩
  | cons p ps =>
    obtain ⟨c, g', e, hc⟩ := gap_head (h p (by simp)).1
    exact ⟨c, _, by simp only [spellG, e, List.cons_append]; rfl, hc⟩

theorem gaps_run {R : List Rn} (n : Nat) : ∀ (gs : List (List UInt8 × List UInt8)) (s : LS), (∀ p ∈ gs, p.1 ∈ kindsG ∧ Wd p.2) → (cs R).drop s.i = spellG gs ++ tailG → s.out = [] → s.diags = [] → s.from_ = 0 →
    ∃ toks' : List Tk, linesFrom R n s = ([⟨s.toks ++ toks', 0, n, false⟩], []) ∧ toks'.map (fun t => (t.kind, t.text, t.space)) = gs.map (fun p => (1, p.2, true))
  | [], s, _, hd, ho, hg, hf => ⟨[], by rw [tail_run hd ho hg hf, List.append_nil], rfl⟩
  | p :: ps, s, h, hd, ho, hg, hf => by
    have hp := h p (by simp)
    have hd1 : (cs R).drop s.i = p.1 ++ (p.2 ++ (spellG ps ++ tailG)) := by rw [hd]; simp [spellG]
    have hd2 := drop_step (X := []) hd1
    obtain ⟨c, r, hcr, hc⟩ := spell_head (gs := ps) (fun q hq => h q (by simp [hq]))
    have hd3 : (cs R).drop (s.i + p.1.length) = p.2 ++ c :: r := by rw [hd2, hcr]
    obtain ⟨t, ht, hs⟩ := word_step (n := n) (s := ⟨s.i + p.1.length, s.toks, s.from_, true, s.out, s.diags⟩) hp.2 hc hd3
    have hd4 := drop_step (X := []) hd2
    obtain ⟨tk', h1, h2⟩ := gaps_run n ps ⟨s.i + p.1.length + p.2.length, s.toks ++ [t], s.from_, false, s.out, s.diags⟩ (fun q hq => h q (by simp [hq])) hd4 ho hg hf
    refine ⟨t :: tk', ?_, ?_⟩
    · rw [gap_step hp.1 hd1, hs, h1]
      simp
    · rw [List.map_cons, h2, List.map_cons, ht.1, ht.2.1, ht.2.2]

theorem cs_plain10 {l : List UInt8} (h : ∀ c ∈ l, c ≠ 92 ∧ c ≠ 63) (hl : l.getLast? = some 10) : cs (charsL l) = l := by
  have hst := standL_plain (plain_of h)
  unfold charsL
  rw [if_neg]
  · unfold cs
    rw [hst, idL_c]
  · rintro ⟨hne, h1 | h1⟩
    · rw [hst] at h1
      apply hne
      rw [← idL_c l 0, h1]
      rfl
    · apply h1
      rw [hst, ← List.getLast?_map, idL_c, hl]

theorem spellG_mem : ∀ {gs : List (List UInt8 × List UInt8)}, (∀ p ∈ gs, p.1 ∈ kindsG ∧ Wd p.2) → ∀ c ∈ spellG gs, c ≠ 92 ∧ c ≠ 63
  | [], _, c, h => by simp [spellG] at h
  | p :: ps, hG, c, h => by
    simp only [spellG, List.mem_append] at h
    have hp := hG p (by simp)
    rcases h with h | h | h
    · exact (show ∀ g ∈ kindsG, ∀ c ∈ g, c ≠ 92 ∧ c ≠ 63 by decide) _ hp.1 c h
    · have := low_facts (hp.2.2 c h)
      exact ⟨this.2.2.2.2.2.2.2.2.1, this.2.2.2.2.2.2.2.2.2⟩
    · exact spellG_mem (fun q hq => hG q (by simp [hq])) c h

theorem lex_gaps {gs : List (List UInt8 × List UInt8)} (hG : ∀ p ∈ gs, p.1 ∈ kindsG ∧ Wd p.2) : ∃ toks' : List Tk, linesL (spellG gs ++ tailG) = ([⟨toks', 0, (spellG gs ++ tailG).length, false⟩], []) ∧ toks'.map (fun t => (t.kind, t.text, t.space)) = gs.map (fun p => (1, p.2, true)) := by
  have hcs : cs (charsL (spellG gs ++ tailG)) = spellG gs ++ tailG := by
    refine cs_plain10 (fun c hc => ?_) ?_
    · rcases List.mem_append.1 hc with hc | hc
      · exact spellG_mem hG c hc
      · exact (show ∀ c ∈ tailG, c ≠ 92 ∧ c ≠ 63 by decide) c hc
    · rw [List.getLast?_append]
      rfl
  obtain ⟨tk', h1, h2⟩ := gaps_run (R := charsL (spellG gs ++ tailG)) (spellG gs ++ tailG).length gs ⟨0, [], 0, false, [], []⟩ hG (by simp [hcs]) rfl rfl rfl
  exact ⟨tk', by simpa [linesL, linesFrom] using h1, h2⟩

theorem spellG_app : ∀ (a b : List (List UInt8 × List UInt8)), spellG (a ++ b) = spellG a ++ spellG b
  | [], b => rfl
  | p :: a, b => by simp [spellG, spellG_app a b]
end Go.Proofs.Ythbicbfdldpemaa

/- MacroForms: the plain law, first part: a line without quotes and comments, cut into tokens. -/
namespace Go.Proofs.Ythbicbfdldpemaa
set_option linter.unusedVariables false

abbrev Tq := Nat × List UInt8 × Bool

/-- a text's tokens: kind, text, space -/
inductive Tz : Bool → List UInt8 → List Tq → Prop
  | nil {sp : Bool} : Tz sp [] []
  | blank {sp : Bool} {r : List UInt8} {T : List Tq} (h : Tz true r T) : Tz sp (32 :: r) T
  | tok {sp : Bool} {t r : List UInt8} {k : Nat} {T : List Tq} (hn : nextL (t ++ (r ++ [10])) 0 = (k, t.length, false)) (ht : t ≠ []) (h32 : chAt t 0 ≠ 32) (h : Tz false r T) : Tz sp (t ++ r) ((k, t, sp) :: T)

/-- the bytes that such a line has -/
def LineB (c : UInt8) : Prop := c ≠ 92 ∧ c ≠ 63 ∧ c ≠ 10 ∧ c ≠ 47 ∧ (whiteB c = true → c = 32)

theorem tz_run {R : List Rn} (n : Nat) {sp : Bool} {S : List UInt8} {T : List Tq} (h : Tz sp S T) : ∀ (s : LS), (∀ c ∈ S, LineB c) → (cs R).drop s.i = S ++ [10] → s.space = sp → s.out = [] → s.diags = [] → s.from_ = 0 →
    ∃ toks' : List Tk, linesFrom R n s = ([⟨s.toks ++ toks', 0, n, false⟩], []) ∧ toks'.map (fun t => (t.kind, t.text, t.space)) = T := by
  induction h with
  | nil =>
    intro s hS hd hsp ho hg hf
    obtain ⟨h1, h10⟩ := drop_len (c := 10) (rest := []) hd
    have hlen : (cs R).length = s.i + 1 := by
      have := congrArg List.length hd
      rw [List.length_drop] at this
      simp at this
      omega
    rw [cs_len] at h1 hlen
    refine ⟨[], ?_, rfl⟩
    rw [linesFrom_inl (s' := ⟨s.i + 1, [], rT R s.i, false, s.out ++ [⟨s.toks, s.from_, rT R s.i, false⟩], s.diags⟩) h1 (by unfold lineStep; rw [if_pos h10]), linesFrom_end (by simp only; omega), ho, hg, hf, List.append_nil]
    rfl
  | @blank sp r T h ih =>
    intro s hS hd hsp ho hg hf
    have hd2 : (cs R).drop (s.i + 1) = r ++ [10] := by rw [← List.drop_drop, hd]; rfl
    obtain ⟨tk', h1, h2⟩ := ih ⟨s.i + 1, s.toks, s.from_, true, s.out, s.diags⟩ (fun c hc => hS c (by simp [hc])) hd2 rfl ho hg hf
    exact ⟨tk', by rw [white_step (c := 32) hd (by decide) (by decide), h1], h2⟩
  | @tok sp t r k T hn ht h32 h ih =>
    intro s hS hd hsp ho hg hf
    obtain ⟨x, t', rfl⟩ : ∃ x t', t = x :: t' := by cases t with | nil => exact absurd rfl ht | cons x t' => exact ⟨x, t', rfl⟩
    have hx := hS x (by simp)
    have hx32 : x ≠ 32 := h32
    have hd1 : (cs R).drop s.i = (x :: t') ++ (r ++ [10]) := by rw [hd, List.append_assoc]
    obtain ⟨h1, h2⟩ := drop_len hd1
    rw [cs_len] at h1
    have hw : whiteB x = false := by
      cases hh : whiteB x with
      | false => rfl
      | true => exact absurd (hx.2.2.2.2 hh) hx32
    have hnx : nextL (cs R) s.i = (k, s.i + (x :: t').length, false) := by rw [next_shift, hd1, hn]
    have hcm : commentL (cs R) s.i = (s.i, false) := com_no (fun h => by rw [h2] at h; exact absurd h hx.2.2.2.1)
    have htk : tokAt R s = ⟨k, x :: t', sp, rF R s.i, rT R (s.i + (x :: t').length - 1)⟩ := by
      unfold tokAt
      rw [hnx, hsp]
      simp only
      rw [hd1, show s.i + (x :: t').length - s.i = (x :: t').length by omega, List.take_left]
    have hst : linesFrom R n s = linesFrom R n ⟨s.i + (x :: t').length, s.toks ++ [tokAt R s], s.from_, false, s.out, s.diags⟩ := by
      refine linesFrom_inl h1 ?_
      unfold lineStep
      rw [if_neg (by rw [h2]; exact hx.2.2.1), if_neg (by rw [h2, hw]; decide), hcm, if_neg (by omega), hnx]
      rfl
    have hd2 := drop_step (X := []) hd1
    obtain ⟨tk', g1, g2⟩ := ih ⟨s.i + (x :: t').length, s.toks ++ [tokAt R s], s.from_, false, s.out, s.diags⟩ (fun c hc => hS c (List.mem_append_right _ hc)) hd2 rfl ho hg hf
    refine ⟨tokAt R s :: tk', ?_, ?_⟩
    · rw [hst, g1]; simp
    · rw [List.map_cons, g2, htk]

theorem tz_lines {S : List UInt8} {T : List Tq} (hS : ∀ c ∈ S, LineB c) (h : Tz false S T) (hne : S ≠ []) :
    ∃ toks' : List Tk, linesL S = ([⟨toks', 0, S.length, false⟩], []) ∧ toks'.map (fun t => (t.kind, t.text, t.space)) = T := by
  have hcs : cs (charsL S) = S ++ [10] := by
    rcases cs_plain (fun c hc => ⟨(hS c hc).1, (hS c hc).2.1⟩) with h1 | h1
    · exfalso
      obtain ⟨ini, r, h2, h3⟩ := charsL_last S hne
      have : (10 : UInt8) ∈ S := by
        rw [← h1, h2]
        unfold cs
        rw [List.map_append, ← h3]
        simp
      exact (hS 10 this).2.2.1 rfl
    · exact h1
  obtain ⟨tk', h1, h2⟩ := tz_run (R := charsL S) S.length h ⟨0, [], 0, false, [], []⟩ hS (by simp [hcs]) rfl rfl rfl rfl
  exact ⟨tk', by simpa [linesL, linesFrom] using h1, h2⟩

/-! ## the body's bytes -/

/-- small letters, digits, blanks, plus signs -/
def BodyB (c : UInt8) : Prop := (97 ≤ c ∧ c ≤ 122) ∨ (48 ≤ c ∧ c ≤ 57) ∨ c = 32 ∨ c = 43

theorem body_facts {c : UInt8} (h : BodyB c) : c ≠ 34 ∧ c ≠ 39 ∧ c ≠ 46 ∧ c ≠ 10 ∧ c ≠ 47 ∧ c ≠ 92 ∧ c ≠ 63 ∧ c ≠ 45 ∧ c ≠ 61 ∧ (whiteB c = true → c = 32) ∧ (letterB c = true ∨ digitB c = true ∨ c = 32 ∨ c = 43) ∧ (idB c = false → c = 32 ∨ c = 43) ∧ (numB c = false → c = 32 ∨ c = 43) := by
  have := all_bytesX (fun c => !((decide (97 ≤ c) && decide (c ≤ 122)) || (decide (48 ≤ c) && decide (c ≤ 57)) || c == 32 || c == 43) || (c != 34 && c != 39 && c != 46 && c != 10 && c != 47 && c != 92 && c != 63 && c != 45 && c != 61 && (!whiteB c || c == 32) && (letterB c || digitB c || c == 32 || c == 43) && (idB c || c == 32 || c == 43) && (numB c || c == 32 || c == 43))) (by decide +kernel) c
  have hp : ((decide (97 ≤ c) && decide (c ≤ 122)) || (decide (48 ≤ c) && decide (c ≤ 57)) || c == 32 || c == 43) = true := by
    rcases h with h | h | h | h
    · simp [h.1, h.2]
    · simp [h.1, h.2]
    · simp [h]
    · simp [h]
  rw [hp] at this
  simp only [Bool.not_true, Bool.false_or, Bool.and_eq_true, bne_iff_ne, Bool.or_eq_true, Bool.not_eq_true', beq_iff_eq] at this
  obtain ⟨⟨⟨⟨⟨⟨⟨⟨⟨⟨⟨⟨g1, g2⟩, g3⟩, g4⟩, g5⟩, g6⟩, g7⟩, g8⟩, g9⟩, g10⟩, g11⟩, g12⟩, g13⟩ := this
  refine ⟨g1, g2, g3, g4, g5, g6, g7, g8, g9, fun hh => ?_, ?_, fun hh => ?_, fun hh => ?_⟩
  · rcases g10 with g | g
    · rw [g] at hh; cases hh
    · exact g
  · rcases g11 with ((g | g) | g) | g
    · exact .inl g
    · exact .inr (.inl g)
    · exact .inr (.inr (.inl g))
    · exact .inr (.inr (.inr g))
  · rcases g12 with (g | g) | g
    · rw [g] at hh; cases hh
    · exact .inl g
    · exact .inr g
  · rcases g13 with (g | g) | g
    · rw [g] at hh; cases hh
    · exact .inl g
    · exact .inr g
end Go.Proofs.Ythbicbfdldpemaa
