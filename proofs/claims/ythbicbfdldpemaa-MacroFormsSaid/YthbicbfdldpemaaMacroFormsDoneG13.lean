/- Texts of this seat's proofs, laid into one file. -/
import Derived.Test.YthbicbfdldpemaaMacroFormsDoneG12
import Derived.Test.YthbicbfdldpemaaMacroFormsDoneG9
/- MacroForms: the plain law, second part: a body's tokens, told with blanks, are the same. -/
namespace Go.Proofs.Ythbicbfdldpemaa
set_option linter.unusedVariables false

def NoQ (l : List UInt8) : Prop := ∀ x ∈ l, x ≠ 34 ∧ x ≠ 39

theorem letters_noq {X : List UInt8} (h : NoQ X) : lettersL X 0 < 0 := by
  rcases Int.lt_or_le (lettersL X 0) 0 with h1 | h1
  · exact h1
  · exfalso
    have hq := (letters_quote (A := X) (i := 0) (by omega)).2
    have hlt := ne0_lt (A := X) (i := 0 + (lettersL X 0).toNat) (by rcases hq with e | e <;> rw [e] <;> decide)
    have := h _ (List.getElem_mem hlt)
    rw [chAt_lt (List.getElem?_eq_getElem hlt)] at hq
    rcases hq with e | e
    · exact this.1 e
    · exact this.2 e

theorem next_noq {X : List UInt8} (h : NoQ X) : nextL X 0 = if letterB (chAt X 0) then (1, 1 + ((X.drop 1).takeWhile idB).length, false) else if 0 < numL X 0 then (2, numL X 0, false) else if 0 < punctL X 0 then (5, punctL X 0, false) else (6, 1, false) := by
  have := letters_noq h
  unfold nextL
  rw [if_neg (by omega), if_neg (by omega), if_neg (by omega)]
  simp only [Nat.zero_add]

/-- a token hangs on the one character behind it alone -/
def Loc (k : Nat) (t : List UInt8) (c : UInt8) : Prop := ∀ r, NoQ (c :: r) → nextL (t ++ c :: r) 0 = (k, t.length, false)

theorem expB_numB {c d : UInt8} (h : expB c d = true) : numB c = true := by
  have h1 := of_decide_eq_true h
  rcases h1.1 with e | e | e | e <;> rw [e] <;> decide

theorem num0 {c : UInt8} {r : List UInt8} (h : numRun (c :: r) = 0) : numB c = false := by
  cases r with
  | nil =>
    simp only [numRun] at h
    split at h
    · omega
    · rename_i h1; simpa using h1
  | cons d r =>
    simp only [numRun] at h
    split at h
    · omega
    · split at h
      · omega
      · rename_i h1; simpa using h1

theorem num0' {c : UInt8} (h : numB c = false) (r : List UInt8) : numRun (c :: r) = 0 := by
  cases r with
  | nil => simp [numRun, h]
  | cons d r =>
    have : expB c d = false := by
      cases he : expB c d with
      | false => rfl
      | true => rw [expB_numB he] at h; cases h
    simp [numRun, h, this]

theorem num_loc {c c' : UInt8} (hc' : c' = c ∨ c' = 32 ∨ c' = 10) {r' : List UInt8} : ∀ (n : Nat) (t r : List UInt8), t.length ≤ n → numRun (t ++ c :: r) = t.length → numRun (t ++ c' :: r') = t.length := by
  have hb : ∀ a, c' = 32 ∨ c' = 10 → expB a c' = false := by
    intro a h
    rcases h with rfl | rfl <;> simp [expB]
  have hz : ∀ r : List UInt8, numRun (c :: r) = 0 → numRun (c' :: r') = 0 := by
    intro r h
    rcases hc' with e | e | e
    · rw [e]; exact num0' (num0 h) _
    · rw [e]; exact num0' (by decide) _
    · rw [e]; exact num0' (by decide) _
  intro n
  induction n with
  | zero =>
    intro t r hn h
    have : t = [] := List.eq_nil_of_length_eq_zero (by omega)
    subst this
    exact hz r h
  | succ n ih =>
    intro t r hn h
    match t with
    | [] => exact hz r h
    | [a] =>
      have e1 : numRun ([a] ++ c :: r) = if expB a c then numRun r + 2 else if numB a then numRun (c :: r) + 1 else 0 := rfl
      have e2 : numRun ([a] ++ c' :: r') = if expB a c' then numRun r' + 2 else if numB a then numRun (c' :: r') + 1 else 0 := rfl
      rw [e1] at h
      simp only [List.length_singleton] at h ⊢
      rw [e2]
      split at h
      · omega
      · rename_i he
        split at h
        · rename_i ha
          have h0 := hz r (by omega)
          have he' : expB a c' = false := by
            rcases hc' with e | e
            · rw [e]; simpa using he
            · exact hb a e
          rw [if_neg (by rw [he']; decide), if_pos ha, h0]
        · omega
    | a :: b :: t =>
      simp only [List.length_cons] at hn
      have e1 : numRun (a :: b :: t ++ c :: r) = if expB a b then numRun (t ++ c :: r) + 2 else if numB a then numRun (b :: t ++ c :: r) + 1 else 0 := rfl
      have e2 : numRun (a :: b :: t ++ c' :: r') = if expB a b then numRun (t ++ c' :: r') + 2 else if numB a then numRun (b :: t ++ c' :: r') + 1 else 0 := rfl
      rw [e1] at h
      rw [e2]
      simp only [List.length_cons] at h ⊢
      split at h
      · rename_i he
        rw [if_pos he, ih t r (by omega) (by omega)]
      · rename_i he
        split at h
        · rename_i ha
          rw [if_neg he, if_pos ha, ih (b :: t) r (by simp; omega) (by have g := h; simp only [List.cons_append, List.length_cons] at g ⊢; omega)]
          simp
        · omega

theorem plus_find (y : UInt8) : (punctsL.find? fun p => p.isPrefixOf [43, y]) = if y = 43 then some [43, 43] else if y = 61 then some [43, 61] else some [43] := by
  have := all_bytesX (fun y => (punctsL.find? fun p => p.isPrefixOf [43, y]) == if y = 43 then some [43, 43] else if y = 61 then some [43, 61] else some [43]) (by decide +kernel) y
  simpa using this

theorem plus_short : ∀ x ∈ punctsL, x.head? = some 43 → x.length ≤ 2 := by decide

theorem plus_punct (y : UInt8) (r : List UInt8) : punctL (43 :: y :: r) 0 = if y = 43 ∨ y = 61 then 2 else 1 := by
  have hsub : ∀ x ∈ punctsL, x <+: 43 :: y :: r → x <+: [43, y] := by
    intro x hx hp
    have h2 := List.prefix_iff_eq_take.1 hp
    have hne := (puncts_no32 x hx).2
    have hh : x.head? = some 43 := by
      cases x with
      | nil => exact absurd rfl hne
      | cons a x =>
        obtain ⟨s, hs⟩ := hp
        simp only [List.cons_append, List.cons.injEq] at hs
        rw [hs.1]; rfl
    have hs := plus_short x hx hh
    rw [h2]
    have : (43 :: y :: r).take x.length = ([43, y] : List UInt8).take x.length := by
      match hx2 : x.length with
      | 0 => rfl
      | 1 => rfl
      | 2 => rfl
      | n + 3 => omega
    rw [this]
    exact List.take_prefix _ _
  have hf := plus_find y
  by_cases h1 : y = 43
  · rw [if_pos h1] at hf
    rw [if_pos (.inl h1), punct_same hf (by rw [h1]; exact ⟨r, rfl⟩) hsub]
    rfl
  · rw [if_neg h1] at hf
    by_cases h2 : y = 61
    · rw [if_pos h2] at hf
      rw [if_pos (.inr h2), punct_same hf (by rw [h2]; exact ⟨r, rfl⟩) hsub]
      rfl
    · rw [if_neg h2] at hf
      rw [if_neg (by simp [h1, h2]), punct_same (Y := 43 :: y :: r) hf ⟨y :: r, rfl⟩ hsub]
      rfl

/-- what stands in a body's token -/
theorem body_loc {t r : List UInt8} {c : UInt8} {k : Nat} {b : Bool} (ht : t ≠ []) (hb : ∀ x ∈ t, BodyB x) (h32 : chAt t 0 ≠ 32) (hc : BodyB c ∨ c = 10) (hr : NoQ (c :: r)) (h : nextL (t ++ c :: r) 0 = (k, t.length, b)) :
    Loc k t c ∧ Loc k t 32 ∧ Loc k t 10 ∧ ∀ x ∈ t, x ≠ 32 := by
  have hq : ∀ (c' : UInt8) (r' : List UInt8), NoQ (c' :: r') → NoQ (t ++ c' :: r') := by
    intro c' r' h' x hx
    rcases List.mem_append.1 hx with hx | hx
    · have := body_facts (hb x hx); exact ⟨this.1, this.2.1⟩
    · exact h' x hx
  have hc61 : c ≠ 61 := by
    rcases hc with h1 | h1
    · exact (body_facts h1).2.2.2.2.2.2.2.2.1
    · rw [h1]; decide
  obtain ⟨x, t', rfl⟩ : ∃ x t', t = x :: t' := by cases t with | nil => exact absurd rfl ht | cons x t' => exact ⟨x, t', rfl⟩
  have hx := body_facts (hb x (by simp))
  have hx32 : x ≠ 32 := h32
  rw [next_noq (hq c r hr)] at h
  have e0 : ∀ (c' : UInt8) (r' : List UInt8), chAt (x :: t' ++ c' :: r') 0 = x := fun _ _ => rfl
  have e1 : ∀ (c' : UInt8) (r' : List UInt8), (x :: t' ++ c' :: r').drop 1 = t' ++ c' :: r' := fun _ _ => rfl
  rw [e0, e1] at h
  by_cases hl : letterB x = true
  · rw [if_pos hl] at h
    simp only [Prod.mk.injEq, List.length_cons] at h
    obtain ⟨rfl, h1, _⟩ := h
    have h2 : ((t' ++ c :: r).takeWhile idB) = t' := by
      have h3 := takeWhile_take idB (t' ++ c :: r)
      rw [show ((t' ++ c :: r).takeWhile idB).length = t'.length by omega, List.take_left] at h3
      exact h3.symm
    have hid : ∀ y ∈ t', idB y = true := by rw [← h2]; exact fun y hy => takeWhile_mem hy
    have hcid : idB c = false := by
      cases hh : idB c with
      | false => rfl
      | true =>
        exfalso
        have : ∀ (l : List UInt8), (∀ y ∈ l, idB y = true) → ((l ++ c :: r).takeWhile idB).length ≠ l.length := by
          intro l hl
          induction l with
          | nil => simp [hh]
          | cons a l ih => simp only [List.cons_append, List.takeWhile_cons, hl a (by simp), if_true, List.length_cons]; have := ih (fun y hy => hl y (by simp [hy])); omega
        exact this t' hid (by rw [h2])
    have key : ∀ c', idB c' = false → Loc 1 (x :: t') c' := by
      intro c' hc' r' hr'
      rw [next_noq (hq c' r' hr'), e0, e1, if_pos hl, while_word hid hc']
      simp only [List.length_cons, Prod.mk.injEq, and_true, true_and]
      omega
    refine ⟨key c hcid, key 32 (by decide), key 10 (by decide), fun y hy => ?_⟩
    rcases List.mem_cons.1 hy with rfl | hy
    · exact hx32
    · intro e; have := hid y hy; rw [e] at this; exact absurd this (by decide)
  · rw [if_neg hl] at h
    have hx46 : x ≠ 46 := hx.2.2.1
    have hnum : ∀ (c' : UInt8) (r' : List UInt8), numL (x :: t' ++ c' :: r') 0 = if digitB x = true then 1 + numRun (t' ++ c' :: r') else 0 := by
      intro c' r'
      unfold numL
      rw [e0]
      by_cases hd : digitB x = true
      · rw [if_pos (.inl hd), if_pos hd, Nat.zero_add]; rfl
      · rw [if_neg (by simp [hd, hx46]), if_neg hd]
    rw [hnum] at h
    by_cases hd : digitB x = true
    · rw [if_pos hd, if_pos (by omega)] at h
      simp only [Prod.mk.injEq, List.length_cons] at h
      obtain ⟨rfl, h1, _⟩ := h
      have key : ∀ c', (c' = c ∨ c' = 32 ∨ c' = 10) → Loc 2 (x :: t') c' := by
        intro c' hc' r' hr'
        have := num_loc (r' := r') hc' t'.length t' r (Nat.le_refl _) (by omega)
        rw [next_noq (hq c' r' hr'), e0, if_neg hl, hnum, if_pos hd, if_pos (by omega), this]
        simp only [List.length_cons, Prod.mk.injEq, and_true, true_and]
        omega
      refine ⟨key c (.inl rfl), key 32 (.inr (.inl rfl)), key 10 (.inr (.inr rfl)), fun y hy => ?_⟩
      rcases List.mem_cons.1 hy with rfl | hy
      · exact hx32
      · have hno : ∀ (n : Nat) (l : List UInt8), l.length ≤ n → numRun (l ++ c :: r) = l.length → ∀ z ∈ l, z ≠ 32 := by
          intro n
          induction n with
          | zero => intro l hn h z hz; have := List.eq_nil_of_length_eq_zero (by omega : l.length = 0); subst this; cases hz
          | succ n ih =>
            intro l hn h z hz
            match l with
            | [] => cases hz
            | [a] =>
              simp only [List.mem_singleton] at hz
              subst hz
              intro e
              subst e
              have : numRun ([32] ++ c :: r) = 0 := num0' (by decide) _
              rw [this] at h
              simp at h
            | a :: b :: l =>
              have e1 : numRun (a :: b :: l ++ c :: r) = if expB a b then numRun (l ++ c :: r) + 2 else if numB a then numRun (b :: l ++ c :: r) + 1 else 0 := rfl
              simp only [List.length_cons] at hn h
              rw [e1] at h
              split at h
              · rename_i he
                have he2 := of_decide_eq_true he
                rcases List.mem_cons.1 hz with rfl | hz
                · rcases he2.1 with e | e | e | e <;> rw [e] <;> decide
                · rcases List.mem_cons.1 hz with rfl | hz
                  · rcases he2.2 with e | e <;> rw [e] <;> decide
                  · exact ih l (by omega) (by omega) z hz
              · split at h
                · rename_i ha
                  rcases List.mem_cons.1 hz with rfl | hz
                  · intro e; rw [e] at ha; exact absurd ha (by decide)
                  · exact ih (b :: l) (by simp; omega) (by have g := h; simp only [List.cons_append, List.length_cons] at g ⊢; omega) z hz
                · omega
        exact hno t'.length t' (Nat.le_refl _) (by omega) y hy
    · have hx43 : x = 43 := by
        rcases hx.2.2.2.2.2.2.2.2.2.2.1 with g | g | g | g
        · exact absurd g hl
        · exact absurd g hd
        · exact absurd g hx32
        · exact g
      subst hx43
      rw [if_neg hd, if_neg (Nat.lt_irrefl 0)] at h
      match t', hb, h with
      | [], hb, h =>
        have hp : punctL ([43] ++ c :: r) 0 = if c = 43 ∨ c = 61 then 2 else 1 := plus_punct c r
        rw [hp] at h
        have hc43 : c ≠ 43 := by
          intro e
          rw [if_pos (show c = 43 ∨ c = 61 from .inl e)] at h
          simp at h
        rw [if_neg (show ¬ (c = 43 ∨ c = 61) by simp [hc43, hc61])] at h
        simp at h
        obtain ⟨rfl, _⟩ := h
        have key : ∀ c', c' ≠ 43 → c' ≠ 61 → Loc 5 [43] c' := by
          intro c' h1 h2 r' hr'
          have hp' : punctL ([43] ++ c' :: r') 0 = if c' = 43 ∨ c' = 61 then 2 else 1 := plus_punct c' r'
          rw [next_noq (hq c' r' hr'), e0, if_neg hl, hnum, if_neg hd, if_neg (Nat.lt_irrefl 0), hp', if_neg (show ¬ (c' = 43 ∨ c' = 61) by simp [h1, h2])]
          rfl
        exact ⟨key c hc43 hc61, key 32 (by decide) (by decide), key 10 (by decide) (by decide), by intro y hy; simp at hy; rw [hy]; decide⟩
      | y :: t'', hb, h =>
        have hp : punctL (43 :: y :: t'' ++ c :: r) 0 = if y = 43 ∨ y = 61 then 2 else 1 := plus_punct y (t'' ++ c :: r)
        have hy61 : y ≠ 61 := (body_facts (hb y (by simp))).2.2.2.2.2.2.2.2.1
        rw [hp] at h
        by_cases hy : y = 43
        · subst hy
          rw [if_pos (show (43 : UInt8) = 43 ∨ (43 : UInt8) = 61 from .inl rfl)] at h
          simp only [if_true, List.length_cons, show (0 : Nat) < 2 by omega] at h
          simp only [Prod.mk.injEq] at h
          obtain ⟨rfl, h1, _⟩ := h
          have : t'' = [] := List.eq_nil_of_length_eq_zero (by omega)
          subst this
          have key : ∀ c', Loc 5 [43, 43] c' := by
            intro c' r' hr'
            have hp' : punctL ([43, 43] ++ c' :: r') 0 = if (43 : UInt8) = 43 ∨ (43 : UInt8) = 61 then 2 else 1 := plus_punct 43 (c' :: r')
            rw [next_noq (hq c' r' hr'), e0, if_neg hl, hnum, if_neg hd, if_neg (Nat.lt_irrefl 0), hp', if_pos (show (43 : UInt8) = 43 ∨ (43 : UInt8) = 61 from .inl rfl)]
            rfl
          exact ⟨key c, key 32, key 10, by intro z hz; simp at hz; rw [hz]; decide⟩
        · exfalso
          rw [if_neg (show ¬ (y = 43 ∨ y = 61) by simp [hy, hy61])] at h
          simp at h
end Go.Proofs.Ythbicbfdldpemaa

/- MacroForms: the plain law, third part: a body's tokens, told with blanks, lexed again. -/
namespace Go.Proofs.Ythbicbfdldpemaa
set_option linter.unusedVariables false

/-- the character behind -/
def headN (r : List UInt8) : UInt8 := chAt (r ++ [10]) 0

inductive Bt : Bool → List UInt8 → List Tq → Prop
  | nil {sp : Bool} : Bt sp [] []
  | blank {sp : Bool} {r : List UInt8} {T : List Tq} (h : Bt true r T) : Bt sp (32 :: r) T
  | tok {sp : Bool} {t r : List UInt8} {k : Nat} {T : List Tq} (hl : Loc k t (headN r)) (h32 : Loc k t 32) (h10 : Loc k t 10) (ht : t ≠ []) (hb : ∀ x ∈ t, BodyB x ∧ x ≠ 32) (h : Bt false r T) : Bt sp (t ++ r) ((k, t, sp) :: T)

theorem headN_cons (c : UInt8) (r : List UInt8) : headN (c :: r) = c := rfl
theorem headN_nil : headN [] = 10 := rfl

theorem split10 (r : List UInt8) : ∃ r', r ++ [10] = headN r :: r' := by
  cases r with
  | nil => exact ⟨[], rfl⟩
  | cons c r => exact ⟨r ++ [10], rfl⟩

theorem noq_body {r : List UInt8} (h : ∀ c ∈ r, BodyB c) : NoQ (r ++ [10]) := by
  intro x hx
  rcases List.mem_append.1 hx with hx | hx
  · have := body_facts (h x hx); exact ⟨this.1, this.2.1⟩
  · simp only [List.mem_singleton] at hx; subst hx; exact ⟨by decide, by decide⟩

/-- each body has tokens -/
theorem bt_any : ∀ (n : Nat) (S : List UInt8) (sp : Bool), S.length ≤ n → (∀ c ∈ S, BodyB c) → ∃ T, Bt sp S T := by
  intro n
  induction n with
  | zero => intro S sp hn _; have := List.eq_nil_of_length_eq_zero (by omega : S.length = 0); subst this; exact ⟨[], .nil⟩
  | succ n ih =>
    intro S sp hn hS
    cases S with
    | nil => exact ⟨[], .nil⟩
    | cons c S =>
      simp only [List.length_cons] at hn
      by_cases hc : c = 32
      · subst hc
        obtain ⟨T, hT⟩ := ih S true (by omega) (fun x hx => hS x (by simp [hx]))
        exact ⟨T, .blank hT⟩
      · obtain ⟨k, e, b, hx⟩ : ∃ k e b, nextL (c :: S ++ [10]) 0 = (k, e, b) := ⟨_, _, _, rfl⟩
        have hl := nextL_len (A := c :: S ++ [10]) (i := 0) (by simp)
        have htail := next_tail (A := c :: S ++ [10]) (i := 0) (by simp) (by
          have := (body_facts (hS c (by simp))).2.2.2.1
          exact this)
        rw [hx] at hl htail
        simp only [List.length_append, List.length_cons, List.length_nil] at hl htail
        have hle : e ≤ (c :: S).length := by
          rcases Nat.lt_or_ge (c :: S).length e with h1 | h1
          · exfalso
            apply htail
            simp only [List.length_cons] at h1
            rw [show e - 1 = (c :: S).length by simp only [List.length_cons]; omega, chAt_app_ge (Nat.le_refl _), Nat.sub_self]
            rfl
          · exact h1
        have hsp : c :: S = (c :: S).take e ++ (c :: S).drop e := (List.take_append_drop e (c :: S)).symm
        have htl : ((c :: S).take e).length = e := by rw [List.length_take]; omega
        have hrb : ∀ x ∈ (c :: S).drop e, BodyB x := fun x hx => hS x (List.mem_of_mem_drop hx)
        have htb : ∀ x ∈ (c :: S).take e, BodyB x := fun x hx => hS x (List.mem_of_mem_take hx)
        have ht0 : chAt ((c :: S).take e) 0 = c := by rw [chAt_take (by omega)]; rfl
        have hne : (c :: S).take e ≠ [] := by intro h; rw [h] at htl; simp at htl; omega
        obtain ⟨r', hr'⟩ := split10 ((c :: S).drop e)
        have hhead : BodyB (headN ((c :: S).drop e)) ∨ headN ((c :: S).drop e) = 10 := by
          cases hd : (c :: S).drop e with
          | nil => exact .inr rfl
          | cons y z => exact .inl (by rw [headN_cons]; exact hrb y (by rw [hd]; simp))
        have hq := noq_body hrb
        rw [hr'] at hq
        have hnx : nextL ((c :: S).take e ++ headN ((c :: S).drop e) :: r') 0 = (k, ((c :: S).take e).length, b) := by
          rw [← hr', ← List.append_assoc, ← hsp, htl]
          exact hx
        obtain ⟨l1, l2, l3, l4⟩ := body_loc hne htb (by rw [ht0]; exact hc) hhead hq hnx
        obtain ⟨T, hT⟩ := ih ((c :: S).drop e) false (by rw [List.length_drop]; simp only [List.length_cons]; omega) hrb
        have := Bt.tok (sp := sp) l1 l2 l3 hne (fun x hx => ⟨htb x hx, l4 x hx⟩) hT
        rw [← hsp] at this
        exact ⟨_, this⟩

theorem Bt.body {sp : Bool} {S : List UInt8} {T : List Tq} (h : Bt sp S T) : ∀ c ∈ S, BodyB c := by
  induction h with
  | nil => intro c hc; cases hc
  | blank h ih =>
    intro c hc
    rcases List.mem_cons.1 hc with rfl | hc
    · exact .inr (.inr (.inl rfl))
    · exact ih c hc
  | tok hl h32 h10 ht hb h ih =>
    intro c hc
    rcases List.mem_append.1 hc with hc | hc
    · exact (hb c hc).1
    · exact ih c hc

theorem Bt.tz {sp : Bool} {S : List UInt8} {T : List Tq} (h : Bt sp S T) : Tz sp S T := by
  induction h with
  | nil => exact .nil
  | blank h ih => exact .blank ih
  | @tok sp t r k T hl h32 h10 ht hb h ih =>
    obtain ⟨r', hr'⟩ := split10 r
    have hq := noq_body h.body
    rw [hr'] at hq
    refine .tok (by rw [hr']; exact hl r' hq) ht ?_ ih
    cases t with
    | nil => exact absurd rfl ht
    | cons x t => exact (hb x (by simp)).2

/-- told with a blank where space was -/
def tellL : List Tq → List UInt8
  | [] => []
  | q :: T => (if q.2.2 then [32] else []) ++ (q.2.1 ++ tellL T)

theorem Bt.flag {S : List UInt8} {T : List Tq} {sp : Bool} (h : Bt sp S T) (hs : sp = true) : T = [] ∨ ∃ k t T', T = (k, t, true) :: T' := by
  induction h with
  | nil => exact .inl rfl
  | blank h ih => exact ih rfl
  | tok hl h32 h10 ht hb h ih => subst hs; exact .inr ⟨_, _, _, rfl⟩

theorem tell_head {r : List UInt8} {T : List Tq} (h : Bt false r T) : headN (tellL T) = 10 ∨ headN (tellL T) = 32 ∨ headN (tellL T) = headN r := by
  cases h with
  | nil => exact .inl rfl
  | blank h =>
    rcases h.flag rfl with rfl | ⟨k, t, T', rfl⟩
    · exact .inl rfl
    · exact .inr (.inl rfl)
  | tok hl h32 h10 ht hb h =>
    rename_i t r k T
    cases t with
    | nil => exact absurd rfl ht
    | cons x t => exact .inr (.inr rfl)

/-- what is told has those tokens -/
theorem Bt.again {sp : Bool} {S : List UInt8} {T : List Tq} (h : Bt sp S T) : Bt false (tellL T) T := by
  induction h with
  | nil => exact .nil
  | blank h ih => exact ih
  | @tok sp t r k T hl h32 h10 ht hb h ih =>
    have hl2 : Loc k t (headN (tellL T)) := by
      rcases tell_head h with e | e | e
      · rw [e]; exact h10
      · rw [e]; exact h32
      · rw [e]; exact hl
    cases sp with
    | true => exact .blank (.tok hl2 h32 h10 ht hb ih)
    | false => exact .tok hl2 h32 h10 ht hb ih

/-- the first one without space -/
def unspQ : List Tq → List Tq
  | [] => []
  | q :: T => (q.1, q.2.1, false) :: T

theorem Bt.first {sp : Bool} {S : List UInt8} {T : List Tq} (h : Bt sp S T) : ∃ S', Bt false S' (unspQ T) := by
  induction h with
  | nil => exact ⟨[], .nil⟩
  | blank h ih => exact ih
  | tok hl h32 h10 ht hb h ih => exact ⟨_, .tok (sp := false) hl h32 h10 ht hb h⟩

theorem Bt.other {sp : Bool} {S : List UInt8} {T : List Tq} (h : Bt sp S T) (sp' : Bool) : ∃ T', Bt sp' S T' ∧ unspQ T' = unspQ T ∧ T'.length = T.length := by
  cases h with
  | nil => exact ⟨[], .nil, rfl, rfl⟩
  | blank h => exact ⟨T, .blank h, rfl, rfl⟩
  | tok hl h32 h10 ht hb h => exact ⟨_, .tok (sp := sp') hl h32 h10 ht hb h, rfl, rfl⟩

/-- a body's tokens, the first one without space, told and lexed behind a blank -/
theorem Bt.told {sp : Bool} {S : List UInt8} {T : List Tq} (h : Bt sp S T) : ∃ T', Bt true (tellL (unspQ T)) T' ∧ unspQ T' = unspQ T := by
  obtain ⟨S', h1⟩ := h.first
  obtain ⟨T', h2, h3, _⟩ := h1.again.other true
  refine ⟨T', h2, ?_⟩
  rw [h3]
  cases T <;> rfl
end Go.Proofs.Ythbicbfdldpemaa

/- MacroForms: the plain law, fourth part: heads, and what is read of them. -/
namespace Go.Proofs.Ythbicbfdldpemaa
set_option linter.unusedVariables false

/-! ## the head's tokens -/

def parTail : List (List UInt8) → List UInt8
  | [] => [41]
  | p :: ps => 44 :: 32 :: (p ++ parTail ps)
def parText : List (List UInt8) → List UInt8
  | [] => [41]
  | p :: ps => p ++ parTail ps
def parTailT : List (List UInt8) → List Tq
  | [] => [(5, [41], false)]
  | p :: ps => (5, [44], false) :: (1, p, true) :: parTailT ps
def parT (sp : Bool) : List (List UInt8) → List Tq
  | [] => [(5, [41], sp)]
  | p :: ps => (1, p, sp) :: parTailT ps

theorem br_next (c : UInt8) (hc : c = 40 ∨ c = 41 ∨ c = 44) (r : List UInt8) : nextL (c :: r) 0 = (5, 1, false) := by
  have hl : lettersL (c :: r) 0 = -1 := letters_neg (by
    have h0 : chAt (c :: r) 0 = c := rfl
    rw [h0]
    rcases hc with rfl | rfl | rfl <;> decide)
  have hn : numL (c :: r) 0 = 0 := by
    unfold numL
    rw [if_neg]
    have h0 : chAt (c :: r) 0 = c := rfl
    rw [h0]
    rcases hc with rfl | rfl | rfl
    · intro h; rcases h with h | h
      · exact absurd h (by decide)
      · exact absurd h.1 (by decide)
    · intro h; rcases h with h | h
      · exact absurd h (by decide)
      · exact absurd h.1 (by decide)
    · intro h; rcases h with h | h
      · exact absurd h (by decide)
      · exact absurd h.1 (by decide)
  have hp : punctL (c :: r) 0 = 1 := by rcases hc with rfl | rfl | rfl <;> rfl
  have hlet : letterB (chAt (c :: r) 0) = false := by
    have h0 : chAt (c :: r) 0 = c := rfl
    rw [h0]
    rcases hc with rfl | rfl | rfl <;> decide
  unfold nextL
  rw [hl, if_neg (by omega), if_neg (by omega), if_neg (by omega), if_neg (by rw [hlet]; decide), hn, if_neg (by omega), hp, if_pos (by omega)]

theorem Tz.sign {sp : Bool} {c : UInt8} {r : List UInt8} {T : List Tq} (hc : c = 40 ∨ c = 41 ∨ c = 44) (h : Tz false r T) : Tz sp (c :: r) ((5, [c], sp) :: T) :=
  Tz.tok (t := [c]) (br_next c hc _) (by simp) (by
    have h0 : chAt [c] 0 = c := rfl
    rw [h0]
    rcases hc with rfl | rfl | rfl <;> decide) h

theorem Tz.word {sp : Bool} {w r : List UInt8} {c : UInt8} {r' : List UInt8} {T : List Tq} (hw : Wd w) (hr : r ++ [10] = c :: r') (hc : idB c = false ∧ c ≠ 34 ∧ c ≠ 39) (h : Tz false r T) : Tz sp (w ++ r) ((1, w, sp) :: T) :=
  Tz.tok (by rw [hr]; exact word_next hw hc) hw.1 (by
    obtain ⟨x, w', rfl⟩ : ∃ x w', w = x :: w' := by cases w with | nil => exact absurd rfl hw.1 | cons x w' => exact ⟨x, w', rfl⟩
    have := low_facts (hw.2 x (by simp))
    intro e
    have e : x = 32 := e
    have h2 := this.2.2.2.2.2.2.1
    rw [e] at h2
    exact absurd h2 (by decide)) h

theorem tz_tail {X : List UInt8} {T : List Tq} (h : Tz false X T) : ∀ {ps : List (List UInt8)}, (∀ p ∈ ps, Wd p) → Tz false (parTail ps ++ X) (parTailT ps ++ T)
  | [], _ => Tz.sign (.inr (.inl rfl)) h
  | p :: ps, hp => by
    have ih := tz_tail h (ps := ps) (fun q hq => hp q (by simp [hq]))
    have hh : ∃ c r', (parTail ps ++ X) ++ [10] = c :: r' ∧ (idB c = false ∧ c ≠ 34 ∧ c ≠ 39) := by
      cases ps with
      | nil => exact ⟨41, _, rfl, by decide⟩
      | cons q qs => exact ⟨44, _, rfl, by decide⟩
    obtain ⟨c, r', h1, h2⟩ := hh
    have h3 := Tz.sign (sp := false) (c := 44) (.inr (.inr rfl)) (.blank (Tz.word (sp := true) (hp p (by simp)) h1 h2 ih))
    simpa [parTail, parTailT] using h3

theorem tz_par {X : List UInt8} {T : List Tq} (h : Tz false X T) (sp : Bool) : ∀ {ps : List (List UInt8)}, (∀ p ∈ ps, Wd p) → Tz sp (parText ps ++ X) (parT sp ps ++ T)
  | [], _ => Tz.sign (.inr (.inl rfl)) h
  | p :: ps, hp => by
    have ih := tz_tail h (ps := ps) (fun q hq => hp q (by simp [hq]))
    have hh : ∃ c r', (parTail ps ++ X) ++ [10] = c :: r' ∧ (idB c = false ∧ c ≠ 34 ∧ c ≠ 39) := by
      cases ps with
      | nil => exact ⟨41, _, rfl, by decide⟩
      | cons q qs => exact ⟨44, _, rfl, by decide⟩
    obtain ⟨c, r', h1, h2⟩ := hh
    have h3 := Tz.word (sp := sp) (hp p (by simp)) h1 h2 ih
    simpa [parText, parT] using h3

/-- 'name(a, b)' and what is behind -/
theorem tz_head {name X : List UInt8} {ps : List (List UInt8)} {T : List Tq} (hn : Wd name) (hp : ∀ p ∈ ps, Wd p) (h : Tz false X T) : Tz false (name ++ (40 :: (parText ps ++ X))) ((1, name, false) :: (5, [40], false) :: (parT false ps ++ T)) :=
  Tz.word hn (c := 40) rfl (by decide) (Tz.sign (.inl rfl) (tz_par h false hp))

/-! ## what is read of tokens -/

def Are (M : List Tm) (T : List Tq) : Prop := M.map (fun t => (t.kind, t.text, t.sp)) = T.map (fun q => ((q.1 : Int), bs q.2.1, q.2.2))

theorem Are.cons {M : List Tm} {q : Tq} {T : List Tq} (h : Are M (q :: T)) : ∃ t M', M = t :: M' ∧ t.kind = q.1 ∧ t.text = bs q.2.1 ∧ t.sp = q.2.2 ∧ Are M' T := by
  cases M with
  | nil => simp [Are] at h
  | cons t M' =>
    simp only [Are, List.map_cons, List.cons.injEq, Prod.mk.injEq] at h
    exact ⟨t, M', rfl, h.1.1, h.1.2.1, h.1.2.2, h.2⟩

theorem Are.app {M : List Tm} : ∀ {T U : List Tq}, Are M (T ++ U) → ∃ M1 M2, M = M1 ++ M2 ∧ Are M1 T ∧ Are M2 U := by
  intro T
  induction T generalizing M with
  | nil => intro U h; exact ⟨[], M, rfl, rfl, h⟩
  | cons q T ih =>
    intro U h
    obtain ⟨t, M', rfl, h1, h2, h3, h4⟩ := Are.cons h
    obtain ⟨M1, M2, rfl, g1, g2⟩ := ih h4
    exact ⟨t :: M1, M2, rfl, by simp only [Are, List.map_cons, h1, h2, h3]; rw [show M1.map (fun t => (t.kind, t.text, t.sp)) = _ from g1], g2⟩

theorem Are.of {toks : List Tk} {T : List Tq} {file : ByteArray} (h : toks.map (fun t => (t.kind, t.text, t.space)) = T) : Are (toks.map (Tk.tm file)) T := by
  subst h
  simp [Are, Tk.tm]

theorem bs_inj {a b : List UInt8} (h : bs a = bs b) : a = b := by
  have := congrArg (fun x : ByteArray => x.data.toList) h
  simpa [bs] using this

theorem wd_rest {w : List UInt8} (h : Wd w) : bs w ≠ restN := by
  intro e
  have e2 := bs_inj e
  have := h.2 95 (by rw [e2]; simp)
  exact absurd this (by decide)

theorem params_run : ∀ (ps : List (List UInt8)) (p : List UInt8) (M rest : List Tm) (sp : Bool) (done : List ByteArray), (∀ q ∈ p :: ps, Wd q) → (done ++ (p :: ps).map bs).Nodup → Are M ((1, p, sp) :: parTailT ps) →
    paramsL (M ++ rest) false done = some (rest, false, done ++ (p :: ps).map bs)
  | [], p, M, rest, sp, done, hw, hd, hM => by
    obtain ⟨a, M1, rfl, k1, t1, s1, h1⟩ := hM.cons
    obtain ⟨b, M2, rfl, k2, t2, s2, h2⟩ := Are.cons (q := (5, [41], false)) (T := []) h1
    have : M2 = [] := by simpa [Are] using h2
    subst this
    have hdots : dotsP a = false := by unfold dotsP isP; rw [k1]; rfl
    have hnin : ¬ 0 ≤ Lib.idxOfS done a.text := by
      rw [Lib.idxOfS_nonneg_iff, t1]
      intro hm
      rw [List.nodup_append] at hd
      exact hd.2.2 _ hm _ (by simp) rfl
    have hpn : parNo done a = false := by
      unfold parNo
      rw [k1, t1]
      rw [t1] at hnin
      simp [wd_rest (hw p (by simp)), hnin]
    have hb : isP b (bs [41]) = true := by unfold isP; rw [k2, t2]; rfl
    simp [paramsL, hdots, hpn, hb, t1]
  | q :: ps, p, M, rest, sp, done, hw, hd, hM => by
    obtain ⟨a, M1, rfl, k1, t1, s1, h1⟩ := hM.cons
    obtain ⟨b, M2, rfl, k2, t2, s2, h2⟩ := Are.cons (q := (5, [44], false)) (T := (1, q, true) :: parTailT ps) h1
    have hdots : dotsP a = false := by unfold dotsP isP; rw [k1]; rfl
    have hnin : ¬ 0 ≤ Lib.idxOfS done a.text := by
      rw [Lib.idxOfS_nonneg_iff, t1]
      intro hm
      rw [List.nodup_append] at hd
      exact hd.2.2 _ hm _ (by simp) rfl
    have hpn : parNo done a = false := by
      unfold parNo
      rw [k1, t1]
      rw [t1] at hnin
      simp [wd_rest (hw p (by simp)), hnin]
    have hb1 : isP b (bs [41]) = false := by unfold isP; rw [k2, t2]; rfl
    have hb2 : isP b (bs [44]) = true := by unfold isP; rw [k2, t2]; rfl
    have ih := params_run ps q M2 rest true (done ++ [bs p]) (fun x hx => hw x (List.mem_cons_of_mem _ hx)) (by simpa using hd) h2
    simp only [List.cons_append, paramsL, hdots, hpn, hb1, hb2, t1, Bool.false_eq_true, if_false, if_true]
    rw [ih]
    simp

theorem params_top {ps : List (List UInt8)} {M rest : List Tm} {sp : Bool} (hw : ∀ q ∈ ps, Wd q) (hd : (ps.map bs).Nodup) (hM : Are M (parT sp ps)) : paramsTop (M ++ rest) = some (rest, false, ps.map bs) := by
  cases ps with
  | nil =>
    obtain ⟨b, M2, rfl, k2, t2, s2, h2⟩ := Are.cons (q := (5, [41], sp)) (T := []) hM
    have : M2 = [] := by simpa [Are] using h2
    subst this
    have hb : isP b (bs [41]) = true := by unfold isP; rw [k2, t2]; rfl
    simp [paramsTop, hb]
  | cons p ps =>
    have hM' := hM
    obtain ⟨a, M1, rfl, k1, t1, s1, h1⟩ := Are.cons (q := (1, p, sp)) (T := parTailT ps) hM'
    have hb : isP a (bs [41]) = false := by unfold isP; rw [k1]; rfl
    have := params_run ps p (a :: M1) rest sp [] hw (by simpa using hd) hM
    simp only [List.cons_append, List.nil_append] at this
    simp only [List.cons_append, paramsTop, hb, Bool.false_eq_true, if_false]
    exact this
end Go.Proofs.Ythbicbfdldpemaa

/- MacroForms: the plain law, fifth part: what is read of each form. -/
namespace Go.Proofs.Ythbicbfdldpemaa
set_option linter.unusedVariables false

def defN : List UInt8 := [100, 101, 102, 105, 110, 101, 100]

/-- the tokens of a text's first line -/
def toksM (s : List UInt8) : List Tm := match (linesL s).1 with | [] => [] | l :: _ => l.toks.map (Tk.tm (bs [102]))

theorem toksM_are {S : List UInt8} {T : List Tq} (hS : ∀ c ∈ S, LineB c) (h : Tz false S T) (hne : S ≠ []) : Are (toksM S) T := by
  obtain ⟨tk', h1, h2⟩ := tz_lines hS h hne
  unfold toksM
  rw [h1]
  exact Are.of h2

theorem line_low {c : UInt8} (h : 97 ≤ c ∧ c ≤ 122) : LineB c := by
  have := low_facts h
  exact ⟨this.2.2.2.2.2.2.2.2.1, this.2.2.2.2.2.2.2.2.2, this.2.2.2.2.2.1, this.2.2.2.2.2.2.2.1, fun e => by rw [this.2.2.2.2.2.2.1] at e; cases e⟩
theorem line_body {c : UInt8} (h : BodyB c) : LineB c := by
  have := body_facts h
  exact ⟨this.2.2.2.2.2.1, this.2.2.2.2.2.2.1, this.2.2.2.1, this.2.2.2.2.1, this.2.2.2.2.2.2.2.2.2.1⟩
theorem line_lit {c : UInt8} (h : c = 40 ∨ c = 41 ∨ c = 44 ∨ c = 32 ∨ c = 35 ∨ c = 57) : LineB c := by
  unfold LineB
  rcases h with rfl | rfl | rfl | rfl | rfl | rfl <;> decide

theorem line_tail : ∀ {ps : List (List UInt8)}, (∀ p ∈ ps, Wd p) → ∀ c ∈ parTail ps, LineB c
  | [], _, c, h => by simp only [parTail, List.mem_singleton] at h; exact line_lit (.inr (.inl h))
  | p :: ps, hp, c, h => by
    simp only [parTail, List.mem_cons, List.mem_append] at h
    rcases h with h | h | h | h
    · exact line_lit (.inr (.inr (.inl h)))
    · exact line_lit (.inr (.inr (.inr (.inl h))))
    · exact line_low ((hp p (by simp)).2 c h)
    · exact line_tail (fun q hq => hp q (by simp [hq])) c h

theorem line_par {ps : List (List UInt8)} (hp : ∀ p ∈ ps, Wd p) : ∀ c ∈ parText ps, LineB c := by
  intro c h
  cases ps with
  | nil => simp only [parText, List.mem_singleton] at h; exact line_lit (.inr (.inl h))
  | cons p ps =>
    simp only [parText, List.mem_append] at h
    rcases h with h | h
    · exact line_low ((hp p (by simp)).2 c h)
    · exact line_tail (fun q hq => hp q (by simp [hq])) c h

/-- the text of a definition with parameters -/
def formS (name : List UInt8) (ps : List (List UInt8)) (X : List UInt8) : List UInt8 := name ++ (40 :: (parText ps ++ X))

theorem form_are {name X : List UInt8} {ps : List (List UInt8)} {T : List Tq} (hn : Wd name) (hp : ∀ p ∈ ps, Wd p) (hX : ∀ c ∈ X, LineB c) (h : Tz false X T) : Are (toksM (formS name ps X)) ((1, name, false) :: (5, [40], false) :: (parT false ps ++ T)) := by
  refine toksM_are ?_ (tz_head hn hp h) (by unfold formS; simp)
  intro c hc
  unfold formS at hc
  simp only [List.mem_append, List.mem_cons] at hc
  rcases hc with hc | hc | hc | hc
  · exact line_low (hn.2 c hc)
  · exact line_lit (.inl hc)
  · exact line_par hp c hc
  · exact hX c hc

theorem wd_fixed {name : List UInt8} (hn : Wd name) (hd : name ≠ defN) : fixedP (bs name) = false := by
  have h95 : ∀ l : List UInt8, (95 : UInt8) ∈ l → bs name ≠ bs l := by
    intro l hl e
    rw [← bs_inj e] at hl
    exact absurd (hn.2 95 hl) (by decide)
  unfold fixedP restN
  rw [decide_eq_false (show ¬ bs name = bs [100, 101, 102, 105, 110, 101, 100] from fun e => hd (bs_inj e)), decide_eq_false (h95 [95, 95, 70, 73, 76, 69, 95, 95] (by decide)), decide_eq_false (h95 [95, 95, 76, 73, 78, 69, 95, 95] (by decide)), decide_eq_false (h95 [95, 95, 86, 65, 95, 65, 82, 71, 83, 95, 95] (by decide))]
  rfl

theorem form_parse {name : List UInt8} {ps : List (List UInt8)} {T : List Tq} {M : List Tm} (hn : Wd name) (hd : name ≠ defN) (hp : ∀ p ∈ ps, Wd p) (hnd : (ps.map bs).Nodup) (hM : Are M ((1, name, false) :: (5, [40], false) :: (parT false ps ++ T))) :
    ∃ (Mb : List Tm) (file : ByteArray) (f t : Int), Are Mb T ∧ parseL M = bodyL ⟨bs name, true, false, ps.map bs, unsp Mb, file, f, t⟩ := by
  obtain ⟨a, M1, rfl, k1, t1, s1, h1⟩ := hM.cons
  obtain ⟨b, M2, rfl, k2, t2, s2, h2⟩ := h1.cons
  obtain ⟨Mp, Mb, rfl, h3, h4⟩ := h2.app
  refine ⟨Mb, a.file, a.f, a.t, h4, ?_⟩
  have hb : isP b (bs [40]) = true := by unfold isP; rw [k2, t2]; rfl
  have hk : a.kind = 1 := k1
  unfold parseL
  simp only
  rw [if_pos hk, t1, if_neg (by rw [wd_fixed hn hd]; decide)]
  rw [hb, s2, if_pos (by decide), params_top hp hnd h3]

/-! ## bodies -/

def FineQ (q : Tq) : Prop := q.2.1 ≠ [35, 35] ∧ q.2.1 ≠ [37, 58, 37, 58] ∧ q.2.1 ≠ [35] ∧ q.2.1 ≠ [37, 58] ∧ bs q.2.1 ≠ restN

theorem fine_bad {t : Tm} {q : Tq} (ht : t.text = bs q.2.1) (hq : FineQ q) (fn va : Bool) (ps : List ByteArray) (body : List Tm) (i : Nat) : badAt fn va ps body i t = false := by
  have h1 : pasteP t = false := by
    unfold pasteP isP
    rw [ht, decide_eq_false (fun e => hq.1 (bs_inj e)), decide_eq_false (fun e => hq.2.1 (bs_inj e))]
    simp
  have h2 : hashP t = false := by
    unfold hashP
    rw [ht, decide_eq_false (fun e => hq.2.2.1 (bs_inj e)), decide_eq_false (fun e => hq.2.2.2.1 (bs_inj e))]
    simp
  unfold badAt
  rw [h1, h2, ht, decide_eq_false hq.2.2.2.2]
  simp

theorem fine_first {fn va : Bool} {ps : List ByteArray} {body : List Tm} : ∀ {M : List Tm} {T : List Tq} {i : Nat}, Are M T → (∀ q ∈ T, FineQ q) → firstBad fn va ps body i M = none
  | [], T, i, h, hq => rfl
  | t :: M, T, i, h, hq => by
    cases T with
    | nil => simp [Are] at h
    | cons q T =>
      obtain ⟨t', M', e, k1, t1, s1, h1⟩ := h.cons
      simp only [List.cons.injEq] at e
      obtain ⟨rfl, rfl⟩ := e
      unfold firstBad
      rw [fine_bad t1 (hq q (by simp)), if_neg (by decide)]
      exact fine_first h1 (fun x hx => hq x (by simp [hx]))

theorem are_unsp {M : List Tm} {T : List Tq} (h : Are M T) : Are (unsp M) (unspQ T) := by
  cases T with
  | nil => have : M = [] := by simpa [Are] using h
           subst this; rfl
  | cons q T =>
    obtain ⟨t, M', rfl, k1, t1, s1, h1⟩ := h.cons
    simp only [Are, unsp, unspQ, List.map_cons, k1, t1]
    rw [show M'.map (fun t => (t.kind, t.text, t.sp)) = _ from h1]

theorem body_fine {q : Tq} (h : ∀ x ∈ q.2.1, BodyB x) : FineQ q := by
  have hno : ∀ c, ¬ BodyB c → ∀ l : List UInt8, c ∈ l → q.2.1 ≠ l := by
    intro c hc l hl e
    rw [← e] at hl
    exact hc (h c hl)
  have h35 : ¬ BodyB 35 := by unfold BodyB; decide
  have h37 : ¬ BodyB 37 := by unfold BodyB; decide
  have h95 : ¬ BodyB 95 := by unfold BodyB; decide
  exact ⟨hno 35 h35 _ (by decide), hno 37 h37 _ (by decide), hno 35 h35 _ (by decide), hno 37 h37 _ (by decide), fun e => hno 95 h95 _ (by decide) (bs_inj e)⟩

theorem Bt.fine {sp : Bool} {S : List UInt8} {T : List Tq} (h : Bt sp S T) : ∀ q ∈ T, (∀ x ∈ q.2.1, BodyB x) := by
  induction h with
  | nil => intro q hq; cases hq
  | blank h ih => exact ih
  | tok hl h32 h10 ht hb h ih =>
    intro q hq
    rcases List.mem_cons.1 hq with rfl | hq
    · exact fun x hx => (hb x hx).1
    · exact ih q hq

theorem unspQ_mem {T : List Tq} {q : Tq} (h : q ∈ unspQ T) : ∃ p ∈ T, p.2.1 = q.2.1 := by
  cases T with
  | nil => cases h
  | cons p T =>
    rcases List.mem_cons.1 h with rfl | h
    · exact ⟨p, by simp, rfl⟩
    · exact ⟨q, by simp [h], rfl⟩

/-- a definition with a body of small letters, digits, blanks and plus signs -/
theorem form_good {name body : List UInt8} {ps : List (List UInt8)} {T : List Tq} (hn : Wd name) (hd : name ≠ defN) (hp : ∀ p ∈ ps, Wd p) (hnd : (ps.map bs).Nodup) (hT : Bt true body T) :
    ∃ m, parseL (toksM (formS name ps (32 :: body))) = .inl m ∧ m.name = bs name ∧ m.fn = true ∧ m.va = false ∧ m.params = ps.map bs ∧ Are m.body (unspQ T) := by
  have hX : ∀ c ∈ 32 :: body, LineB c := by
    intro c hc
    rcases List.mem_cons.1 hc with rfl | hc
    · exact line_lit (.inr (.inr (.inr (.inl rfl))))
    · exact line_body (hT.body c hc)
  have hA := form_are hn hp hX (.blank hT.tz)
  obtain ⟨Mb, file, f, t, h1, h2⟩ := form_parse hn hd hp hnd hA
  have h3 := are_unsp h1
  have h4 : firstBad true false (ps.map bs) (unsp Mb) 0 (unsp Mb) = none := fine_first h3 (fun q hq => by
    obtain ⟨p, hp1, hp2⟩ := unspQ_mem hq
    exact body_fine (fun x hx => hT.fine p hp1 x (by rw [hp2]; exact hx)))
  refine ⟨⟨bs name, true, false, ps.map bs, unsp Mb, file, f, t⟩, ?_, rfl, rfl, rfl, rfl, h3⟩
  rw [h2]
  unfold bodyL
  simp only
  rw [h4]

/-- a paste ahead -/
theorem form_paste {name body : List UInt8} {ps : List (List UInt8)} (hn : Wd name) (hd : name ≠ defN) (hp : ∀ p ∈ ps, Wd p) (hnd : (ps.map bs).Nodup) (hb : ∀ c ∈ body, BodyB c) :
    ∃ x, parseL (toksM (formS name ps (32 :: 35 :: 35 :: 32 :: body))) = .inr x ∧ x.code = 5 := by
  obtain ⟨T, hT⟩ := bt_any body.length body true (Nat.le_refl _) hb
  have hX : ∀ c ∈ 32 :: 35 :: 35 :: 32 :: body, LineB c := by
    intro c hc
    simp only [List.mem_cons] at hc
    rcases hc with h | h | h | h | h
    · exact line_lit (.inr (.inr (.inr (.inl h))))
    · exact line_lit (.inr (.inr (.inr (.inr (.inl h)))))
    · exact line_lit (.inr (.inr (.inr (.inr (.inl h)))))
    · exact line_lit (.inr (.inr (.inr (.inl h))))
    · exact line_body (hb c h)
  have hnx : ∀ r : List UInt8, nextL (35 :: 35 :: r) 0 = (5, 2, false) := by
    intro r
    have hl : lettersL (35 :: 35 :: r) 0 = -1 := letters_neg (by
      have h0 : chAt (35 :: 35 :: r) 0 = 35 := rfl
      rw [h0]; decide)
    have hn0 : numL (35 :: 35 :: r) 0 = 0 := by
      unfold numL
      rw [if_neg]
      have h0 : chAt (35 :: 35 :: r) 0 = 35 := rfl
      rw [h0]
      intro h
      rcases h with h | h
      · exact absurd h (by decide)
      · exact absurd h.1 (by decide)
    have hp2 : punctL (35 :: 35 :: r) 0 = 2 := rfl
    unfold nextL
    rw [hl, if_neg (by omega), if_neg (by omega), if_neg (by omega), if_neg (by rw [show chAt (35 :: 35 :: r) 0 = 35 from rfl]; decide), hn0, if_neg (by omega), hp2, if_pos (by omega)]
  have hz : Tz false (32 :: 35 :: 35 :: 32 :: body) ((5, [35, 35], true) :: T) := .blank (Tz.tok (t := [35, 35]) (r := 32 :: body) (hnx _) (by simp) (by decide) (.blank hT.tz))
  have hA := form_are hn hp hX hz
  obtain ⟨Mb, file, f, t, h1, h2⟩ := form_parse hn hd hp hnd hA
  obtain ⟨a, M1, rfl, k1, t1, s1, g1⟩ := h1.cons
  have hbad : badAt true false (ps.map bs) (unsp (a :: M1)) 0 { a with sp := false } = true := by
    have : pasteP { a with sp := false } = true := by unfold pasteP isP; simp only [k1, t1]; rfl
    unfold badAt
    rw [if_pos this]
    simp
  refine ⟨⟨5, a.file, a.f, a.t⟩, ?_, rfl⟩
  rw [h2]
  unfold bodyL
  simp only [unsp, firstBad]
  simp only [unsp] at hbad
  rw [hbad]
  rfl

/-- a hash ahead of no parameter -/
theorem form_hash {name body : List UInt8} {ps : List (List UInt8)} (hn : Wd name) (hd : name ≠ defN) (hp : ∀ p ∈ ps, Wd p) (hnd : (ps.map bs).Nodup) (hb : ∀ c ∈ body, BodyB c) :
    ∃ x, parseL (toksM (formS name ps (32 :: 35 :: 57 :: 32 :: body))) = .inr x ∧ x.code = 5 := by
  obtain ⟨T, hT⟩ := bt_any body.length body true (Nat.le_refl _) hb
  have hX : ∀ c ∈ 32 :: 35 :: 57 :: 32 :: body, LineB c := by
    intro c hc
    simp only [List.mem_cons] at hc
    rcases hc with h | h | h | h | h
    · exact line_lit (.inr (.inr (.inr (.inl h))))
    · exact line_lit (.inr (.inr (.inr (.inr (.inl h)))))
    · exact line_lit (.inr (.inr (.inr (.inr (.inr h)))))
    · exact line_lit (.inr (.inr (.inr (.inl h))))
    · exact line_body (hb c h)
  have hnx : ∀ r : List UInt8, nextL (35 :: 57 :: r) 0 = (5, 1, false) := by
    intro r
    have hl : lettersL (35 :: 57 :: r) 0 = -1 := letters_neg (by
      have h0 : chAt (35 :: 57 :: r) 0 = 35 := rfl
      rw [h0]; decide)
    have hn0 : numL (35 :: 57 :: r) 0 = 0 := by
      unfold numL
      rw [if_neg]
      have h0 : chAt (35 :: 57 :: r) 0 = 35 := rfl
      rw [h0]
      intro h
      rcases h with h | h
      · exact absurd h (by decide)
      · exact absurd h.1 (by decide)
    have hp2 : punctL (35 :: 57 :: r) 0 = 1 := rfl
    unfold nextL
    rw [hl, if_neg (by omega), if_neg (by omega), if_neg (by omega), if_neg (by rw [show chAt (35 :: 57 :: r) 0 = 35 from rfl]; decide), hn0, if_neg (by omega), hp2, if_pos (by omega)]
  have hny : ∀ r : List UInt8, nextL (57 :: 32 :: r) 0 = (2, 1, false) := by
    intro r
    have h0 : chAt (57 :: 32 :: r) 0 = 57 := rfl
    have hl : lettersL (57 :: 32 :: r) 0 = -1 := letters_neg (by rw [h0]; decide)
    have hn0 : numL (57 :: 32 :: r) 0 = 1 := by
      unfold numL
      rw [if_pos (by rw [h0]; exact .inl (by decide)), Nat.zero_add, show (57 :: 32 :: r : List UInt8).drop 1 = 32 :: r from rfl, num0' (by decide)]
    unfold nextL
    rw [hl, if_neg (by omega), if_neg (by omega), if_neg (by omega), if_neg (by rw [h0]; decide), hn0, if_pos (by omega)]
  have hz : Tz false (32 :: 35 :: 57 :: 32 :: body) ((5, [35], true) :: (2, [57], false) :: T) := .blank (Tz.tok (t := [35]) (r := 57 :: 32 :: body) (hnx _) (by simp) (by decide) (Tz.tok (t := [57]) (r := 32 :: body) (hny _) (by simp) (by decide) (.blank hT.tz)))
  have hA := form_are hn hp hX hz
  obtain ⟨Mb, file, f, t, h1, h2⟩ := form_parse hn hd hp hnd hA
  obtain ⟨a, M1, rfl, k1, t1, s1, g1⟩ := h1.cons
  obtain ⟨b, M2, rfl, k2, t2, s2, g2⟩ := g1.cons
  have hpb : pasteP { a with sp := false } = false := by
    unfold pasteP isP; simp only [k1, t1]
    rw [decide_eq_false (fun e => absurd (bs_inj e) (by decide)), decide_eq_false (fun e => absurd (bs_inj e) (by decide))]
    rfl
  have hha : hashP { a with sp := false } = true := by unfold hashP; simp only [k1, t1]; rfl
  have hof : ofP true (ps.map bs) b = -1 := by unfold ofP; rw [k2]; rfl
  have hbad : badAt true false (ps.map bs) ({ a with sp := false } :: b :: M2) 0 { a with sp := false } = true := by
    unfold badAt
    rw [if_neg (by rw [hpb]; decide), hha]
    simp [hof]
  refine ⟨⟨5, a.file, a.f, a.t⟩, ?_, rfl⟩
  rw [h2]
  unfold bodyL
  simp only [unsp, firstBad]
  rw [hbad]
  rfl
end Go.Proofs.Ythbicbfdldpemaa

/- MacroForms: the plain law, sixth part: a blank ahead of the bracket; told again; how long. -/
namespace Go.Proofs.Ythbicbfdldpemaa
set_option linter.unusedVariables false

def joinT : List (List UInt8) → List UInt8
  | [] => []
  | p :: ps => 44 :: 32 :: (p ++ joinT ps)
def joinP : List (List UInt8) → List UInt8
  | [] => []
  | p :: ps => p ++ joinT ps
def joinTT : List (List UInt8) → List Tq
  | [] => []
  | p :: ps => (5, [44], false) :: (1, p, true) :: joinTT ps
def joinPT (sp : Bool) : List (List UInt8) → List Tq
  | [] => []
  | p :: ps => (1, p, sp) :: joinTT ps

theorem parTail_join : ∀ (ps : List (List UInt8)), parTail ps = joinT ps ++ [41]
  | [] => rfl
  | p :: ps => by simp [parTail, joinT, parTail_join ps]
theorem parText_join (ps : List (List UInt8)) : parText ps = joinP ps ++ [41] := by
  cases ps with
  | nil => rfl
  | cons p ps => simp [parText, joinP, parTail_join]

theorem joinT_snoc : ∀ (ps : List (List UInt8)) (q : List UInt8), joinT (ps ++ [q]) = joinT ps ++ (44 :: 32 :: q)
  | [], q => by simp [joinT]
  | p :: ps, q => by simp [joinT, joinT_snoc ps q]
theorem joinP_snoc (ps : List (List UInt8)) (q : List UInt8) : joinP (ps ++ [q]) = if ps = [] then q else joinP ps ++ (44 :: 32 :: q) := by
  cases ps with
  | nil => simp [joinP, joinT]
  | cons p ps => simp [joinP, joinT_snoc]

theorem tz_joinT {X : List UInt8} {T : List Tq} (h : Tz true X T) : ∀ {ps : List (List UInt8)}, (∀ p ∈ ps, Wd p) → Tz false (joinT ps ++ (32 :: X)) (joinTT ps ++ T)
  | [], _ => .blank h
  | p :: ps, hp => by
    have ih := tz_joinT h (ps := ps) (fun q hq => hp q (by simp [hq]))
    have hh : ∃ c r', (joinT ps ++ (32 :: X)) ++ [10] = c :: r' ∧ (idB c = false ∧ c ≠ 34 ∧ c ≠ 39) := by
      cases ps with
      | nil => exact ⟨32, _, rfl, by decide⟩
      | cons q qs => exact ⟨44, _, rfl, by decide⟩
    obtain ⟨c, r', h1, h2⟩ := hh
    have h3 := Tz.sign (sp := false) (c := 44) (.inr (.inr rfl)) (.blank (Tz.word (sp := true) (hp p (by simp)) h1 h2 ih))
    simpa [joinT, joinTT] using h3

theorem tz_joinP {X : List UInt8} {T : List Tq} (h : Tz true X T) (sp : Bool) {ps : List (List UInt8)} (hp : ∀ p ∈ ps, Wd p) : Tz sp (joinP ps ++ (32 :: X)) (joinPT sp ps ++ T) := by
  cases ps with
  | nil => exact .blank h
  | cons p ps =>
    have ih := tz_joinT h (ps := ps) (fun q hq => hp q (by simp [hq]))
    have hh : ∃ c r', (joinT ps ++ (32 :: X)) ++ [10] = c :: r' ∧ (idB c = false ∧ c ≠ 34 ∧ c ≠ 39) := by
      cases ps with
      | nil => exact ⟨32, _, rfl, by decide⟩
      | cons q qs => exact ⟨44, _, rfl, by decide⟩
    obtain ⟨c, r', h1, h2⟩ := hh
    have h3 := Tz.word (sp := sp) (hp p (by simp)) h1 h2 ih
    simpa [joinP, joinPT] using h3

theorem line_joinT : ∀ {ps : List (List UInt8)}, (∀ p ∈ ps, Wd p) → ∀ c ∈ joinT ps, LineB c
  | ps, hp, c, h => line_tail hp c (by rw [parTail_join]; simp [h])
theorem line_joinP {ps : List (List UInt8)} (hp : ∀ p ∈ ps, Wd p) : ∀ c ∈ joinP ps, LineB c := fun c h => line_par hp c (by rw [parText_join]; simp [h])

/-- the text of a definition whose bracket has space ahead of it -/
def openS (name : List UInt8) (ps : List (List UInt8)) (body : List UInt8) : List UInt8 := name ++ (32 :: 40 :: 32 :: (joinP ps ++ (32 :: 41 :: 32 :: body)))

theorem wd_fine {q : Tq} (h : Wd q.2.1) : FineQ q := by
  have hno : ∀ c : UInt8, ¬ (97 ≤ c ∧ c ≤ 122) → ∀ l : List UInt8, c ∈ l → q.2.1 ≠ l := by
    intro c hc l hl e
    rw [← e] at hl
    exact hc (h.2 c hl)
  exact ⟨hno 35 (by decide) _ (by decide), hno 37 (by decide) _ (by decide), hno 35 (by decide) _ (by decide), hno 37 (by decide) _ (by decide), fun e => hno 95 (by decide) _ (by decide) (bs_inj e)⟩

theorem lit_fine {q : Tq} (h : q.2.1 = [40] ∨ q.2.1 = [41] ∨ q.2.1 = [44]) : FineQ q := by
  unfold FineQ
  rcases h with h | h | h <;> rw [h] <;> exact ⟨by decide, by decide, by decide, by decide, fun e => absurd (bs_inj e) (by decide)⟩

theorem joinTT_fine : ∀ {ps : List (List UInt8)}, (∀ p ∈ ps, Wd p) → ∀ q ∈ joinTT ps, FineQ q
  | [], _, q, h => by cases h
  | p :: ps, hp, q, h => by
    simp only [joinTT, List.mem_cons] at h
    rcases h with rfl | rfl | h
    · exact lit_fine (.inr (.inr rfl))
    · exact wd_fine (hp p (by simp))
    · exact joinTT_fine (fun x hx => hp x (by simp [hx])) q h

theorem form_open {name body : List UInt8} {ps : List (List UInt8)} (hn : Wd name) (hd : name ≠ defN) (hp : ∀ p ∈ ps, Wd p) (hb : ∀ c ∈ body, BodyB c) :
    ∃ m, parseL (toksM (openS name ps body)) = .inl m ∧ m.fn = false ∧ 2 ≤ m.body.length := by
  obtain ⟨T, hT⟩ := bt_any body.length body true (Nat.le_refl _) hb
  have hX : ∀ c ∈ openS name ps body, LineB c := by
    intro c hc
    unfold openS at hc
    simp only [List.mem_append, List.mem_cons] at hc
    rcases hc with h | h | h | h | h | h | h | h | h
    · exact line_low (hn.2 c h)
    · exact line_lit (.inr (.inr (.inr (.inl h))))
    · exact line_lit (.inl h)
    · exact line_lit (.inr (.inr (.inr (.inl h))))
    · exact line_joinP hp c h
    · exact line_lit (.inr (.inr (.inr (.inl h))))
    · exact line_lit (.inr (.inl h))
    · exact line_lit (.inr (.inr (.inr (.inl h))))
    · exact line_body (hb c h)
  have hz : Tz false (openS name ps body) ((1, name, false) :: (5, [40], true) :: (joinPT true ps ++ ((5, [41], true) :: T))) :=
    Tz.word hn (c := 32) rfl (by decide) (.blank (Tz.sign (.inl rfl) (.blank (tz_joinP (Tz.sign (.inr (.inl rfl)) (.blank hT.tz)) true hp))))
  have hA := toksM_are hX hz (by unfold openS; simp)
  obtain ⟨a, M1, hM, k1, t1, s1, h1⟩ := hA.cons
  have h1' := h1
  obtain ⟨b, M2, rfl, k2, t2, s2, h2⟩ := h1.cons
  have hu := are_unsp h1'
  have hf : firstBad false false [] (unsp (b :: M2)) 0 (unsp (b :: M2)) = none := fine_first hu (fun q hq => by
    obtain ⟨p, hp1, hp2⟩ := unspQ_mem hq
    have hfp : FineQ p := by
      simp only [List.mem_cons, List.mem_append] at hp1
      rcases hp1 with rfl | h | rfl | h
      · exact lit_fine (.inl rfl)
      · cases ps with
        | nil => cases h
        | cons p0 ps =>
          simp only [joinPT, List.mem_cons] at h
          rcases h with rfl | h
          · exact wd_fine (hp p0 (by simp))
          · exact joinTT_fine (fun x hx => hp x (by simp [hx])) p h
      · exact lit_fine (.inr (.inl rfl))
      · exact body_fine (hT.fine p h)
    unfold FineQ at hfp ⊢
    rw [← hp2]
    exact hfp)
  refine ⟨⟨bs name, false, false, [], unsp (b :: M2), a.file, a.f, a.t⟩, ?_, rfl, ?_⟩
  · rw [hM]
    have hk : a.kind = 1 := k1
    unfold parseL
    simp only
    rw [if_pos hk, t1, if_neg (by rw [wd_fixed hn hd]; decide), s2]
    simp only [Bool.not_true, Bool.and_false, Bool.false_eq_true, if_false]
    unfold bodyL
    simp only
    rw [hf]
  · have hl := congrArg List.length h2
    simp only [List.length_map, List.length_append, List.length_cons] at hl
    simp only [unsp, List.length_cons]
    omega

theorem Bt.size {sp : Bool} {S : List UInt8} {T : List Tq} (h : Bt sp S T) : (tellL T).length ≤ 2 * S.length := by
  induction h with
  | nil => simp [tellL]
  | blank h ih => simp only [List.length_cons]; omega
  | @tok sp t r k T hl h32 h10 ht hb h ih =>
    have : 0 < t.length := List.length_pos_iff.2 ht
    simp only [tellL, List.length_append]
    cases sp <;> simp <;> omega

theorem tell_unsp (T : List Tq) : (tellL (unspQ T)).length ≤ (tellL T).length := by
  cases T with
  | nil => exact Nat.le_refl _
  | cons q T => simp only [unspQ, tellL, List.length_append]; simp

theorem Bt.empty {sp : Bool} {S : List UInt8} {T : List Tq} (h : Bt sp S T) (hS : S = []) : T = [] := by
  induction h with
  | nil => rfl
  | blank h ih => cases hS
  | tok hl h32 h10 ht hb h ih => exact absurd (List.append_eq_nil_iff.1 hS).1 ht

theorem toks_len {sp : Bool} {body : List UInt8} {T : List Tq} (h : Bt sp body T) : (toksM body).length = T.length := by
  by_cases hb : body = []
  · subst hb
    rw [h.empty rfl]
    rfl
  · obtain ⟨T0, h1, h2, h3⟩ := h.other false
    have := toksM_are (fun c hc => line_body (h.body c hc)) h1.tz hb
    have hl := congrArg List.length this
    simp only [List.length_map] at hl
    rw [hl, h3]
end Go.Proofs.Ythbicbfdldpemaa
