/- Chapter 4, plain Lean, on: what stands in two pieces. No program in sight. -/
import Derived.Test.YthbicbfdldpemaaPhSpec2
namespace Go.Proofs.Ythbicbfdldpemaa

theorem plainL_mem : ∀ (n : Nat) (l : List UInt8) (p : Nat), l.length ≤ n → ∀ r ∈ plainL p l, p ≤ r.f ∧ r.f < r.t ∧ r.t ≤ p + l.length := by
  intro n
  induction n with
  | zero => intro l p h r hr; cases l with
    | nil => simp [plainL] at hr
    | cons a r => simp at h
  | succ n ih =>
    intro l p h r hr
    match l with
    | [] => simp [plainL] at hr
    | [a] => simp [plainL] at hr; subst hr; simp
    | [a, b] => simp [plainL] at hr; rcases hr with rfl | rfl <;> simp
    | a :: b :: c :: l =>
      simp only [List.length_cons] at h
      simp only [plainL] at hr
      split at hr
      · rcases List.mem_cons.1 hr with rfl | hr
        · simp
        · have := ih l (p + 3) (by omega) r hr
          simp only [List.length_cons]; omega
      · rcases List.mem_cons.1 hr with rfl | hr
        · simp
        · have := ih (b :: c :: l) (p + 1) (by simp; omega) r hr
          simp only [List.length_cons] at this ⊢; omega

theorem splicedL_sub : ∀ (n : Nat) (l : List Rn), l.length ≤ n → ∀ r ∈ splicedL l, r ∈ l := by
  intro n
  induction n with
  | zero => intro l h r hr; cases l with
    | nil => simp [splicedL] at hr
    | cons a r => simp at h
  | succ n ih =>
    intro l h r hr
    match l with
    | [] => simp [splicedL] at hr
    | [a] => simpa [splicedL] using hr
    | a :: b :: l =>
      simp only [List.length_cons] at h
      simp only [splicedL] at hr
      split at hr
      · have := ih l (by omega) r hr
        simp [this]
      · rcases List.mem_cons.1 hr with rfl | hr
        · simp
        · have := ih (b :: l) (by simp; omega) r hr
          exact List.mem_cons_of_mem _ this

/-- what stands when it begins at a place -/
def standP (p : Nat) (l : List UInt8) : List Rn := splicedL (plainL p l)

theorem standP_mem {p : Nat} {l : List UInt8} {r : Rn} (h : r ∈ standP p l) : p ≤ r.f ∧ r.f < r.t ∧ r.t ≤ p + l.length :=
  plainL_mem _ _ _ (Nat.le_refl _) r (splicedL_sub _ _ (Nat.le_refl _) r h)

theorem plainL_c : ∀ (n : Nat) (l : List UInt8) (p q : Nat), l.length ≤ n → (plainL p l).map (·.c) = (plainL q l).map (·.c) := by
  intro n
  induction n with
  | zero => intro l p q h; cases l with
    | nil => simp [plainL]
    | cons a r => simp at h
  | succ n ih =>
    intro l p q h
    match l with
    | [] => simp [plainL]
    | [a] => simp [plainL]
    | [a, b] => simp [plainL]
    | a :: b :: c :: l =>
      simp only [List.length_cons] at h
      simp only [plainL]
      split
      · simp [ih l (p + 3) (q + 3) (by omega)]
      · simp only [List.map_cons, ih (b :: c :: l) (p + 1) (q + 1) (by simp; omega)]

theorem splicedL_c : ∀ (n : Nat) (l m : List Rn), l.length ≤ n → l.map (·.c) = m.map (·.c) → (splicedL l).map (·.c) = (splicedL m).map (·.c) := by
  intro n
  induction n with
  | zero => intro l m h e; cases l with
    | nil => cases m with
      | nil => rfl
      | cons a r => simp at e
    | cons a r => simp at h
  | succ n ih =>
    intro l m h e
    match l, m, e with
    | [], [], _ => rfl
    | [a], [b], e => simpa [splicedL] using e
    | [], _ :: _, e => simp at e
    | _ :: _, [], e => simp at e
    | [_], _ :: _ :: _, e => simp at e
    | _ :: _ :: _, [_], e => simp at e
    | a :: b :: l, a' :: b' :: m, e =>
      simp only [List.map_cons, List.cons.injEq] at e
      simp only [List.length_cons] at h
      simp only [splicedL, e.1, e.2.1]
      split
      · exact ih l m (by omega) e.2.2
      · simp only [List.map_cons, e.1]
        rw [ih (b :: l) (b' :: m) (by simp; omega) (by simp [e.2.1, e.2.2])]

theorem standP_c (p q : Nat) (l : List UInt8) : (standP p l).map (·.c) = (standP q l).map (·.c) :=
  splicedL_c _ _ _ (Nat.le_refl _) (plainL_c _ l p q (Nat.le_refl _))

theorem plainL_app (B : List UInt8) : ∀ (n : Nat) (A : List UInt8) (p : Nat), A.length ≤ n → A.getLast? ≠ some 63 → plainL p (A ++ B) = plainL p A ++ plainL (p + A.length) B := by
  intro n
  induction n with
  | zero => intro A p h _; cases A with
    | nil => simp [plainL]
    | cons a r => simp at h
  | succ n ih =>
    intro A p h hl
    match A with
    | [] => simp [plainL]
    | [a] =>
      have ha : a ≠ 63 := by simpa using hl
      match B with
      | [] => simp [plainL]
      | [x] => simp [plainL]
      | x :: y :: B => simp [plainL, ha]
    | [a, b] =>
      have hb : b ≠ 63 := by simpa using hl
      match B with
      | [] => simp [plainL]
      | [x] => simp [plainL, hb]
      | x :: y :: B => simp [plainL, hb]
    | a :: b :: c :: A =>
      simp only [List.length_cons] at h
      simp only [List.cons_append, plainL]
      split
      · have := ih A (p + 3) (by omega) (by cases A with
          | nil => simp
          | cons x A => simpa using hl)
        rw [this]
        simp only [List.cons_append, List.length_cons]
        rw [show p + 3 + A.length = p + (A.length + 1 + 1 + 1) by omega]
      · have := ih (b :: c :: A) (p + 1) (by simp; omega) (by simpa using hl)
        simp only [List.cons_append] at this
        rw [this]
        simp only [List.cons_append, List.length_cons]
        rw [show p + 1 + (A.length + 1 + 1) = p + (A.length + 1 + 1 + 1) by omega]

theorem splicedL_app (Y : List Rn) : ∀ (n : Nat) (X : List Rn), X.length ≤ n → (∀ r, X.getLast? = some r → r.c ≠ 92) → splicedL (X ++ Y) = splicedL X ++ splicedL Y := by
  intro n
  induction n with
  | zero => intro X h _; cases X with
    | nil => simp [splicedL]
    | cons a r => simp at h
  | succ n ih =>
    intro X h hl
    match X with
    | [] => simp [splicedL]
    | [a] =>
      have ha : a.c ≠ 92 := hl a rfl
      match Y with
      | [] => simp [splicedL]
      | y :: Y => simp [splicedL, ha]
    | a :: b :: X =>
      simp only [List.length_cons] at h
      simp only [List.cons_append, splicedL]
      split
      · refine ih X (by omega) ?_
        cases X with
        | nil => simp
        | cons x X => intro r hr; exact hl r (by simpa using hr)
      · have := ih (b :: X) (by simp; omega) (fun r hr => hl r (by rw [List.getLast?_cons_cons]; exact hr))
        simp only [List.cons_append] at this
        rw [this]
        rfl

/-- whether a text ends where it may be cut -/
def cutB (A : List UInt8) : Bool := A.getLast? != some 63 && A.getLast? != some 92 && !([63, 63, 47].isSuffixOf A)

theorem tri_92 (c : UInt8) (h : tri c = some 92) : c = 47 := by
  unfold tri at h
  (repeat' split at h) <;> first | assumption | (exfalso; revert h; decide)

theorem plainL_last : ∀ (n : Nat) (A : List UInt8) (p : Nat), A.length ≤ n → A.getLast? ≠ some 92 → ¬ [63, 63, 47] <:+ A → ∀ r, (plainL p A).getLast? = some r → r.c ≠ 92 := by
  intro n
  induction n with
  | zero => intro A p h _ _ r hr; cases A with
    | nil => simp [plainL] at hr
    | cons a r => simp at h
  | succ n ih =>
    intro A p h h1 h2 r hr
    match A with
    | [] => simp [plainL] at hr
    | [a] => simp [plainL] at hr; subst hr; simpa using h1
    | [a, b] => simp [plainL] at hr; subst hr; simpa using h1
    | a :: b :: c :: A =>
      simp only [List.length_cons] at h
      simp only [plainL] at hr
      split at hr
      · rename_i ht
        cases A with
        | nil =>
          simp [plainL] at hr
          subst hr
          obtain ⟨d, hd⟩ := Option.isSome_iff_exists.1 ht.2.2
          simp only [hd, Option.getD_some]
          rintro rfl
          have := tri_92 c hd
          obtain ⟨rfl, rfl, _⟩ := ht
          subst this
          exact h2 (List.suffix_refl _)
        | cons x A =>
          refine ih (x :: A) (p + 3) (by simp at h ⊢; omega) (by simpa using h1) (fun hs => h2 (hs.trans ⟨[a, b, c], rfl⟩)) r ?_
          cases hq : plainL (p + 3) (x :: A) with
          | nil => exact (plainL_ne (x :: A) (p + 3) (by simp) hq).elim
          | cons y Y => rw [hq] at hr; simpa using hr
      · refine ih (b :: c :: A) (p + 1) (by simp; omega) (by simpa using h1) (fun hs => h2 (hs.trans ⟨[a], rfl⟩)) r ?_
        cases hq : plainL (p + 1) (b :: c :: A) with
        | nil => exact (plainL_ne (b :: c :: A) (p + 1) (by simp) hq).elim
        | cons y Y => rw [hq] at hr; simpa using hr

theorem standL_app {A : List UInt8} (B : List UInt8) (h : cutB A = true) : standL (A ++ B) = standL A ++ standP A.length B := by
  simp only [cutB, Bool.and_eq_true, bne_iff_ne, ne_eq, Bool.not_eq_true', Bool.eq_false_iff, List.isSuffixOf_iff_suffix] at h
  unfold standL standP
  rw [plainL_app B _ A 0 (Nat.le_refl _) h.1.1, splicedL_app _ _ _ (Nat.le_refl _) (plainL_last _ A 0 (Nat.le_refl _) h.1.2 h.2), Nat.zero_add]

theorem pick_all {l : List Rn} {a b : Int} (h : ∀ r ∈ l, a ≤ (r.f : Int) ∧ (r.t : Int) ≤ b) : pickL l a b = l.map (·.c) := by
  unfold pickL
  rw [List.filter_eq_self.2]
  intro r hr
  have := h r hr
  simp [this.1, this.2]

theorem pick_none {l : List Rn} {a b : Int} (h : ∀ r ∈ l, ¬ (a ≤ (r.f : Int) ∧ (r.t : Int) ≤ b)) : pickL l a b = [] := by
  unfold pickL
  rw [List.filter_eq_nil_iff.2]
  · rfl
  · intro r hr hc
    have := h r hr
    simp at hc
    exact this hc

theorem pick_app (X Y : List Rn) (a b : Int) : pickL (X ++ Y) a b = pickL X a b ++ pickL Y a b := by simp [pickL]

theorem standL_eqP (l : List UInt8) : standL l = standP 0 l := rfl

theorem back_all (l : List UInt8) : backL l 0 l.length = (standL l).map (·.c) := by
  refine pick_all fun r hr => ?_
  have := standP_mem (p := 0) hr
  omega

theorem back_parts {A : List UInt8} (B : List UInt8) (h : cutB A = true) :
    backL (A ++ B) 0 ((A.length : Int) + B.length) = backL A 0 A.length ++ backL B 0 B.length ∧
    backL (A ++ B) 0 A.length = backL A 0 A.length ∧ backL (A ++ B) A.length ((A.length : Int) + B.length) = backL B 0 B.length := by
  have e : backL B 0 B.length = (standP A.length B).map (·.c) := by rw [back_all, standL_eqP, standP_c]
  have eA : backL A 0 A.length = (standL A).map (·.c) := back_all A
  have hA : ∀ r ∈ standL A, r.f < r.t ∧ r.t ≤ A.length := fun r hr => by have := standP_mem (p := 0) hr; omega
  have hB : ∀ r ∈ standP A.length B, A.length ≤ r.f ∧ r.f < r.t ∧ r.t ≤ A.length + B.length := fun r hr => standP_mem hr
  rw [e, eA]
  unfold backL
  rw [standL_app B h]
  refine ⟨?_, ?_, ?_⟩
  · rw [pick_all, List.map_append]
    intro r hr
    rcases List.mem_append.1 hr with hr | hr
    · have := hA r hr; omega
    · have := hB r hr; omega
  · rw [pick_app, pick_all, pick_none, List.append_nil]
    · intro r hr; have := hB r hr; omega
    · intro r hr; have := hA r hr; omega
  · rw [pick_app, pick_none, pick_all, List.nil_append]
    · intro r hr; have := hB r hr; omega
    · intro r hr; have := hA r hr; omega

end Go.Proofs.Ythbicbfdldpemaa
