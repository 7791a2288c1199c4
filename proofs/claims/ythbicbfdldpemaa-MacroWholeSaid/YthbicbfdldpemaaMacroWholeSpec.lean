/- MacroWhole: what a definition that was read has, in plain Lean. -/
import Derived.Test.YthbicbfdldpemaaMcSpec
namespace Go.Proofs.Ythbicbfdldpemaa
set_option linter.unusedVariables false

theorem bodyL_inl {m m' : Mac} (h : bodyL m = .inl m') : m' = m := by
  unfold bodyL at h
  split at h
  · simp at h
  · simpa using h.symm

theorem bodyL_inr {m : Mac} {x : Bad} (h : bodyL m = .inr x) : x.code = 5 := by
  unfold bodyL at h
  split at h
  · simp only [Sum.inr.injEq] at h; subst h; rfl
  · simp at h

theorem parseL_code {T : List Tm} {x : Bad} (h : parseL T = .inr x) : x.code = 4 ∨ x.code = 5 := by
  unfold parseL at h
  split at h
  · simp only [Sum.inr.injEq] at h; subst h; exact .inl rfl
  · split at h
    · split at h
      · simp only [Sum.inr.injEq] at h; subst h; exact .inr rfl
      · split at h
        · split at h
          · split at h
            · simp only [Sum.inr.injEq] at h; subst h; exact .inr rfl
            · exact .inr (bodyL_inr h)
          · exact .inr (bodyL_inr h)
        · exact .inr (bodyL_inr h)
    · simp only [Sum.inr.injEq] at h; subst h; exact .inl rfl

theorem paramsL_drop : ∀ (n : Nat) (l : List Tm) (va : Bool) (ps : List ByteArray) (r : List Tm) (va' : Bool) (ps' : List ByteArray), l.length ≤ n → paramsL l va ps = some (r, va', ps') → ∃ k, 1 ≤ k ∧ k ≤ l.length ∧ r = l.drop k ∧ ps' ≠ [] := by
  intro n
  induction n with
  | zero => intro l va ps r va' ps' hl h; have := List.eq_nil_of_length_eq_zero (by omega : l.length = 0); subst this; simp [paramsL] at h
  | succ n ih =>
    intro l va ps r va' ps' hl h
    match l, hl, h with
    | [], _, h => simp [paramsL] at h
    | [_], _, h => simp [paramsL] at h
    | a :: b :: l, hl, h =>
      simp only [List.length_cons] at hl
      have ih' := fun va ps => ih l va ps r va' ps' (by omega)
      simp only [paramsL] at h
      repeat' split at h
      all_goals first
        | (simp only [reduceCtorEq] at h; done)
        | (simp only [Option.some.injEq, Prod.mk.injEq] at h; obtain ⟨rfl, _, rfl⟩ := h; exact ⟨2, by omega, by simp, rfl, by simp⟩)
        | (obtain ⟨k, h1, h2, h3, h4⟩ := ih' _ _ h; exact ⟨k + 2, by omega, by simp only [List.length_cons]; omega, by rw [h3]; rfl, h4⟩)

theorem paramsTop_drop {l r : List Tm} {va : Bool} {ps : List ByteArray} (h : paramsTop l = some (r, va, ps)) : ∃ k, 1 ≤ k ∧ k ≤ l.length ∧ r = l.drop k ∧ (va = true → ps ≠ []) := by
  match l, h with
  | a :: l, h =>
    simp only [paramsTop] at h
    split at h
    · simp only [Option.some.injEq, Prod.mk.injEq] at h
      obtain ⟨rfl, rfl, rfl⟩ := h
      exact ⟨1, by omega, by simp, rfl, by simp⟩
    · obtain ⟨k, h1, h2, h3, h4⟩ := paramsL_drop _ _ _ _ _ _ _ (Nat.le_refl _) h
      exact ⟨k, h1, h2, h3, fun _ => h4⟩

theorem unsp_len (r : List Tm) : (unsp r).length = r.length := by cases r <;> rfl

/-- what a definition has of the tokens that it was read from -/
structure WholeP (T : List Tm) (m : Mac) (k : Nat) : Prop where
  k1 : 1 ≤ k
  k2 : k ≤ T.length
  body : m.body = unsp (T.drop k)
  head : ∃ t r, T = t :: r ∧ m.name = t.text ∧ m.file = t.file ∧ m.f = t.f ∧ m.t = t.t ∧ t.kind = 1
  plain : m.fn = false → k = 1 ∧ m.params = []
  func : m.fn = true → 3 ≤ k
  more : m.va = true → m.fn = true ∧ m.params ≠ []

theorem parseL_whole {T : List Tm} {m : Mac} (h : parseL T = .inl m) : ∃ k, WholeP T m k := by
  match T, h with
  | t :: rest, h =>
    simp only [parseL] at h
    split at h
    · rename_i hk
      split at h
      · simp at h
      · match rest, h with
        | [], h =>
          have := bodyL_inl h
          subst this
          exact ⟨1, Nat.le_refl _, by simp, rfl, ⟨t, [], rfl, rfl, rfl, rfl, rfl, hk⟩, fun _ => ⟨rfl, rfl⟩, by simp, by simp⟩
        | p :: r, h =>
          simp only at h
          split at h
          · split at h
            · simp at h
            · rename_i b va ps hp
              have := bodyL_inl h
              subst this
              obtain ⟨k, h1, h2, h3, h4⟩ := paramsTop_drop hp
              refine ⟨k + 2, by omega, by simp only [List.length_cons]; omega, by rw [h3]; rfl, ⟨t, p :: r, rfl, rfl, rfl, rfl, rfl, hk⟩, by simp, fun _ => by omega, fun hv => ⟨rfl, h4 hv⟩⟩
          · have := bodyL_inl h
            subst this
            exact ⟨1, Nat.le_refl _, by simp, rfl, ⟨t, p :: r, rfl, rfl, rfl, rfl, rfl, hk⟩, fun _ => ⟨rfl, rfl⟩, by simp, by simp⟩
    · simp at h

/-- a token of the body beside the one that it was -/
structure SameTm (i : Nat) (a b : Tm) : Prop where
  text : a.text = b.text
  kind : a.kind = b.kind
  file : a.file = b.file
  f : a.f = b.f
  t : a.t = b.t
  later : 0 < i → a.sp = b.sp
  first : i = 0 → a.sp = false

theorem WholeP.len {T : List Tm} {m : Mac} {k : Nat} (h : WholeP T m k) : m.body.length = T.length - k := by rw [h.body, unsp_len, List.length_drop]

theorem WholeP.at {T : List Tm} {m : Mac} {k : Nat} (h : WholeP T m k) {i : Nat} (hi : i < m.body.length) : ∃ a b, m.body[i]? = some a ∧ T[k + i]? = some b ∧ SameTm i a b := by
  have hl := h.len
  have h2 := h.k2
  obtain ⟨b, hb⟩ : ∃ b, T[k + i]? = some b := ⟨_, List.getElem?_eq_getElem (by omega)⟩
  have hd : (T.drop k)[i]? = some b := by rw [List.getElem?_drop]; exact hb
  rw [h.body]
  cases hr : T.drop k with
  | nil => rw [hr] at hd; simp at hd
  | cons c r =>
    rw [hr] at hd
    cases i with
    | zero =>
      simp only [List.getElem?_cons_zero, Option.some.injEq] at hd
      subst hd
      exact ⟨{ c with sp := false }, c, rfl, hb, rfl, rfl, rfl, rfl, rfl, by simp, fun _ => rfl⟩
    | succ i =>
      exact ⟨b, b, hd, hb, rfl, rfl, rfl, rfl, rfl, fun _ => rfl, by simp⟩
end Go.Proofs.Ythbicbfdldpemaa
