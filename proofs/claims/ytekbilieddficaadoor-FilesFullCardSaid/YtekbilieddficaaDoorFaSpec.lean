/- FilesApart: the law in plain Lean. -/
import Derived.Test.YtekbilieddficaaDoorFi12
namespace Go.Proofs.YtekbilieddficaaDoor
open Go.RowKit
set_option linter.unusedVariables false

theorem file_app (F : List (ByteArray × Nat × RT)) (n m : ByteArray) (b : Nat) (t : RT) : fileOf (F ++ [(n, b, t)]) m = match fileOf F m with | some q => some q | none => if n = m then some (b, t) else none := by
  unfold fileOf
  rw [List.find?_append]
  cases hf : F.find? fun p => decide (p.1 = m) with
  | some p => simp
  | none =>
    by_cases h : n = m
    · simp [h]
    · simp [h]

theorem file_put {F : List (ByteArray × Nat × RT)} {n : ByteArray} {q0 : Nat × RT} (h : fileOf F n = some q0) (b : Nat) (t : RT) (m : ByteArray) : fileOf (putF F n b t) m = if m = n then some (b, t) else fileOf F m := by
  have hany : (F.any fun p => decide (p.1 = n)) = true := by
    rw [List.any_eq_true]
    exact ⟨(n, q0), fileOf_mem h, by simp⟩
  unfold putF
  rw [if_pos hany]
  unfold fileOf at h ⊢
  rw [List.find?_map]
  have hc : ((fun p : ByteArray × Nat × RT => decide (p.1 = m)) ∘ fun p : ByteArray × Nat × RT => if p.1 = n then (n, b, t) else p) = fun p => decide (p.1 = m) := by
    funext p
    simp only [Function.comp]
    have e : (if p.1 = n then (n, b, t) else p).1 = p.1 := by
      by_cases hp : p.1 = n
      · rw [if_pos hp]; exact hp.symm
      · rw [if_neg hp]
    rw [e]
  rw [hc]
  by_cases hm : m = n
  · subst hm
    rw [if_pos rfl]
    cases hf : F.find? fun p => decide (p.1 = m) with
    | none => rw [hf] at h; cases h
    | some p =>
      have h1 : p.1 = m := by simpa using List.find?_some hf
      simp [h1]
  · rw [if_neg hm]
    cases hf : F.find? fun p => decide (p.1 = m) with
    | none => simp
    | some p =>
      have h1 : p.1 = m := by simpa using List.find?_some hf
      have h2 : ¬ p.1 = n := by rw [h1]; exact hm
      simp [h2]

theorem count_bump_eq (V : List (ByteArray × Nat × Int)) (n m : ByteArray) (nb : Nat) : countOf (bumpV V n nb) m = countOf V m + if m = n then 1 else 0 := by
  unfold bumpV
  cases ht : timesOf V n with
  | none =>
    simp only
    unfold countOf
    unfold timesOf at ht ⊢
    rw [List.find?_append]
    cases hf : V.find? fun p => decide (p.1 = m) with
    | some p =>
      have h1 : p.1 = m := by simpa using List.find?_some hf
      have h2 : ¬ m = n := by
        rintro rfl
        rw [hf] at ht
        cases ht
      simp [h2]
    | none =>
      by_cases h : n = m
      · subst h; simp
      · have h' : ¬ m = n := fun e => h e.symm
        simp [h, h']
  | some q =>
    simp only
    unfold countOf timesOf
    rw [List.find?_map]
    have hc : ((fun p : ByteArray × Nat × Int => decide (p.1 = m)) ∘ fun p : ByteArray × Nat × Int => if p.1 = n then (p.1, p.2.1, p.2.2 + 1) else p) = fun p => decide (p.1 = m) := by
      funext p
      simp only [Function.comp]
      split <;> rfl
    rw [hc]
    cases hf : V.find? fun p => decide (p.1 = m) with
    | none =>
      have h2 : ¬ m = n := by
        rintro rfl
        unfold timesOf at ht
        rw [hf] at ht
        cases ht
      simp [h2]
    | some p =>
      have h1 : p.1 = m := by simpa using List.find?_some hf
      by_cases h : m = n
      · subst h
        simp [h1]
      · have h2 : ¬ p.1 = n := by rw [h1]; exact h
        simp [h, h2]

theorem nameB_inj {i j : Nat} (hi : i < 60) (hj : j < 60) (h : nameB i = nameB j) : i = j := name_inj i hi j hj (by rw [h])

/-- behind i creations -/
structure ApSt (A : List ByteArray) (i : Nat) (F : List (ByteArray × Nat × RT)) (V : List (ByteArray × Nat × Int)) : Prop where
  have_ : ∀ j s, j < i → A[j]? = some s → ∃ b t, fileOf F (nameB j) = some (b, t) ∧ t.text = s.data.toList
  none_ : ∀ j, i ≤ j → j < 60 → fileOf F (nameB j) = none
  len : F.length = i
  cnt : ∀ j, j < 60 → countOf V (nameB j) = if j < i then 1 else 0

theorem apSt_zero (A : List ByteArray) : ApSt A 0 [] [] := ⟨fun j s h => absurd h (by omega), fun _ _ _ => rfl, rfl, fun j _ => by rw [if_neg (by omega)]; rfl⟩

theorem apSt_succ {A : List ByteArray} {i b nb : Nat} {t : RT} {F : List (ByteArray × Nat × RT)} {V : List (ByteArray × Nat × Int)} {s : ByteArray} (h : ApSt A i F V) (hi : i < 60) (hs : A[i]? = some s) (ht : t.text = s.data.toList) : ApSt A (i + 1) (F ++ [(nameB i, b, t)]) (bumpV V (nameB i) nb) := by
  refine ⟨fun j s' hj hs' => ?_, fun j hj h60 => ?_, by rw [List.length_append, h.len]; rfl, fun j h60 => ?_⟩
  · rw [file_app]
    by_cases e : j = i
    · subst e
      rw [h.none_ j (Nat.le_refl _) hi]
      rw [hs] at hs'
      cases hs'
      exact ⟨b, t, by simp, ht⟩
    · obtain ⟨b', t', h1, h2⟩ := h.have_ j s' (by omega) hs'
      rw [h1]
      exact ⟨b', t', rfl, h2⟩
  · rw [file_app, h.none_ j (by omega) h60]
    simp only
    rw [if_neg]
    intro e
    have := nameB_inj hi h60 e
    omega
  · rw [count_bump_eq, h.cnt j h60]
    by_cases e : j = i
    · subst e
      rw [if_neg (by omega), if_pos rfl, if_pos (by omega)]
      rfl
    · have hne : ¬ nameB j = nameB i := fun e2 => e (nameB_inj h60 hi e2)
      rw [if_neg hne]
      by_cases hj : j < i
      · rw [if_pos hj, if_pos (by omega)]; rfl
      · rw [if_neg hj, if_neg (by omega)]; rfl

/-- behind changes of the file k: its text l, its number c -/
structure ApC (A : List ByteArray) (k : Nat) (l : List UInt8) (c : Int) (F : List (ByteArray × Nat × RT)) (V : List (ByteArray × Nat × Int)) : Prop where
  mine : ∃ b t, fileOf F (nameB k) = some (b, t) ∧ t.text = l
  rest : ∀ j s, j ≠ k → A[j]? = some s → ∃ b t, fileOf F (nameB j) = some (b, t) ∧ t.text = s.data.toList
  cntk : countOf V (nameB k) = c
  cnt : ∀ j, j < A.length → j ≠ k → countOf V (nameB j) = 1

theorem apC_of {A : List ByteArray} {k : Nat} {F : List (ByteArray × Nat × RT)} {V : List (ByteArray × Nat × Int)} {s : ByteArray} (h : ApSt A A.length F V) (hA : A.length ≤ 60) (hk : A[k]? = some s) : ApC A k s.data.toList 1 F V := by
  have hlt := (List.getElem?_eq_some_iff.1 hk).1
  exact ⟨h.have_ k s hlt hk, fun j s' hj hs' => h.have_ j s' (List.getElem?_eq_some_iff.1 hs').1 hs', by rw [h.cnt k (by omega), if_pos hlt], fun j hj _ => by rw [h.cnt j (by omega), if_pos hj]⟩

theorem apC_next {A : List ByteArray} {k b nb : Nat} {t : RT} {l : List UInt8} {c : Int} {F : List (ByteArray × Nat × RT)} {V : List (ByteArray × Nat × Int)} (h : ApC A k l c F V) (hA : A.length ≤ 60) (hk : k < A.length) : ApC A k t.text (c + 1) (putF F (nameB k) b t) (bumpV V (nameB k) nb) := by
  obtain ⟨b0, t0, h0, _⟩ := h.mine
  have hne : ∀ j, j < A.length → j ≠ k → ¬ nameB j = nameB k := fun j hj e e2 => e (nameB_inj (by omega) (by omega) e2)
  refine ⟨⟨b, t, by rw [file_put h0, if_pos rfl], rfl⟩, fun j s hj hs => ?_, by rw [count_bump_eq, if_pos rfl, h.cntk], fun j hj e => ?_⟩
  · rw [file_put h0, if_neg (hne j (List.getElem?_eq_some_iff.1 hs).1 hj)]
    exact h.rest j s hj hs
  · rw [count_bump_eq, if_neg (hne j hj e), h.cnt j hj e]
    rfl
end Go.Proofs.YtekbilieddficaaDoor
