/- FilesOrder: the law in plain Lean: what is found; how the files grow. -/
import Derived.Test.YtekbilieddficaaDoorFoSpec
namespace Go.Proofs.YtekbilieddficaaDoor
open Go.RowKit
set_option linter.unusedVariables false

theorem count_bump (V : List (ByteArray × Nat × Int)) (n m : ByteArray) (nb : Nat) : countOf (bumpV V n nb) m ≤ countOf V m + 1 := by
  unfold bumpV
  cases ht : timesOf V n with
  | none =>
    simp only
    unfold countOf timesOf
    rw [List.find?_append]
    cases hf : V.find? fun p => decide (p.1 = m) with
    | some p => simp; omega
    | none =>
      by_cases hn : n = m
      · simp [hn]
      · simp [hn]
  | some q =>
    simp only
    unfold countOf timesOf
    rw [List.find?_map]
    have hc : ((fun p : ByteArray × Nat × Int => decide (p.1 = m)) ∘ fun p : ByteArray × Nat × Int => if p.1 = n then (p.1, p.2.1, p.2.2 + 1) else p) = fun p => decide (p.1 = m) := by
      funext p
      simp only [Function.comp]
      split <;> rfl
    rw [hc]
    cases hf : V.find? fun p => decide (p.1 = m) with
    | none => simp
    | some p =>
      simp only [Option.map_some, Option.getD_some]
      split
      · simp
      · omega

theorem keys_start (b : Nat) (t : RT) (H : List Bool) : Keys H H.length ([] ++ [(sSrcA, b, t)]) := by
  intro n
  simp only [List.nil_append, List.map_cons, List.map_nil, List.mem_singleton]
  constructor
  · intro h; exact .inl h
  · rintro (h | ⟨i, h1, h2, _⟩)
    · exact h
    · have := (List.getElem?_eq_some_iff.1 h2).1
      omega

theorem keys_skip {H : List Bool} {j : Nat} {F : List (ByteArray × Nat × RT)} (h : Keys H (j + 1) F) (hj : H[j]? = some false) : Keys H j F := by
  intro n
  rw [h n]
  constructor
  · rintro (h1 | ⟨i, h1, h2, h3⟩)
    · exact .inl h1
    · exact .inr ⟨i, by omega, h2, h3⟩
  · rintro (h1 | ⟨i, h1, h2, h3⟩)
    · exact .inl h1
    · refine .inr ⟨i, ?_, h2, h3⟩
      by_cases e : i = j
      · subst e; rw [hj] at h2; cases h2
      · omega

theorem keys_more {H : List Bool} {j b : Nat} {t : RT} {F : List (ByteArray × Nat × RT)} (h : Keys H (j + 1) F) (hj : H[j]? = some true) : Keys H j (F ++ [(yB j, b, t)]) := by
  intro n
  rw [List.map_append, List.mem_append, h n]
  simp only [List.map_cons, List.map_nil, List.mem_singleton]
  constructor
  · rintro ((h1 | ⟨i, h1, h2, h3⟩) | h1)
    · exact .inl h1
    · exact .inr ⟨i, by omega, h2, h3⟩
    · exact .inr ⟨j, Nat.le_refl _, hj, h1⟩
  · rintro (h1 | ⟨i, h1, h2, h3⟩)
    · exact .inl (.inl h1)
    · by_cases e : i = j
      · subst e; exact .inr h3
      · exact .inl (.inr ⟨i, by omega, h2, h3⟩)

theorem keys_new {H : List Bool} (h8 : H.length ≤ 8) {j : Nat} {F : List (ByteArray × Nat × RT)} (h : Keys H (j + 1) F) (hj : j < 8) : fileOf F (yB j) = none := by
  cases hf : fileOf F (yB j) with
  | none => rfl
  | some q =>
    have h1 : yB j ∈ F.map (·.1) := file_some.1 (by rw [hf]; rfl)
    rcases (h _).1 h1 with e | ⟨i, h2, h3, e⟩
    · exact absurd (by rw [e]) (y_notA j hj)
    · have := (List.getElem?_eq_some_iff.1 h3).1
      have := y_inj j hj i (by omega) (by rw [e])
      omega

theorem keys_noY {H : List Bool} (h8 : H.length ≤ 8) {F : List (ByteArray × Nat × RT)} (h : Keys H 0 F) : fileOf F sSrcY = none := by
  cases hf : fileOf F sSrcY with
  | none => rfl
  | some q =>
    have h1 : sSrcY ∈ F.map (·.1) := file_some.1 (by rw [hf]; rfl)
    rcases (h _).1 h1 with e | ⟨i, h2, h3, e⟩
    · exact absurd e (by decide)
    · have := (List.getElem?_eq_some_iff.1 h3).1
      exact absurd (by rw [e]) (y_notY i (by omega))

/-- the files in the end -/
def KeysEnd (H : List Bool) (beside : Bool) (F : List (ByteArray × Nat × RT)) : Prop := ∀ n : ByteArray, n ∈ F.map (·.1) ↔ n = sSrcA ∨ (∃ i : Nat, H[i]? = some true ∧ n = yB i) ∨ (beside = true ∧ n = sSrcY)

theorem keysEnd_no {H : List Bool} {F : List (ByteArray × Nat × RT)} (h : Keys H 0 F) : KeysEnd H false F := by
  intro n
  rw [h n]
  simp

theorem keysEnd_yes {H : List Bool} {b : Nat} {t : RT} {F : List (ByteArray × Nat × RT)} (h : Keys H 0 F) : KeysEnd H true (F ++ [(sSrcY, b, t)]) := by
  intro n
  rw [List.map_append, List.mem_append, h n]
  simp only [List.map_cons, List.map_nil, List.mem_singleton, Nat.zero_le, true_and]
  constructor
  · rintro ((h1 | h1) | h1)
    · exact .inl h1
    · exact .inr (.inl h1)
    · exact .inr (.inr h1)
  · rintro (h1 | h1 | h1)
    · exact .inl (.inl h1)
    · exact .inl (.inr h1)
    · exact .inr h1

def wantB (H : List Bool) (beside quote : Bool) : ByteArray := if beside && quote then sSrcY else firstY 0 H

theorem end_file {H : List Bool} (h8 : H.length ≤ 8) {beside : Bool} {F : List (ByteArray × Nat × RT)} (h : KeysEnd H beside F) : ∀ i, i < H.length → ((fileOf F (yB i)).isSome = true ↔ H[i]? = some true) := by
  intro i hi
  rw [file_some, h]
  constructor
  · rintro (e | ⟨j, h1, e⟩ | ⟨_, e⟩)
    · exact absurd (by rw [e]) (y_notA i (by omega))
    · have := (List.getElem?_eq_some_iff.1 h1).1
      have := y_inj i (by omega) j (by omega) (by rw [e])
      subst this
      exact h1
    · exact absurd (by rw [e]) (y_notY i (by omega))
  · intro h1
    exact .inr (.inl ⟨i, h1, rfl⟩)

theorem end_src {H : List Bool} (h8 : H.length ≤ 8) {beside : Bool} {F : List (ByteArray × Nat × RT)} (h : KeysEnd H beside F) : (fileOf F sSrcY).isSome = beside := by
  cases hb : beside with
  | true => exact file_some.2 ((h _).2 (.inr (.inr ⟨hb, rfl⟩)))
  | false =>
    cases hx : (fileOf F sSrcY).isSome with
    | false => rfl
    | true =>
      rcases (h _).1 (file_some.1 hx) with e | ⟨j, h1, e⟩ | ⟨e, _⟩
      · exact absurd e (by decide)
      · have := (List.getElem?_eq_some_iff.1 h1).1
        exact absurd (by rw [e]) (y_notY j (by omega))
      · rw [hb] at e; cases e

/-- what the first two askings tell -/
theorem end_found {H : List Bool} (h8 : H.length ≤ 8) {beside : Bool} (quote : Bool) {F : List (ByteArray × Nat × RT)} (h : KeysEnd H beside F) {nm : List UInt8} (hs : joinedP sSrc.data.toList nm = some sSrcY.data.toList) (hj : ∀ i, i < 8 → joinedP (dirB i).data.toList nm = some (yB i).data.toList) :
    foundL nm F (withDir quote sSrc (dirsFrom 0 H.length)) = if wantB H beside quote = ⟨#[]⟩ then none else some (wantB H beside quote) := by
  have hd := found_dirs h8 (end_file h8 h) hj H.length 0 (by omega)
  rw [List.drop_zero] at hd
  cases quote with
  | false =>
    unfold withDir wantB
    simp only [Bool.and_false, Bool.false_eq_true, if_false]
    exact hd
  | true =>
    unfold withDir wantB
    simp only [Bool.and_true, if_true]
    show (match hitL nm F sSrc with | some r => some r | none => foundL nm F (dirsFrom 0 H.length)) = _
    unfold hitL
    rw [hs]
    simp only
    rw [end_src h8 h]
    cases beside with
    | true => rfl
    | false =>
      simp only [Bool.false_eq_true, if_false]
      exact hd

theorem not_file {H : List Bool} (h8 : H.length ≤ 8) {beside : Bool} {F : List (ByteArray × Nat × RT)} (h : KeysEnd H beside F) {l : List UInt8} (h1 : l ≠ sSrcA.data.toList) (h2 : l ≠ sSrcY.data.toList) (h3 : ∀ j, j < 8 → l ≠ (yB j).data.toList) : (fileOf F ⟨l.toArray⟩).isSome = false := by
  cases hx : (fileOf F ⟨l.toArray⟩).isSome with
  | false => rfl
  | true =>
    rcases (h _).1 (file_some.1 hx) with e | ⟨j, e1, e⟩ | ⟨_, e⟩
    · exact absurd (by rw [← e]) h1
    · have := (List.getElem?_eq_some_iff.1 e1).1
      exact absurd (by rw [← e]) (h3 j (by omega))
    · exact absurd (by rw [← e]) h2

theorem none_dirs {H : List Bool} (h8 : H.length ≤ 8) {beside : Bool} {F : List (ByteArray × Nat × RT)} (h : KeysEnd H beside F) : ∀ m i, i + m = H.length → foundL nY.data.toList F (dirsFrom i m) = none := by
  intro m
  induction m with
  | zero => intro i hi; rfl
  | succ m ih =>
    intro i hi
    show (match hitL nY.data.toList F (dirB i) with | some r => some r | none => foundL nY.data.toList F (dirsFrom (i + 1) m)) = _
    unfold hitL
    rw [join_y i (by omega)]
    obtain ⟨z1, z2, z3⟩ := z_not i (by omega)
    simp only
    rw [not_file h8 h z1 z2 z3]
    simp only [Bool.false_eq_true, if_false]
    exact ih (i + 1) (by omega)

/-- what the last asking tells -/
theorem end_none {H : List Bool} (h8 : H.length ≤ 8) {beside : Bool} (quote : Bool) {F : List (ByteArray × Nat × RT)} (h : KeysEnd H beside F) : foundL nY.data.toList F (withDir quote sSrc (dirsFrom 0 H.length)) = none := by
  have hd := none_dirs h8 h H.length 0 (by omega)
  cases quote with
  | false => exact hd
  | true =>
    show (match hitL nY.data.toList F sSrc with | some r => some r | none => foundL nY.data.toList F (dirsFrom 0 H.length)) = _
    unfold hitL
    rw [joinS_y]
    simp only
    rw [not_file h8 h s_not.1 s_not.2.1 s_not.2.2]
    simp only [Bool.false_eq_true, if_false]
    exact hd
end Go.Proofs.YtekbilieddficaaDoor
