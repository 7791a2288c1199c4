/- FilesFull: the law in plain Lean. -/
import Derived.Test.YtekbilieddficaaDoorFaSpec
import Derived.Test.YtekbilieddficaaDoorFi14
namespace Go.Proofs.YtekbilieddficaaDoor
open Go.RowKit
set_option linter.unusedVariables false

abbrev sText : ByteArray := ⟨#[116, 101, 120, 116]⟩
abbrev sOther : ByteArray := ⟨#[111, 116, 104, 101, 114]⟩
theorem other_valid : ValidP sOther.data.toList := by decide +kernel
theorem name_other (j : Nat) : nameB j ≠ sOther := by
  intro h
  have := congrArg ByteArray.size h
  simp [nameB, ByteArray.size] at this

theorem file_drop {F : List (ByteArray × Nat × RT)} (n m : ByteArray) : fileOf (dropF F n) m = if m = n then none else fileOf F m := by
  unfold fileOf dropF
  rw [List.find?_filter]
  by_cases h : m = n
  · subst h
    rw [if_pos rfl, List.find?_eq_none.2]
    · rfl
    · intro p _
      by_cases e : p.1 = m <;> simp [e]
  · rw [if_neg h]
    congr 1
    refine congrArg (fun f => List.find? f F) (funext fun p => ?_)
    by_cases e : p.1 = m
    · simp [e, h]
    · simp [e]

theorem drop_length {F : List (ByteArray × Nat × RT)} {n : ByteArray} {q : Nat × RT} (h : fileOf F n = some q) : (dropF F n).length < F.length := by
  unfold dropF
  exact List.length_filter_lt_length_iff_exists.2 ⟨(n, q), fileOf_mem h, by simp⟩

theorem put_length {F : List (ByteArray × Nat × RT)} {n : ByteArray} {q : Nat × RT} {b : Nat} {t : RT} (h : fileOf F n = some q) : (putF F n b t).length = F.length := by
  unfold putF
  rw [if_pos (List.any_eq_true.2 ⟨(n, q), fileOf_mem h, by simp⟩), List.length_map]

/-- behind the creations of m files -/
structure FuSt (m : Nat) (F : List (ByteArray × Nat × RT)) (V : List (ByteArray × Nat × Int)) : Prop where
  st : ApSt (List.replicate 60 sText) m F V
  none_ : fileOf F sOther = none
  cnt : countOf V sOther = 0

theorem rep_at {i : Nat} (h : i < 60) : (List.replicate 60 sText)[i]? = some sText := by
  rw [List.getElem?_replicate, if_pos h]

theorem fuSt_zero : FuSt 0 [] [] := ⟨apSt_zero _, rfl, rfl⟩
theorem fuSt_succ {i b nb : Nat} {t : RT} {F : List (ByteArray × Nat × RT)} {V : List (ByteArray × Nat × Int)} (h : FuSt i F V) (hi : i < 60) (ht : t.text = sText.data.toList) : FuSt (i + 1) (F ++ [(nameB i, b, t)]) (bumpV V (nameB i) nb) := by
  refine ⟨apSt_succ h.st hi (rep_at hi) ht, ?_, ?_⟩
  · rw [file_app, h.none_]
    simp only
    rw [if_neg (name_other i)]
  · rw [count_bump_eq, h.cnt, if_neg (name_other i).symm]
    rfl

theorem FuSt.get {m : Nat} {F : List (ByteArray × Nat × RT)} {V : List (ByteArray × Nat × Int)} (h : FuSt m F V) {k : Nat} (hk : k < m) (hm : m ≤ 60) : ∃ b t, fileOf F (nameB k) = some (b, t) ∧ t.text.length = 4 := by
  obtain ⟨b, t, h1, h2⟩ := h.st.have_ k sText hk (rep_at (by omega))
  exact ⟨b, t, h1, by rw [h2]; rfl⟩

/-- behind an insertion into file k, its removal, and another's creation -/
theorem fu_end {m k : Nat} {F : List (ByteArray × Nat × RT)} {V : List (ByteArray × Nat × Int)} (h : FuSt m F V) (hk : k < m) (hm : m ≤ 60) (n1 n2 n3 : Nat) :
    (∀ j, j < m → countOf (bumpV (bumpV (bumpV V (nameB k) n1) (nameB k) n2) sOther n3) (nameB j) = if j = k then 3 else 1) ∧ countOf (bumpV (bumpV (bumpV V (nameB k) n1) (nameB k) n2) sOther n3) sOther = 1 := by
  refine ⟨fun j hj => ?_, ?_⟩
  · rw [count_bump_eq, count_bump_eq, count_bump_eq, if_neg (name_other j), h.st.cnt j (by omega), if_pos hj]
    by_cases e : j = k
    · subst e
      rw [if_pos rfl, if_pos rfl]
      rfl
    · rw [if_neg (fun e2 => e (nameB_inj (by omega) (by omega) e2)), if_neg e]
      rfl
  · rw [count_bump_eq, count_bump_eq, count_bump_eq, if_neg (name_other k).symm, if_pos rfl, h.cnt]
    rfl
end Go.Proofs.YtekbilieddficaaDoor
