/- Where lines begin, in plain Lean: behind the n-th byte 10. -/
import Derived.Test.YtnmlijngnnlejaaBase2
import Derived.Lib.Bytealg
namespace Go.Proofs.Ytnmlijngnnlejaa
open Go.RowKit
set_option linter.unusedVariables false

/-- how many bytes there are up to the n-th byte 10, with it -/
def nlEnd : List UInt8 → Nat → Nat
  | _, 0 => 0
  | [], _ + 1 => 0
  | c :: r, n + 1 => 1 + nlEnd r (if c = 10 then n else n + 1)

theorem nlEnd_zero (l : List UInt8) : nlEnd l 0 = 0 := by cases l <;> rfl

theorem nlEnd_le : ∀ (l : List UInt8) (n : Nat), nlEnd l n ≤ l.length
  | l, 0 => by rw [nlEnd_zero]; exact Nat.zero_le _
  | [], _ + 1 => Nat.le_refl _
  | c :: r, n + 1 => by have := nlEnd_le r (if c = 10 then n else n + 1); simp only [nlEnd, List.length_cons]; omega

theorem cnt_cons (c : UInt8) (l : List UInt8) : (c :: l).count 10 = l.count 10 + if c = 10 then 1 else 0 := by
  rw [List.count_cons]; simp only [beq_iff_eq]

theorem nlEnd_left {b : List UInt8} : ∀ (a : List UInt8) (n : Nat), n ≤ a.count 10 → nlEnd (a ++ b) n = nlEnd a n
  | a, 0, _ => by rw [nlEnd_zero, nlEnd_zero]
  | [], n + 1, h => by simp at h
  | c :: r, n + 1, h => by
    rw [cnt_cons] at h
    simp only [List.cons_append, nlEnd]
    rw [nlEnd_left r _ (by split at h <;> split <;> omega)]

theorem nlEnd_right {b : List UInt8} : ∀ (a : List UInt8) (n : Nat), a.count 10 < n → nlEnd (a ++ b) n = a.length + nlEnd b (n - a.count 10)
  | a, 0, h => by omega
  | [], n + 1, h => by simp
  | c :: r, n + 1, h => by
    rw [cnt_cons] at h ⊢
    simp only [List.cons_append, nlEnd, List.length_cons]
    split at h
    · next hc =>
      rw [if_pos hc, if_pos hc, nlEnd_right r _ (by omega), show n + 1 - (r.count 10 + 1) = n - r.count 10 by omega]
      omega
    · next hc =>
      rw [if_neg hc, if_neg hc, nlEnd_right r _ (by omega), show n + 1 - (r.count 10 + 0) = n + 1 - r.count 10 by omega]
      omega

theorem nlEnd_pos : ∀ (l : List UInt8) (n : Nat), n < l.count 10 → 1 ≤ nlEnd l (n + 1)
  | [], n, h => by simp at h
  | c :: r, n, h => by simp only [nlEnd]; omega

/-- The next byte 10 is found behind the last. -/
theorem nlEnd_step : ∀ (l : List UInt8) (n : Nat), n < l.count 10 → ((nlEnd l (n + 1) : Nat) : Int) = nlEnd l n + 1 + Lib.indexByte (l.drop (nlEnd l n)) 10
  | [], n, h => by simp at h
  | c :: r, 0, h => by
    rw [cnt_cons] at h
    rw [nlEnd_zero, List.drop_zero]
    simp only [nlEnd, Lib.indexByte, beq_iff_eq]
    split
    · next hc => simp [nlEnd_zero]
    · next hc =>
      rw [if_neg hc] at h
      have ih := nlEnd_step r 0 (by omega)
      rw [nlEnd_zero, List.drop_zero] at ih
      have hp := nlEnd_pos r 0 (by omega)
      simp only [Nat.zero_add] at ih hp ⊢
      rw [if_neg (by omega)]
      omega
  | c :: r, n + 1, h => by
    rw [cnt_cons] at h
    simp only [nlEnd]
    by_cases hc : c = 10
    · rw [if_pos hc] at h
      simp only [if_pos hc]
      have ih := nlEnd_step r n (by omega)
      rw [Nat.add_comm 1 (nlEnd r n), List.drop_succ_cons]
      omega
    · rw [if_neg hc] at h
      simp only [if_neg hc]
      have ih := nlEnd_step r (n + 1) (by omega)
      rw [Nat.add_comm 1 (nlEnd r (n + 1)), List.drop_succ_cons]
      omega

theorem nlEnd_index {l : List UInt8} {n : Nat} (h : n < l.count 10) : 0 ≤ Lib.indexByte (l.drop (nlEnd l n)) 10 := by
  have h0 := nlEnd_step l n h
  by_cases hn : Lib.indexByte (l.drop (nlEnd l n)) 10 = -1
  · exfalso
    rw [hn] at h0
    have key : ∀ (l : List UInt8) (n : Nat), n < l.count 10 → nlEnd l n < nlEnd l (n + 1) := by
      intro l
      induction l with
      | nil => intro n h; simp at h
      | cons c r ih =>
        intro n h
        rw [cnt_cons] at h
        cases n with
        | zero => rw [nlEnd_zero]; simp only [nlEnd]; omega
        | succ n =>
          simp only [nlEnd]
          by_cases hc : c = 10
          · rw [if_pos hc] at h; simp only [if_pos hc]; have := ih n (by omega); omega
          · rw [if_neg hc] at h; simp only [if_neg hc]; have := ih (n + 1) (by omega); omega
    have := key l n h
    omega
  · have := Lib.indexByte_ge (l.drop (nlEnd l n)) 10
    omega

theorem nlEnd_lt {l : List UInt8} {n : Nat} (h : n < l.count 10) : nlEnd l n < nlEnd l (n + 1) := by
  have h0 := nlEnd_step l n h
  have h1 := nlEnd_index h
  omega

theorem nlEnd_mono {l : List UInt8} {m n : Nat} (h : m ≤ n) (hn : n ≤ l.count 10) : nlEnd l m ≤ nlEnd l n := by
  induction n with
  | zero => obtain rfl : m = 0 := by omega
            exact Nat.le_refl _
  | succ n ih =>
    by_cases e : m = n + 1
    · rw [e]; exact Nat.le_refl _
    · have := ih (by omega) (by omega)
      have := nlEnd_lt (l := l) (n := n) (by omega)
      omega

/-- Ahead of it stand so many. -/
theorem nlEnd_count : ∀ (l : List UInt8) (n : Nat), n ≤ l.count 10 → (l.take (nlEnd l n)).count 10 = n
  | l, 0, _ => by rw [nlEnd_zero]; simp
  | [], n + 1, h => by simp at h
  | c :: r, n + 1, h => by
    rw [cnt_cons] at h
    simp only [nlEnd]
    rw [Nat.add_comm 1, List.take_succ_cons, cnt_cons]
    split
    · next hc => rw [if_pos hc] at h; rw [nlEnd_count r n (by omega)]
    · next hc => rw [if_neg hc] at h; rw [nlEnd_count r (n + 1) (by omega)]

/-- It ends with one. -/
theorem nlEnd_last : ∀ (l : List UInt8) (n : Nat), n < l.count 10 → l[nlEnd l (n + 1) - 1]? = some 10
  | [], n, h => by simp at h
  | c :: r, n, h => by
    rw [cnt_cons] at h
    simp only [nlEnd]
    by_cases hc : c = 10
    · rw [if_pos hc] at h
      simp only [if_pos hc]
      cases n with
      | zero => rw [nlEnd_zero, hc]; rfl
      | succ n =>
        have ih := nlEnd_last r n (by omega)
        have hp := nlEnd_pos r n (by omega)
        rw [show 1 + nlEnd r (n + 1) - 1 = (nlEnd r (n + 1) - 1) + 1 by omega, List.getElem?_cons_succ]
        exact ih
    · rw [if_neg hc] at h
      simp only [if_neg hc]
      have ih := nlEnd_last r n (by omega)
      have hp := nlEnd_pos r n (by omega)
      rw [show 1 + nlEnd r (n + 1) - 1 = (nlEnd r (n + 1) - 1) + 1 by omega, List.getElem?_cons_succ]
      exact ih

/-- At a byte 10: the next line begins behind it. -/
theorem nlEnd_here : ∀ (l : List UInt8) (p : Nat), l[p]? = some 10 → nlEnd l ((l.take p).count 10 + 1) = p + 1
  | [], p, h => by simp at h
  | c :: r, 0, h => by
    simp only [List.getElem?_cons_zero, Option.some.injEq] at h
    simp [nlEnd, h, nlEnd_zero]
  | c :: r, p + 1, h => by
    rw [List.getElem?_cons_succ] at h
    rw [List.take_succ_cons, cnt_cons]
    have ih := nlEnd_here r p h
    simp only [nlEnd]
    split
    · next hc => rw [ih]; omega
    · next hc => rw [Nat.add_zero, ih]; omega

theorem cnt_take_succ (l : List UInt8) (p : Nat) (h : p < l.length) : (l.take (p + 1)).count 10 = (l.take p).count 10 + if l[p] = 10 then 1 else 0 := by
  rw [List.take_add_one, List.getElem?_eq_getElem h, List.count_append]
  simp only [Option.toList_some]
  rw [cnt_cons]
  simp

theorem cnt_take_mono (l : List UInt8) {p q : Nat} (h : p ≤ q) : (l.take p).count 10 ≤ (l.take q).count 10 :=
  (List.IsPrefix.sublist (List.take_prefix_take_left h)).count_le 10

theorem cnt_take_le (l : List UInt8) (p : Nat) : (l.take p).count 10 ≤ l.count 10 := (List.take_sublist p l).count_le 10

/-- A place's line begins no later than it. -/
theorem nlEnd_take_le (l : List UInt8) (p : Nat) : nlEnd l ((l.take p).count 10) ≤ p := by
  induction p with
  | zero => simp [nlEnd_zero]
  | succ p ih =>
    by_cases hp : p < l.length
    · rw [cnt_take_succ l p hp]
      split
      · next hc => rw [nlEnd_here l p (by rw [List.getElem?_eq_getElem hp, hc])]; exact Nat.le_refl _
      · rw [Nat.add_zero]; omega
    · rw [List.take_of_length_le (by omega)] at ih ⊢
      omega

/-- Between a line's begin and a place in it stands no byte 10. -/
theorem nlEnd_clear {l : List UInt8} {p k : Nat} (h1 : nlEnd l ((l.take p).count 10) ≤ k) (h2 : k < p) (hk : k < l.length) : l[k] ≠ 10 := by
  intro hc
  have c1 := cnt_take_mono l h1
  rw [nlEnd_count l _ (cnt_take_le l p)] at c1
  have c2 := cnt_take_succ l k hk
  rw [if_pos hc] at c2
  have c3 := cnt_take_mono l (show k + 1 ≤ p by omega)
  omega
end Go.Proofs.Ytnmlijngnnlejaa
