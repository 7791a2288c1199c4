/- TreeDeep: the plain law; two rows of nodes that grow side by side. -/
import Derived.Test.YtcafiaoinonpgaaTreeFindsSpec
namespace Go.Proofs.Ytcafiaoinonpgaa
open Go.RowKit
set_option linter.unusedVariables false

def bUp : ByteArray := ⟨#[117, 112]⟩
def bSide : ByteArray := ⟨#[115, 105, 100, 101]⟩
def sideT : T := .mk bSide ⟨#[]⟩ 0 0 []
def deepX (wide : Nat) : Nat → T
  | 0 => .mk bLeaf ⟨#[120]⟩ 0 1 []
  | m + 1 => .mk bUp ⟨#[]⟩ 0 1 (deepX wide m :: List.replicate wide sideT)
def deepY (wide : Nat) (r : Int) : Nat → T
  | 0 => .mk bLeaf ⟨#[120]⟩ 0 1 []
  | m + 1 => .mk bUp (if (m : Int) + 1 = r then ⟨#[121]⟩ else ⟨#[]⟩) 0 1 (deepY wide r m :: List.replicate wide sideT)

theorem sides_size (n : Nat) : T.sizes (List.replicate n sideT) = n := by
  induction n with
  | zero => rfl
  | succ n ih => rw [List.replicate_succ, T.sizes, ih, show T.size sideT = 1 from rfl]; omega

theorem deep_size (wide m : Nat) : T.size (deepX wide m) = (m + 1) + m * wide := by
  induction m with
  | zero => simp [deepX, T.size, T.sizes]
  | succ m ih => simp [deepX, T.size, T.sizes, ih, sides_size, Nat.add_mul]; omega

theorem sides_out (n : Nat) : (T.outs (List.replicate n sideT)).count 40 = n ∧ (T.outs (List.replicate n sideT)).length = 7 * n := by
  induction n with
  | zero => simp [T.outs]
  | succ n ih =>
    rw [List.replicate_succ]
    have h : T.out sideT = [40, 115, 105, 100, 101, 41] := by decide
    simp only [T.outs, h, List.count_append, List.length_append, ih.1, ih.2]
    constructor
    · rw [show List.count 40 ([32, 40, 115, 105, 100, 101, 41] : List UInt8) = 1 by decide]; omega
    · simp; omega

theorem deep_out (wide m : Nat) : (T.out (deepX wide m)).count 40 = (m + 1) + m * wide ∧ (T.out (deepX wide m)).length = 8 + m * (5 + 7 * wide) := by
  induction m with
  | zero =>
    have h : T.out (deepX wide 0) = [40, 108, 101, 97, 102, 32, 120, 41] := by simp [deepX]; decide
    rw [h]
    simp
  | succ m ih =>
    have h : T.out (deepX wide (m + 1)) = [40, 117, 112] ++ [32] ++ T.out (deepX wide m) ++ T.outs (List.replicate wide sideT) ++ [41] := by
      simp [deepX, T.out, T.outs, bUp]
      rfl
    rw [h]
    have hs := sides_out wide
    simp only [List.count_append, List.length_append, ih.1, ih.2, hs.1, hs.2]
    rw [show List.count 40 ([40, 117, 112] : List UInt8) = 1 by decide, show List.count 40 ([32] : List UInt8) = 0 by decide, show List.count 40 ([41] : List UInt8) = 0 by decide]
    simp [Nat.add_mul]
    omega

theorem T.sames_refl_of {l : List T} (h : ∀ x ∈ l, T.same x x = true) : T.sames l l = true := by
  induction l with
  | nil => simp [T.sames]
  | cons a l ih => simp [T.sames, h a (by simp), ih (fun x hx => h x (by simp [hx]))]

theorem T.same_refl : ∀ t : T, T.same t t = true := by
  intro t
  induction t using T.ind with
  | h k t f o ks ih => simp [T.same, T.sames_refl_of ih]

theorem deep_same (wide m : Nat) (r : Int) : T.same (deepX wide m) (deepY wide r m) = decide (¬ (1 ≤ r ∧ r ≤ m)) := by
  induction m with
  | zero =>
    have : ¬ (1 ≤ r ∧ r ≤ ((0 : Nat) : Int)) := by intro h; have := h.1; have := h.2; simp at *; omega
    rw [decide_eq_true this]
    exact T.same_refl _
  | succ m ih =>
    have hs : T.sames (List.replicate wide sideT) (List.replicate wide sideT) = true := T.sames_refl_of fun x _ => T.same_refl x
    simp only [deepX, deepY, T.same, T.sames, hs, ih]
    by_cases h : (m : Int) + 1 = r
    · rw [if_pos h]
      have h1 : ¬ ((⟨#[]⟩ : ByteArray) = ⟨#[121]⟩) := by decide
      have h2 : (1 ≤ r ∧ r ≤ ((m + 1 : Nat) : Int)) := by push_cast; omega
      have h3 : decide (¬ (1 ≤ r ∧ r ≤ ((m + 1 : Nat) : Int))) = false := decide_eq_false (fun hn => hn h2)
      rw [h3]
      simp [h1]
    · rw [if_neg h]
      have h3 : decide (¬ (1 ≤ r ∧ r ≤ ((m + 1 : Nat) : Int))) = decide (¬ (1 ≤ r ∧ r ≤ (m : Int))) := by
        congr 1
        apply propext
        push_cast
        omega
      rw [h3]
      simp

theorem side_leaves (n : Nat) : T.leavess (List.replicate n sideT) = [] := by
  induction n with
  | zero => rfl
  | succ n ih => rw [List.replicate_succ]; simp only [T.leavess, ih]; decide

theorem deep_leaves (wide m : Nat) : T.leaves (deepX wide m) = [0] := by
  induction m with
  | zero => simp [deepX]; decide
  | succ m ih => simp [deepX, T.leaves, T.leavess, ih, side_leaves]

theorem deep_has (wide m : Nat) : (deepX wide m).has 0 := by cases m <;> simp [deepX, T.has, T.from_, T.to_]

theorem deep_way (wide m : Nat) (l : List ByteArray) (h : Way 0 (deepX wide m) l) : l.length = m + 1 := by
  induction m generalizing l with
  | zero =>
    cases h with
    | stop => rfl
    | go j hj => simp [deepX, T.kids] at hj
  | succ m ih =>
    have hk : (deepX wide (m + 1)).kids[0]? = some (deepX wide m) := by simp [deepX, T.kids]
    cases h with
    | stop h => exact absurd (deep_has wide m) (h _ (List.mem_of_getElem? hk))
    | @go _ y l' i hi hy hn hw =>
      cases i with
      | zero =>
        rw [hk] at hi
        obtain rfl := Option.some.inj hi
        simp [ih l' hw]
      | succ i => exact absurd (deep_has wide m) (hn 0 _ (Nat.succ_pos _) hk)

/-! ## the number that Round gives -/

def rnd (a n : Int) : Int := (a.tmod n + n).tmod n

theorem rnd_range (a n : Int) (h : 0 < n) : 0 ≤ rnd a n ∧ rnd a n < n := by
  have h1 : -n < a.tmod n := by
    have := Int.lt_tmod_of_pos a h
    exact this
  have h2 : 0 ≤ a.tmod n + n := by omega
  unfold rnd
  rw [Int.tmod_eq_emod_of_nonneg h2]
  exact ⟨Int.emod_nonneg _ (by omega), Int.emod_lt_of_pos _ h⟩
end Go.Proofs.Ytcafiaoinonpgaa
