/- Chapter 5 in plain Lean: lines. -/
import Derived.Test.YthbicbfdldpemaaLx7
namespace Go.Proofs.Ythbicbfdldpemaa
set_option linter.unusedVariables false

structure Tk where
  (kind : Nat) (text : List UInt8) (space : Bool) (f t : Nat)
structure Ln where
  (toks : List Tk) (f t : Nat) (op : Bool)
structure Dg where
  (code f t : Nat)
structure LS where
  (i : Nat) (toks : List Tk) (from_ : Nat) (space : Bool) (out : List Ln) (diags : List Dg)

def rF (R : List Rn) (i : Nat) : Nat := ((R[i]?).map (·.f)).getD 0
def rT (R : List Rn) (i : Nat) : Nat := ((R[i]?).map (·.t)).getD 0

def tokAt (R : List Rn) (s : LS) : Tk := ⟨(nextL (cs R) s.i).1, ((cs R).drop s.i).take ((nextL (cs R) s.i).2.1 - s.i), s.space, rF R s.i, rT R ((nextL (cs R) s.i).2.1 - 1)⟩

def lineStep (R : List Rn) (n : Nat) (s : LS) : LS ⊕ (List Ln × List Dg) :=
  if chAt (cs R) s.i = 10 then .inl ⟨s.i + 1, [], rT R s.i, false, s.out ++ [⟨s.toks, s.from_, rT R s.i, false⟩], s.diags⟩
  else if whiteB (chAt (cs R) s.i) then .inl ⟨s.i + 1, s.toks, s.from_, true, s.out, s.diags⟩
  else if s.i < (commentL (cs R) s.i).1 then
    if (commentL (cs R) s.i).2 then .inr (s.out ++ [⟨s.toks, s.from_, n, true⟩], s.diags ++ [⟨1, rF R s.i, rT R (s.i + 1)⟩])
    else .inl ⟨(commentL (cs R) s.i).1, s.toks, s.from_, true, s.out, s.diags⟩
  else .inl ⟨(nextL (cs R) s.i).2.1, s.toks ++ [tokAt R s], s.from_, false, s.out, if (nextL (cs R) s.i).2.2 then s.diags ++ [⟨2, rF R s.i, rT R ((nextL (cs R) s.i).2.1 - 1)⟩] else s.diags⟩

/-- the last line goes to the text's end -/
def finL (n : Nat) : List Ln → List Ln
  | [] => []
  | [l] => [⟨l.toks, l.f, n, l.op⟩]
  | l :: m :: r => l :: finL n (m :: r)

def linesRun (R : List Rn) (n : Nat) : Nat → LS → List Ln × List Dg
  | 0, s => (finL n s.out, s.diags)
  | k + 1, s => if s.i < R.length then match lineStep R n s with
      | .inl s' => linesRun R n k s'
      | .inr r => r
    else (finL n s.out, s.diags)

def linesL (text : List UInt8) : List Ln × List Dg := linesRun (charsL text) text.length ((charsL text).length + 1) ⟨0, [], 0, false, [], []⟩

/-! ## bounds -/

theorem quoL_le (q : UInt8) : ∀ (k : Nat) (l : List UInt8) (j : Nat), l.length ≤ k → quoL q j l ≤ j + l.length ∧ (0 < quoL q j l → j < quoL q j l) := by
  intro k
  induction k with
  | zero => intro l j h; have := List.eq_nil_of_length_eq_zero (by omega : l.length = 0); subst this; simp [quoL]
  | succ k ih =>
    intro l j h
    match l, h with
    | [], _ => simp [quoL]
    | [c], _ => simp only [quoL]; repeat' split
                all_goals simp
    | c :: d :: r, h =>
      simp only [List.length_cons] at h
      have h1 := ih r (j + 2) (by omega)
      have h2 := ih (d :: r) (j + 1) (by simp; omega)
      simp only [List.length_cons] at h2
      simp only [quoL, List.length_cons]
      repeat' split
      all_goals first | omega | (constructor <;> omega)

theorem quotedL_le (A : List UInt8) (i : Nat) (h : 0 < quotedL A i) : i + 1 < quotedL A i ∧ quotedL A i ≤ A.length := by
  have := quoL_le (chAt A i) _ (A.drop (i + 1)) (i + 1) (Nat.le_refl _)
  unfold quotedL at h ⊢
  rw [List.length_drop] at this
  have h2 := this.2 h
  omega

theorem numL_len {A : List UInt8} {i : Nat} (h : i < A.length) : numL A i ≤ A.length := by
  unfold numL
  split
  · have := numRun_le (A.drop (i + 1))
    rw [List.length_drop] at this
    omega
  · omega

theorem punctL_len (A : List UInt8) (i : Nat) (h : i ≤ A.length) : i + punctL A i ≤ A.length := by
  unfold punctL
  cases hf : punctsL.find? fun p => p.isPrefixOf (A.drop i) with
  | none => simpa using h
  | some p =>
    have := List.find?_some hf
    have h2 := (List.isPrefixOf_iff_prefix.1 this).length_le
    rw [List.length_drop] at h2
    simp only [Option.map_some, Option.getD_some]
    omega

theorem restL_len {A : List UInt8} {i : Nat} (h : i < A.length) : i < (restL A i).2.1 ∧ (restL A i).2.1 ≤ A.length := by
  unfold restL
  split
  · have := takeWhile_le idB (A.drop (i + 1))
    rw [List.length_drop] at this
    simp only
    omega
  · split
    · exact ⟨by assumption, numL_len h⟩
    · split
      · have := punctL_len A i (by omega)
        simp only
        omega
      · simp only
        omega

theorem nextL_len {A : List UInt8} {i : Nat} (h : i < A.length) : i < (nextL A i).2.1 ∧ (nextL A i).2.1 ≤ A.length := by
  rw [nextI]
  split
  · rename_i hc
    have := quotedL_le A _ hc.2.1
    simp only
    omega
  · split
    · rename_i hc
      have := quotedL_le A _ hc.2
      simp only
      omega
    · split
      · simp only
        omega
      · exact restL_len h

theorem comEnd_le : ∀ (l : List UInt8) (j e : Nat), comEnd j l = some e → j < e ∧ e ≤ j + l.length := by
  intro l
  induction l with
  | nil => intro j e h; simp [comEnd] at h
  | cons c l ih =>
    intro j e h
    cases l with
    | nil => simp [comEnd] at h
    | cons d r =>
      simp only [comEnd] at h
      split at h
      · simp only [Option.some.injEq] at h
        subst h
        simp only [List.length_cons]
        omega
      · have := ih (j + 1) e h
        simp only [List.length_cons] at this ⊢
        omega

theorem commentL_len {A : List UInt8} {i : Nat} (h : i < A.length) : i ≤ (commentL A i).1 ∧ (commentL A i).1 ≤ A.length := by
  unfold commentL
  split
  · simp only; omega
  · split
    · have := takeWhile_le (· != 10) (A.drop i)
      rw [List.length_drop] at this
      simp only
      omega
    · split
      · simp only; omega
      · cases hc : comEnd (i + 2) (A.drop (i + 2)) with
        | none => simp only; omega
        | some e =>
          have := comEnd_le _ _ _ hc
          rw [List.length_drop] at this
          simp only
          omega

theorem lineStep_i {R : List Rn} {n : Nat} {s s' : LS} (hi : s.i < R.length) (h : lineStep R n s = .inl s') : s.i < s'.i ∧ s'.i ≤ R.length := by
  have hl : s.i < (cs R).length := by rw [cs_len]; exact hi
  have h1 := nextL_len hl
  have h2 := commentL_len hl
  rw [cs_len] at h1 h2
  unfold lineStep at h
  repeat' split at h
  all_goals first
    | (injection h with h; subst h; simp only; omega)
    | cases h

theorem linesRun_enough (R : List Rn) (n : Nat) : ∀ (k a b : Nat) (s : LS), R.length - s.i ≤ k → R.length < a + s.i → R.length < b + s.i → linesRun R n a s = linesRun R n b s := by
  intro k
  induction k with
  | zero =>
    intro a b s hk ha hb
    have hni : ¬ s.i < R.length := by omega
    cases a <;> cases b <;> simp [linesRun, hni]
  | succ k ih =>
    intro a b s hk ha hb
    by_cases hi : s.i < R.length
    · cases a with
      | zero => omega
      | succ a =>
        cases b with
        | zero => omega
        | succ b =>
          simp only [linesRun, if_pos hi]
          cases hs : lineStep R n s with
          | inr r => rfl
          | inl s' =>
            have := lineStep_i hi hs
            exact ih a b s' (by omega) (by omega) (by omega)
    · cases a <;> cases b <;> simp [linesRun, hi]

/-- what is to come from a state on -/
def linesFrom (R : List Rn) (n : Nat) (s : LS) : List Ln × List Dg := linesRun R n (R.length + 1) s

theorem linesFrom_end {R : List Rn} {n : Nat} {s : LS} (h : ¬ s.i < R.length) : linesFrom R n s = (finL n s.out, s.diags) := by
  simp [linesFrom, linesRun, h]

theorem linesFrom_inl {R : List Rn} {n : Nat} {s s' : LS} (hi : s.i < R.length) (h : lineStep R n s = .inl s') : linesFrom R n s = linesFrom R n s' := by
  have := lineStep_i hi h
  unfold linesFrom
  rw [show linesRun R n (R.length + 1) s = linesRun R n R.length s' by simp [linesRun, hi, h]]
  exact linesRun_enough R n _ _ _ s' (Nat.le_refl _) (by omega) (by omega)

theorem linesFrom_inr {R : List Rn} {n : Nat} {s : LS} {r : List Ln × List Dg} (hi : s.i < R.length) (h : lineStep R n s = .inr r) : linesFrom R n s = r := by
  simp [linesFrom, linesRun, hi, h]
end Go.Proofs.Ythbicbfdldpemaa
