/- Chapter 5 in plain Lean: the document's tokens. -/
import Derived.Test.YthbicbfdldpemaaPhSpec
namespace Go.Proofs.Ythbicbfdldpemaa

/-- a character; 0 beyond the end -/
def chAt (A : List UInt8) (i : Nat) : UInt8 := A.getD i 0

def letterB (c : UInt8) : Bool := decide (97 ≤ c ∧ c ≤ 122 ∨ 65 ≤ c ∧ c ≤ 90 ∨ c = 95)
def digitB (c : UInt8) : Bool := decide (48 ≤ c ∧ c ≤ 57)
def whiteB (c : UInt8) : Bool := decide (c = 32 ∨ c = 9 ∨ 11 ≤ c ∧ c ≤ 13)

/-- letters ahead of a constant's quote -/
def lettersL (A : List UInt8) (i : Nat) : Int :=
  if chAt A i = 34 ∨ chAt A i = 39 then 0
  else if chAt A i = 117 ∧ chAt A (i + 1) = 56 ∧ chAt A (i + 2) = 34 then 2
  else if (chAt A i = 76 ∨ chAt A i = 117 ∨ chAt A i = 85) ∧ (chAt A (i + 1) = 34 ∨ chAt A (i + 1) = 39) then 1
  else -1

/-- where a constant ends: behind its quote; 0: it does not -/
def quoL (q : UInt8) : Nat → List UInt8 → Nat
  | _, [] => 0
  | j, [c] => if c = 10 then 0 else if c = q then j + 1 else 0
  | j, c :: d :: r => if c = 10 then 0 else if c = 92 ∧ d ≠ 10 then quoL q (j + 2) r else if c = q then j + 1 else quoL q (j + 1) (d :: r)

def quotedL (A : List UInt8) (i : Nat) : Nat := quoL (chAt A i) (i + 1) (A.drop (i + 1))

def expB (c d : UInt8) : Bool := decide ((c = 101 ∨ c = 69 ∨ c = 112 ∨ c = 80) ∧ (d = 43 ∨ d = 45))
def numB (c : UInt8) : Bool := letterB c || digitB c || decide (c = 46)

/-- how many characters more a number has -/
def numRun : List UInt8 → Nat
  | [] => 0
  | [c] => if numB c then 1 else 0
  | c :: d :: r => if expB c d then numRun r + 2 else if numB c then numRun (d :: r) + 1 else 0

def numL (A : List UInt8) (i : Nat) : Nat :=
  if digitB (chAt A i) ∨ chAt A i = 46 ∧ digitB (chAt A (i + 1)) then i + 1 + numRun (A.drop (i + 1)) else i

def idB (c : UInt8) : Bool := letterB c || digitB c

def punctsL : List (List UInt8) := [[37, 58, 37, 58], [46, 46, 46], [60, 60, 61], [62, 62, 61], [45, 62], [43, 43], [45, 45], [60, 60], [62, 62], [60, 61], [62, 61], [61, 61], [33, 61], [38, 38], [124, 124], [42, 61], [47, 61], [37, 61], [43, 61], [45, 61], [38, 61], [94, 61], [124, 61], [35, 35], [60, 58], [58, 62], [60, 37], [37, 62], [37, 58], [91], [93], [40], [41], [123], [125], [46], [38], [42], [43], [45], [126], [33], [47], [37], [60], [62], [94], [124], [63], [58], [59], [61], [44], [35]]

/-- how long a punctuator begins; 0: none -/
def punctL (A : List UInt8) (i : Nat) : Nat := ((punctsL.find? fun p => p.isPrefixOf (A.drop i)).map List.length).getD 0

/-- where a comment ends -/
def comEnd : Nat → List UInt8 → Option Nat
  | _, [] => none
  | _, [_] => none
  | j, c :: d :: r => if c = 42 ∧ d = 47 then some (j + 2) else comEnd (j + 1) (d :: r)

def commentL (A : List UInt8) (i : Nat) : Nat × Bool :=
  if chAt A i ≠ 47 then (i, false)
  else if chAt A (i + 1) = 47 then (i + ((A.drop i).takeWhile (· != 10)).length, false)
  else if chAt A (i + 1) ≠ 42 then (i, false)
  else match comEnd (i + 2) (A.drop (i + 2)) with
    | some e => (e, false)
    | none => (A.length, true)

/-- a token: its kind, where it ends, whether its quote does not end -/
def nextL (A : List UInt8) (i : Nat) : Nat × Nat × Bool :=
  if 0 ≤ lettersL A i ∧ 0 < quotedL A (i + (lettersL A i).toNat) ∧ chAt A (i + (lettersL A i).toNat) = 34 then (4, quotedL A (i + (lettersL A i).toNat), false)
  else if 0 ≤ lettersL A i ∧ 0 < quotedL A (i + (lettersL A i).toNat) then (3, quotedL A (i + (lettersL A i).toNat), false)
  else if lettersL A i = 0 then (6, i + 1, true)
  else if letterB (chAt A i) then (1, i + 1 + ((A.drop (i + 1)).takeWhile idB).length, false)
  else if i < numL A i then (2, numL A i, false)
  else if 0 < punctL A i then (5, i + punctL A i, false)
  else (6, i + 1, false)

/-! ## steps -/

theorem chAt_ge {A : List UInt8} {i : Nat} (h : A.length ≤ i) : chAt A i = 0 := by
  simp [chAt, List.getD_eq_getElem?_getD, List.getElem?_eq_none h]

theorem chAt_lt {A : List UInt8} {i : Nat} {c : UInt8} (h : A[i]? = some c) : chAt A i = c := by
  simp [chAt, List.getD_eq_getElem?_getD, h]

theorem drop_at {A : List UInt8} {i : Nat} (h : i < A.length) : A.drop i = chAt A i :: A.drop (i + 1) := by
  rw [List.drop_eq_getElem_cons h, chAt_lt (List.getElem?_eq_getElem h)]

theorem quo_end {q : UInt8} {A : List UInt8} {j : Nat} (h : A.length ≤ j) : quoL q j (A.drop j) = 0 := by
  rw [List.drop_eq_nil_of_le h]; rfl

theorem quo_step {q : UInt8} {A : List UInt8} {j : Nat} (h : j < A.length) : quoL q j (A.drop j) =
    if chAt A j = 10 then 0 else if chAt A j = 92 ∧ j + 1 < A.length ∧ chAt A (j + 1) ≠ 10 then quoL q (j + 2) (A.drop (j + 2)) else if chAt A j = q then j + 1 else quoL q (j + 1) (A.drop (j + 1)) := by
  rw [drop_at h]
  by_cases h1 : j + 1 < A.length
  · rw [drop_at h1]
    simp [quoL, h1]
  · rw [List.drop_eq_nil_of_le (by omega)]
    simp [quoL, h1]

theorem num_end {A : List UInt8} {j : Nat} (h : A.length ≤ j) : numRun (A.drop j) = 0 := by
  rw [List.drop_eq_nil_of_le h]; rfl

theorem num_step {A : List UInt8} {j : Nat} (h : j < A.length) : numRun (A.drop j) =
    if expB (chAt A j) (chAt A (j + 1)) then numRun (A.drop (j + 2)) + 2 else if numB (chAt A j) then numRun (A.drop (j + 1)) + 1 else 0 := by
  rw [drop_at h]
  by_cases h1 : j + 1 < A.length
  · rw [drop_at h1]
    simp [numRun]
  · rw [List.drop_eq_nil_of_le (by omega : A.length ≤ j + 1), chAt_ge (by omega : A.length ≤ j + 1)]
    have : expB (chAt A j) 0 = false := by simp [expB]
    simp [numRun, this]

theorem while_end {p : UInt8 → Bool} {A : List UInt8} {j : Nat} (h : A.length ≤ j) : ((A.drop j).takeWhile p).length = 0 := by
  rw [List.drop_eq_nil_of_le h]; rfl

theorem while_step {p : UInt8 → Bool} {A : List UInt8} {j : Nat} (h : j < A.length) : ((A.drop j).takeWhile p).length = if p (chAt A j) then ((A.drop (j + 1)).takeWhile p).length + 1 else 0 := by
  rw [drop_at h, List.takeWhile_cons]
  split <;> simp

theorem com_end {A : List UInt8} {j : Nat} (h : A.length ≤ j) : comEnd j (A.drop j) = none := by
  rw [List.drop_eq_nil_of_le h]; rfl

theorem com_step {A : List UInt8} {j : Nat} (h : j < A.length) : comEnd j (A.drop j) = if chAt A j = 42 ∧ chAt A (j + 1) = 47 then some (j + 2) else comEnd (j + 1) (A.drop (j + 1)) := by
  rw [drop_at h]
  by_cases h1 : j + 1 < A.length
  · rw [drop_at h1]
    simp [comEnd]
  · rw [List.drop_eq_nil_of_le (by omega : A.length ≤ j + 1), chAt_ge (by omega : A.length ≤ j + 1)]
    simp [comEnd]
end Go.Proofs.Ythbicbfdldpemaa
