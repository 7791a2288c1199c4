/- Texts of this seat's proofs, laid into one file. -/
set_option maxRecDepth 100000
set_option maxHeartbeats 16000000
namespace Go.Proofs.YtllbbacnakoomaaGreatDoor
def tri (c : UInt8) : Option UInt8 :=
 if c = 61 then some 35 else if c = 47 then some 92 else if c = 39 then some 94 else if c = 40 then some 91
 else if c = 41 then some 93 else if c = 33 then some 124 else if c = 60 then some 123 else if c = 62 then some 125
 else if c = 45 then some 126 else none
structure Rn where
 c : UInt8
 f : Nat
 t : Nat
 deriving DecidableEq
def plainL : Nat → List UInt8 → List Rn
 | p, a :: b :: c :: r => if a = 63 ∧ b = 63 ∧ (tri c).isSome then ⟨(tri c).getD 0, p, p + 3⟩ :: plainL (p + 3) r else ⟨a, p, p + 1⟩ :: plainL (p + 1) (b :: c :: r)
 | p, a :: r => ⟨a, p, p + 1⟩ :: plainL (p + 1) r
 | _, [] => []
def splicedL : List Rn → List Rn
 | a :: b :: r => if a.c = 92 ∧ b.c = 10 then splicedL r else a :: splicedL (b :: r)
 | l => l
def standL (l : List UInt8) : List Rn := splicedL (plainL 0 l)
def charsL (l : List UInt8) : List Rn := if l ≠ [] ∧ (standL l = [] ∨ ((standL l).getLast?.map (·.c)) ≠ some 10) then standL l ++ [⟨10, l.length, l.length⟩] else standL l
def pickL (l : List Rn) (a b : Int) : List UInt8 := (l.filter fun r => decide (a ≤ (r.f : Int)) && decide ((r.t : Int) ≤ b)).map (·.c)
def backL (l : List UInt8) (a b : Int) : List UInt8 := pickL (standL l) a b
theorem pickL_snoc (l : List Rn) (r : Rn) (a b : Int) : pickL (l ++ [r]) a b = if a ≤ (r.f : Int) ∧ (r.t : Int) ≤ b then pickL l a b ++ [r.c] else pickL l a b := by
 unfold pickL
 by_cases h : a ≤ (r.f : Int) ∧ (r.t : Int) ≤ b
 ·rw [if_pos h]; simp [List.filter_append, h.1, h.2]
 ·rw [if_neg h, List.filter_append]
  have : (decide (a ≤ (r.f : Int)) && decide ((r.t : Int) ≤ b)) = false := by simpa [not_and] using h
  simp [this]
theorem pickL_len (l : List Rn) (a b : Int) : (pickL l a b).length ≤ l.length := by
 unfold pickL; rw [List.length_map]; exact List.length_filter_le ..
def hp2 (l : List UInt8) : Bool := [63,63].isPrefixOf l
def oneAt (l : List UInt8) (k : Nat) : Rn :=
 if hp2 (l.drop k) then
  match (l[k + 2]?).bind tri with
  | some d => ⟨d, k, k + 3⟩
  | none => ⟨63, k, k + 1⟩
 else ⟨l.getD k 0, k, k + 1⟩
theorem oneAt_lt {l : List UInt8} {k : Nat} (hk : k < l.length) : (oneAt l k).f = k ∧ k < (oneAt l k).t ∧ (oneAt l k).t ≤ l.length ∧ (oneAt l k).t ≤ k + 3 := by
 unfold oneAt
 split
 ·split
  ·rename_i d hd
   have h2 : k + 2 < l.length := by
    rcases Nat.lt_or_ge (k + 2) l.length with h | h
    ·exact h
    ·rw [List.getElem?_eq_none h] at hd; simp at hd
   exact ⟨rfl, by simp, h2, by simp⟩
  ·exact ⟨rfl, by simp, hk, by simp⟩
 ·exact ⟨rfl, by simp, hk, by simp⟩
theorem tri_ne10 (c : UInt8) (d : UInt8) (h : tri c = some d) : d ≠ 10 := by
 unfold tri at h
 (repeat' split at h) <;> first | (simp only [Option.some.injEq] at h; subst h; decide) | cases h
theorem plainL_step {l : List UInt8} {k : Nat} (hk : k < l.length) : plainL k (l.drop k) = oneAt l k :: plainL (oneAt l k).t (l.drop (oneAt l k).t) := by
 obtain ⟨a, r, hd⟩ : ∃ a r, l.drop k = a :: r := by
  cases h : l.drop k with
  | nil => simp at h; omega
  | cons a r => exact ⟨a, r, rfl⟩
 have hget : ∀ i, (a :: r)[i]? = l[k + i]? := fun i => by rw [← hd, List.getElem?_drop]
 have hg0 : l.getD k 0 = a := by rw [List.getD_eq_getElem?_getD]; have := hget 0; simp at this; rw [← this]; rfl
 have d1 : l.drop (k + 1) = r := by rw [← List.drop_drop, hd]; rfl
 match r, hd, hget, d1 with
 | [], hd, hget, d1 =>
   have : oneAt l k = ⟨a, k, k + 1⟩ := by unfold oneAt; rw [hd, if_neg (by simp [hp2, List.isPrefixOf]), hg0]
   rw [this, hd, d1]; rfl
 | [b], hd, hget, d1 =>
   have h2 := hget 2
   simp at h2
   have : oneAt l k = ⟨a, k, k + 1⟩ := by
    unfold oneAt
    rw [hd, hg0]
    split
    ·rename_i hp
     simp [hp2, List.isPrefixOf] at hp
     rw [List.getElem?_eq_none h2, ← hp.1]; rfl
    ·rfl
   rw [this, hd, d1]; rfl
 | b :: c :: r, hd, hget, d1 =>
   have h2 := hget 2
   simp at h2
   have d3 : l.drop (k + 3) = r := by rw [← List.drop_drop, hd]; rfl
   by_cases ha : a = 63 ∧ b = 63
   ·obtain ⟨rfl, rfl⟩ := ha
    cases ht : tri c with
    | none =>
      have : oneAt l k = ⟨63, k, k + 1⟩ := by unfold oneAt; rw [hd, if_pos (by simp [hp2, List.isPrefixOf]), ← h2]; simp [ht]
      rw [this, hd, d1]; simp [plainL, ht]
    | some d =>
      have : oneAt l k = ⟨d, k, k + 3⟩ := by unfold oneAt; rw [hd, if_pos (by simp [hp2, List.isPrefixOf]), ← h2]; simp [ht]
      rw [this, hd, d3]; simp [plainL, ht]
   ·have : oneAt l k = ⟨a, k, k + 1⟩ := by
     unfold oneAt
     rw [hd, if_neg, hg0]
     simp only [hp2, List.isPrefixOf, Bool.and_eq_true, beq_iff_eq, Bool.and_true]
     rintro ⟨h, h'⟩
     exact ha ⟨h.symm, h'.symm⟩
    rw [this, hd, d1]
    simp only [plainL]
    rw [if_neg (fun h => ha ⟨h.1, h.2.1⟩)]
theorem plainL_nil {l : List UInt8} {k : Nat} (hk : l.length ≤ k) : plainL k (l.drop k) = [] := by
 rw [List.drop_eq_nil_of_le hk]; rfl
theorem oneAt_10 {l : List UInt8} {k : Nat} : (oneAt l k).c = 10 ↔ l.getD k 0 = 10 := by
 unfold oneAt
 split
 ·rename_i hp
  have h63 : l.getD k 0 = 63 := by
   cases h : l.drop k with
   | nil => rw [h] at hp; simp [hp2] at hp
   | cons a r =>
     rw [h] at hp
     have ha : a = 63 := by cases r <;> simp [hp2, List.isPrefixOf] at hp; exact hp.1.symm
     have : l[k]? = some a := by have := congrArg (·[0]?) h; simpa using this
     rw [List.getD_eq_getElem?_getD, this, ha]; rfl
  rw [h63]
  split
  ·rename_i d hd
   constructor
   ·intro h
    obtain ⟨c, _, hc⟩ := Option.bind_eq_some_iff.1 hd
    exact (tri_ne10 _ _ hc h).elim
   ·intro h; exact absurd h (by decide)
  ·exact ⟨fun h => absurd (show (63 : UInt8) = 10 from h) (by decide), fun h => absurd h (by decide)⟩
 ·exact Iff.rfl
theorem oneAt_single {l : List UInt8} {k : Nat} (h : l.getD k 0 = 10) : (oneAt l k).t = k + 1 := by
 have h10 := oneAt_10.2 h
 unfold oneAt at h10 ⊢
 split
 ·rename_i hp
  rw [if_pos hp] at h10
  split
  ·rename_i d hd
   simp only [hd] at h10
   obtain ⟨c, _, hc⟩ := Option.bind_eq_some_iff.1 hd
   exact (tri_ne10 _ _ hc h10).elim
  ·rfl
 ·rfl
def standAt (l : List UInt8) (k : Nat) : List Rn := splicedL (plainL k (l.drop k))
theorem standAt_end {l : List UInt8} {k : Nat} (hk : l.length ≤ k) : standAt l k = [] := by
 unfold standAt; rw [plainL_nil hk]; rfl
theorem standAt_skip {l : List UInt8} {k : Nat} (hk : k < l.length) (h92 : (oneAt l k).c = 92) (ht : (oneAt l k).t < l.length) (h10 : l.getD (oneAt l k).t 0 = 10) : standAt l k = standAt l ((oneAt l k).t + 1) := by
 unfold standAt
 rw [plainL_step hk, plainL_step ht, splicedL, if_pos ⟨h92, oneAt_10.2 h10⟩, oneAt_single h10]
theorem standAt_keep {l : List UInt8} {k : Nat} (hk : k < l.length) (h : ¬ ((oneAt l k).c = 92 ∧ (oneAt l k).t < l.length ∧ l.getD (oneAt l k).t 0 = 10)) : standAt l k = oneAt l k :: standAt l (oneAt l k).t := by
 unfold standAt
 rw [plainL_step hk]
 by_cases ht : (oneAt l k).t < l.length
 ·rw [plainL_step ht, splicedL, if_neg (fun hh => h ⟨hh.1, ht, oneAt_10.1 hh.2⟩)]
 ·rw [plainL_nil (by omega)]; rfl
theorem plainL_len : ∀ (n : Nat) (l : List UInt8) (p : Nat), l.length ≤ n → (plainL p l).length ≤ l.length := by
 intro n
 induction n with
 | zero => intro l p h; cases l with
   | nil => simp [plainL]
   | cons a r => simp at h
 | succ n ih =>
   intro l p h
   match l with
   | [] => simp [plainL]
   | [a] => simp [plainL]
   | [a, b] => simp [plainL]
   | a :: b :: c :: r =>
     simp only [plainL]
     split
     ·have := ih r (p + 3) (by simp at h; omega)
      simp; omega
     ·have := ih (b :: c :: r) (p + 1) (by simp at h ⊢; omega)
      simp at this ⊢; omega
theorem splicedL_len : ∀ (n : Nat) (l : List Rn), l.length ≤ n → (splicedL l).length ≤ l.length := by
 intro n
 induction n with
 | zero => intro l h; cases l with
   | nil => simp [splicedL]
   | cons a r => simp at h
 | succ n ih =>
   intro l h
   match l with
   | [] => simp [splicedL]
   | [a] => simp [splicedL]
   | a :: b :: r =>
     simp only [splicedL]
     split
     ·have := ih r (by simp at h; omega)
      simp; omega
     ·have := ih (b :: r) (by simp at h ⊢; omega)
      simp at this ⊢; omega
theorem standL_len (l : List UInt8) : (standL l).length ≤ l.length :=
 Nat.le_trans (splicedL_len _ _ (Nat.le_refl _)) (plainL_len _ _ _ (Nat.le_refl _))
theorem charsL_len (l : List UInt8) : (charsL l).length ≤ l.length + 1 := by
 have := standL_len l
 unfold charsL
 split
 ·simp; omega
 ·omega
theorem standL_eq (l : List UInt8) : standL l = standAt l 0 := by simp [standL, standAt]
end Go.Proofs.YtllbbacnakoomaaGreatDoor
namespace Go.Proofs.YtllbbacnakoomaaGreatDoor
def chAt (A : List UInt8) (i : Nat) : UInt8 := A.getD i 0
def letterB (c : UInt8) : Bool := decide (97 ≤ c ∧ c ≤ 122 ∨ 65 ≤ c ∧ c ≤ 90 ∨ c = 95)
def digitB (c : UInt8) : Bool := decide (48 ≤ c ∧ c ≤ 57)
def whiteB (c : UInt8) : Bool := decide (c = 32 ∨ c = 9 ∨ 11 ≤ c ∧ c ≤ 13)
def lettersL (A : List UInt8) (i : Nat) : Int :=
 if chAt A i = 34 ∨ chAt A i = 39 then 0
 else if chAt A i = 117 ∧ chAt A (i + 1) = 56 ∧ chAt A (i + 2) = 34 then 2
 else if (chAt A i = 76 ∨ chAt A i = 117 ∨ chAt A i = 85) ∧ (chAt A (i + 1) = 34 ∨ chAt A (i + 1) = 39) then 1
 else -1
def quoL (q : UInt8) : Nat → List UInt8 → Nat
 | _, [] => 0
 | j, [c] => if c = 10 then 0 else if c = q then j + 1 else 0
 | j, c :: d :: r => if c = 10 then 0 else if c = 92 ∧ d ≠ 10 then quoL q (j + 2) r else if c = q then j + 1 else quoL q (j + 1) (d :: r)
def quotedL (A : List UInt8) (i : Nat) : Nat := quoL (chAt A i) (i + 1) (A.drop (i + 1))
def expB (c d : UInt8) : Bool := decide ((c = 101 ∨ c = 69 ∨ c = 112 ∨ c = 80) ∧ (d = 43 ∨ d = 45))
def numB (c : UInt8) : Bool := letterB c || digitB c || decide (c = 46)
def numRun : List UInt8 → Nat
 | [] => 0
 | [c] => if numB c then 1 else 0
 | c :: d :: r => if expB c d then numRun r + 2 else if numB c then numRun (d :: r) + 1 else 0
def numL (A : List UInt8) (i : Nat) : Nat :=
 if digitB (chAt A i) ∨ chAt A i = 46 ∧ digitB (chAt A (i + 1)) then i + 1 + numRun (A.drop (i + 1)) else i
def idB (c : UInt8) : Bool := letterB c || digitB c
def punctsL : List (List UInt8) := [[37,58,37,58], [46,46,46], [60,60,61], [62,62,61], [45,62], [43,43], [45,45], [60,60], [62,62], [60,61], [62,61], [61,61], [33,61], [38,38], [124,124], [42,61], [47,61], [37,61], [43,61], [45,61], [38,61], [94,61], [124,61], [35,35], [60,58], [58,62], [60,37], [37,62], [37,58], [91], [93], [40], [41], [123], [125], [46], [38], [42], [43], [45], [126], [33], [47], [37], [60], [62], [94], [124], [63], [58], [59], [61], [44], [35]]
def punctL (A : List UInt8) (i : Nat) : Nat := ((punctsL.find? fun p => p.isPrefixOf (A.drop i)).map List.length).getD 0
def comEnd : Nat → List UInt8 → Option Nat
 | _, [] => none
 | _, [_] => none
 | j, c :: d :: r => if c = 42 ∧ d = 47 then some (j + 2) else comEnd (j + 1) (d :: r)
def commentL (A : List UInt8) (i : Nat) : Nat × Bool :=
 if chAt A i ≠ 47 then (i, false)
 else if chAt A (i + 1) = 47 then (i + ((A.drop i).takeWhile (· != 10)).length, false)
 else if chAt A (i + 1) ≠ 42 then (i, false)
 else match comEnd (i + 2) (A.drop (i + 2)) with
  | some e => (e, false)
  | none => (A.length, true)
def nextL (A : List UInt8) (i : Nat) : Nat × Nat × Bool :=
 if 0 ≤ lettersL A i ∧ 0 < quotedL A (i + (lettersL A i).toNat) ∧ chAt A (i + (lettersL A i).toNat) = 34 then (4, quotedL A (i + (lettersL A i).toNat), false)
 else if 0 ≤ lettersL A i ∧ 0 < quotedL A (i + (lettersL A i).toNat) then (3, quotedL A (i + (lettersL A i).toNat), false)
 else if lettersL A i = 0 then (6, i + 1, true)
 else if letterB (chAt A i) then (1, i + 1 + ((A.drop (i + 1)).takeWhile idB).length, false)
 else if i < numL A i then (2, numL A i, false)
 else if 0 < punctL A i then (5, i + punctL A i, false)
 else (6, i + 1, false)
theorem chAt_ge {A : List UInt8} {i : Nat} (h : A.length ≤ i) : chAt A i = 0 := by
 simp [chAt, List.getD_eq_getElem?_getD, List.getElem?_eq_none h]
theorem chAt_lt {A : List UInt8} {i : Nat} {c : UInt8} (h : A[i]? = some c) : chAt A i = c := by
 simp [chAt, List.getD_eq_getElem?_getD, h]
theorem drop_at {A : List UInt8} {i : Nat} (h : i < A.length) : A.drop i = chAt A i :: A.drop (i + 1) := by
 rw [List.drop_eq_getElem_cons h, chAt_lt (List.getElem?_eq_getElem h)]
theorem quo_end {q : UInt8} {A : List UInt8} {j : Nat} (h : A.length ≤ j) : quoL q j (A.drop j) = 0 := by
 rw [List.drop_eq_nil_of_le h]; rfl
theorem quo_step {q : UInt8} {A : List UInt8} {j : Nat} (h : j < A.length) : quoL q j (A.drop j) =
 if chAt A j = 10 then 0 else if chAt A j = 92 ∧ j + 1 < A.length ∧ chAt A (j + 1) ≠ 10 then quoL q (j + 2) (A.drop (j + 2)) else if chAt A j = q then j + 1 else quoL q (j + 1) (A.drop (j + 1)) := by
 rw [drop_at h]
 by_cases h1 : j + 1 < A.length
 ·rw [drop_at h1]
  simp [quoL, h1]
 ·rw [List.drop_eq_nil_of_le (by omega)]
  simp [quoL, h1]
theorem num_end {A : List UInt8} {j : Nat} (h : A.length ≤ j) : numRun (A.drop j) = 0 := by
 rw [List.drop_eq_nil_of_le h]; rfl
theorem num_step {A : List UInt8} {j : Nat} (h : j < A.length) : numRun (A.drop j) =
 if expB (chAt A j) (chAt A (j + 1)) then numRun (A.drop (j + 2)) + 2 else if numB (chAt A j) then numRun (A.drop (j + 1)) + 1 else 0 := by
 rw [drop_at h]
 by_cases h1 : j + 1 < A.length
 ·rw [drop_at h1]
  simp [numRun]
 ·rw [List.drop_eq_nil_of_le (by omega : A.length ≤ j + 1), chAt_ge (by omega : A.length ≤ j + 1)]
  have : expB (chAt A j) 0 = false := by simp [expB]
  simp [numRun, this]
theorem while_end {p : UInt8 → Bool} {A : List UInt8} {j : Nat} (h : A.length ≤ j) : ((A.drop j).takeWhile p).length = 0 := by
 rw [List.drop_eq_nil_of_le h]; rfl
theorem while_step {p : UInt8 → Bool} {A : List UInt8} {j : Nat} (h : j < A.length) : ((A.drop j).takeWhile p).length = if p (chAt A j) then ((A.drop (j + 1)).takeWhile p).length + 1 else 0 := by
 rw [drop_at h, List.takeWhile_cons]
 split <;> simp
theorem com_end {A : List UInt8} {j : Nat} (h : A.length ≤ j) : comEnd j (A.drop j) = none := by
 rw [List.drop_eq_nil_of_le h]; rfl
theorem com_step {A : List UInt8} {j : Nat} (h : j < A.length) : comEnd j (A.drop j) = if chAt A j = 42 ∧ chAt A (j + 1) = 47 then some (j + 2) else comEnd (j + 1) (A.drop (j + 1)) := by
 rw [drop_at h]
 by_cases h1 : j + 1 < A.length
 ·rw [drop_at h1]
  simp [comEnd]
 ·rw [List.drop_eq_nil_of_le (by omega : A.length ≤ j + 1), chAt_ge (by omega : A.length ≤ j + 1)]
  simp [comEnd]
end Go.Proofs.YtllbbacnakoomaaGreatDoor
namespace Go.Proofs.YtllbbacnakoomaaGreatDoor
def Chain (N : Nat) : Nat → List Rn → Prop
 | _, [] => True
 | p, r :: rs => p ≤ r.f ∧ r.f ≤ r.t ∧ r.t ≤ N ∧ r.t - r.f ≤ 3 ∧ Chain N r.t rs
theorem Chain.weak {N p q : Nat} {l : List Rn} (h : Chain N p l) (hq : q ≤ p) : Chain N q l := by
 cases l with
 | nil => trivial
 | cons r rs => exact ⟨Nat.le_trans hq h.1, h.2⟩
theorem plainL_chain (N : Nat) : ∀ (n : Nat) (l : List UInt8) (p : Nat), l.length ≤ n → p + l.length ≤ N → Chain N p (plainL p l) := by
 intro n
 induction n with
 | zero => intro l p h _; cases l with
   | nil => simp [plainL, Chain]
   | cons a r => simp at h
 | succ n ih =>
   intro l p h hN
   match l with
   | [] => simp [plainL, Chain]
   | [a] => simp [plainL, Chain]; simp at hN; omega
   | [a, b] => simp [plainL, Chain]; simp at hN; omega
   | a :: b :: c :: r =>
     simp only [List.length_cons] at h hN
     simp only [plainL]
     split
     ·exact ⟨Nat.le_refl _, by simp, by simp; omega, by simp, ih r (p + 3) (by omega) (by omega)⟩
     ·exact ⟨Nat.le_refl _, by simp, by simp; omega, by simp, ih (b :: c :: r) (p + 1) (by simp; omega) (by simp; omega)⟩
theorem splicedL_chain (N : Nat) : ∀ (n : Nat) (l : List Rn) (p : Nat), l.length ≤ n → Chain N p l → Chain N p (splicedL l) := by
 intro n
 induction n with
 | zero => intro l p h _; cases l with
   | nil => simp [splicedL, Chain]
   | cons a r => simp at h
 | succ n ih =>
   intro l p h hc
   match l with
   | [] => simp [splicedL, Chain]
   | [a] => simpa [splicedL] using hc
   | a :: b :: r =>
     simp only [List.length_cons] at h
     obtain ⟨h1, h2, h3, h4, h5, h6, h7, h8, h9⟩ := hc
     simp only [splicedL]
     split
     ·exact (ih r b.t (by omega) h9).weak (by omega)
     ·exact ⟨h1, h2, h3, h4, ih (b :: r) a.t (by simp; omega) ⟨h5, h6, h7, h8, h9⟩⟩
theorem Chain.snoc {N : Nat} : ∀ {l : List Rn} {p : Nat} {r : Rn}, Chain N p l → p ≤ N → r.f = N → r.t = N → Chain N p (l ++ [r])
 | [], p, r, _, hp, h1, h2 => ⟨by omega, by omega, by omega, by omega, trivial⟩
 | a :: l, p, r, h, hp, h1, h2 => ⟨h.1, h.2.1, h.2.2.1, h.2.2.2.1, h.2.2.2.2.snoc h.2.2.1 h1 h2⟩
theorem standL_chain (l : List UInt8) : Chain l.length 0 (standL l) :=
 splicedL_chain _ _ _ _ (Nat.le_refl _) (plainL_chain _ _ _ _ (Nat.le_refl _) (by omega))
theorem charsL_chain (l : List UInt8) : Chain l.length 0 (charsL l) := by
 unfold charsL
 split
 ·exact (standL_chain l).snoc (Nat.zero_le _) rfl rfl
 ·exact standL_chain l
def atOf (l : List Rn) (k : Nat) : Nat := (((l.take k).getLast?).map (·.t)).getD 0
theorem atOf_zero (l : List Rn) : atOf l 0 = 0 := by simp [atOf]
theorem atOf_succ {l : List Rn} {k : Nat} {r : Rn} (h : l[k]? = some r) : atOf l (k + 1) = r.t := by
 simp [atOf, List.take_add_one, h]
theorem Chain.at {N : Nat} : ∀ {l : List Rn} {p k : Nat} {r : Rn}, Chain N p l → l[k]? = some r → ((((l.take k).getLast?).map (·.t)).getD p ≤ r.f) ∧ r.f ≤ r.t ∧ r.t ≤ N ∧ r.t - r.f ≤ 3
 | [], p, k, r, _, h => by simp at h
 | a :: l, p, 0, r, hc, h => by
   simp only [List.getElem?_cons_zero, Option.some.injEq] at h
   subst h
   exact ⟨by simpa using hc.1, hc.2.1, hc.2.2.1, hc.2.2.2.1⟩
 | a :: l, p, k + 1, r, hc, h => by
   simp only [List.getElem?_cons_succ] at h
   have := Chain.at (p := a.t) (k := k) (r := r) hc.2.2.2.2 h
   refine ⟨?_, this.2⟩
   have h1 := this.1
   rw [List.take_succ_cons]
   cases hl : l.take k with
   | nil => rw [hl] at h1; simpa using h1
   | cons b m =>
     rw [hl] at h1
     rw [List.getLast?_cons_cons]
     cases hx : (b :: m).getLast? with
     | none => simp at hx
     | some x => rw [hx] at h1; exact h1
theorem charsL_at (l : List UInt8) {k : Nat} {r : Rn} (h : (charsL l)[k]? = some r) : atOf (charsL l) k ≤ r.f ∧ r.f ≤ r.t ∧ r.t ≤ l.length ∧ r.t - r.f ≤ 3 :=
 (charsL_chain l).at h
theorem plainL_ne : ∀ (l : List UInt8) (p : Nat), l ≠ [] → plainL p l ≠ []
 | [], _, h => (h rfl).elim
 | [a], _, _ => by simp [plainL]
 | [a, b], _, _ => by simp [plainL]
 | a :: b :: c :: r, _, _ => by simp only [plainL]; split <;> simp
theorem charsL_nil (l : List UInt8) : charsL l = [] ↔ l = [] := by
 constructor
 ·intro h
  unfold charsL at h
  split at h
  ·simp at h
  ·rename_i h1
   by_cases hl : l = []
   ·exact hl
   ·exact (h1 ⟨hl, .inl h⟩).elim
 ·rintro rfl
  rfl
theorem charsL_last (l : List UInt8) (h : l ≠ []) : ∃ init r, charsL l = init ++ [r] ∧ r.c = 10 := by
 unfold charsL
 split
 ·exact ⟨_, _, rfl, rfl⟩
 ·rename_i h1
  rcases List.eq_nil_or_concat (standL l) with hn | ⟨init, r, hn⟩
  ·exact (h1 ⟨h, .inl hn⟩).elim
  ·rw [List.concat_eq_append] at hn
   refine ⟨init, r, hn, ?_⟩
   by_cases hr : r.c = 10
   ·exact hr
   ·exact (h1 ⟨h, .inr (by rw [hn]; simp [hr])⟩).elim
def plainB (l : List UInt8) : Bool := l.all fun c => c != 63 && c != 92
def idL : Nat → List UInt8 → List Rn
 | _, [] => []
 | p, a :: r => ⟨a, p, p + 1⟩ :: idL (p + 1) r
theorem plainL_plain : ∀ (l : List UInt8) (p : Nat), plainB l = true → plainL p l = idL p l
 | [], _, _ => rfl
 | [a], _, _ => rfl
 | [a, b], _, _ => rfl
 | a :: b :: c :: r, p, h => by
   have ha : a ≠ 63 := by simp [plainB] at h; exact h.1.1
   have hr : plainB (b :: c :: r) = true := by simp [plainB] at h ⊢; exact h.2
   simp only [plainL]
   rw [if_neg (fun hh => ha hh.1), plainL_plain (b :: c :: r) (p + 1) hr]
   rfl
theorem splicedL_no92 : ∀ (l : List Rn), (∀ r ∈ l, r.c ≠ 92) → splicedL l = l
 | [], _ => rfl
 | [a], _ => rfl
 | a :: b :: r, h => by
   simp only [splicedL]
   rw [if_neg (fun hh => h a (by simp) hh.1), splicedL_no92 (b :: r) (fun x hx => h x (by simp at hx ⊢; exact .inr hx))]
theorem idL_c : ∀ (l : List UInt8) (p : Nat), (idL p l).map (·.c) = l
 | [], _ => rfl
 | a :: r, p => by simp [idL, idL_c r (p + 1)]
theorem idL_mem : ∀ (l : List UInt8) (p : Nat) (r : Rn), r ∈ idL p l → r.c ∈ l ∧ p ≤ r.f ∧ r.t ≤ p + l.length
 | [], _, r, h => by simp [idL] at h
 | a :: l, p, r, h => by
   simp only [idL, List.mem_cons] at h
   rcases h with rfl | h
   ·simp
   ·have := idL_mem l (p + 1) r h
    exact ⟨by simp [this.1], by omega, by simp; omega⟩
theorem standL_plain {l : List UInt8} (h : plainB l = true) : standL l = idL 0 l := by
 unfold standL
 rw [plainL_plain l 0 h, splicedL_no92]
 intro r hr
 have := (idL_mem l 0 r hr).1
 simp only [plainB, List.all_eq_true, Bool.and_eq_true, bne_iff_ne] at h
 exact (h _ this).2
theorem backL_plain {l : List UInt8} (h : plainB l = true) : backL l 0 l.length = l := by
 unfold backL pickL
 rw [standL_plain h, List.filter_eq_self.2, idL_c]
 intro r hr
 have := idL_mem l 0 r hr
 simp
 omega
theorem idL_at : ∀ (l : List UInt8) (p k : Nat) (c : UInt8), l[k]? = some c → (idL p l)[k]? = some ⟨c, p + k, p + k + 1⟩
 | [], _, _, _, h => by simp at h
 | a :: l, p, 0, c, h => by simp at h; subst h; rfl
 | a :: l, p, k + 1, c, h => by
   simp only [List.getElem?_cons_succ] at h
   simp only [idL, List.getElem?_cons_succ]
   rw [idL_at l (p + 1) k c h]
   congr 2 <;> omega
theorem charsL_plain {l : List UInt8} (h : plainB l = true) {k : Nat} {c : UInt8} (hk : l[k]? = some c) : (charsL l)[k]? = some ⟨c, k, k + 1⟩ := by
 have := idL_at l 0 k c hk
 rw [← standL_plain h, Nat.zero_add] at this
 unfold charsL
 split
 ·rw [List.getElem?_append_left (List.getElem?_eq_some_iff.1 this).1]; exact this
 ·exact this
theorem plainB_snoc (l : List UInt8) (c : UInt8) : plainB (l ++ [c]) = (plainB l && (c != 63) && (c != 92)) := by
 simp [plainB, Bool.and_assoc]
end Go.Proofs.YtllbbacnakoomaaGreatDoor
