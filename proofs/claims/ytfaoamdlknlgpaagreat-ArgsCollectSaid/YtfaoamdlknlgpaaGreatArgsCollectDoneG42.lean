/- Texts of this seat's proofs, laid into one file. -/
import Derived.Test.YtfaoamdlknlgpaaGreatArgsCollectDoneG41
/- args: a string read as a text, in plain Lean: what the program does is what the document says. -/
namespace Go.Proofs.YtfaoamdlknlgpaaGreat
set_option linter.unusedVariables false

/-- what stands within the quotes, by the document -/
def inR : List UInt8 → Option (List UInt8)
  | [] => some []
  | [c] => if c = 34 ∨ c = 10 ∨ c = 92 then none else some [c]
  | c :: d :: r =>
    if c = 34 ∨ c = 10 then none
    else if c ≠ 92 then (inR (d :: r)).map (c :: ·)
    else if d = 34 ∨ d = 92 then (inR r).map (d :: ·)
    else if d = 10 then none
    else (inR r).map (92 :: d :: ·)

/-- the same, by the program, which knows that it is well formed -/
def unesc : List UInt8 → List UInt8
  | [] => []
  | [c] => [c]
  | c :: d :: r => if c = 92 ∧ (d = 34 ∨ d = 92) then d :: unesc r else c :: unesc (d :: r)

theorem quoL_leU (q : UInt8) : ∀ (L : List UInt8) (j : Nat), quoL q j L ≤ j + L.length
  | [], j => by simp [quoL]
  | [c], j => by unfold quoL; split <;> (try split) <;> simp
  | c :: d :: r, j => by
    have h1 := quoL_leU q r (j + 2)
    have h2 := quoL_leU q (d :: r) (j + 1)
    simp only [List.length_cons] at *
    unfold quoL
    split
    · omega
    · split
      · omega
      · split
        · omega
        · omega

theorem quoL_gtU (q : UInt8) : ∀ (L : List UInt8) (j : Nat), 0 < quoL q j L → j < quoL q j L
  | [], j => by simp [quoL]
  | [c], j => by unfold quoL; split <;> (try split) <;> simp
  | c :: d :: r, j => by
    have h1 := quoL_gtU q r (j + 2)
    have h2 := quoL_gtU q (d :: r) (j + 1)
    intro h
    unfold quoL at h ⊢
    split at h
    · omega
    · rename_i hc
      rw [if_neg hc]
      split at h
      · rename_i h3
        rw [if_pos h3]
        have := h1 h
        omega
      · rename_i h3
        rw [if_neg h3]
        split at h
        · rename_i h4
          rw [if_pos h4]; omega
        · rename_i h4
          rw [if_neg h4]
          have := h2 h
          omega

/-- a constant that is all of a text ends with its quote -/
theorem quoL_last : ∀ (L : List UInt8) (j : Nat), quoL 34 j L = j + L.length → L ≠ [] → ∃ X, L = X ++ [34] ∧ (inR X).isSome = true
  | [], j, _, hn => absurd rfl hn
  | [c], j, h, _ => by
    unfold quoL at h
    by_cases h1 : c = 10
    · rw [if_pos h1] at h; simp at h
    · rw [if_neg h1] at h
      by_cases h2 : c = 34
      · subst h2; exact ⟨[], rfl, rfl⟩
      · rw [if_neg h2] at h; simp at h
  | c :: d :: r, j, h, _ => by
    simp only [List.length_cons] at h
    unfold quoL at h
    by_cases h1 : c = 10
    · rw [if_pos h1] at h; omega
    · rw [if_neg h1] at h
      by_cases h2 : c = 92 ∧ d ≠ 10
      · rw [if_pos h2] at h
        by_cases hr : r = []
        · subst hr; simp [quoL] at h
        · obtain ⟨X, hX, hi⟩ := quoL_last r (j + 2) (by omega) hr
          refine ⟨c :: d :: X, by rw [hX]; rfl, ?_⟩
          obtain ⟨rfl, hd⟩ := h2
          unfold inR
          rw [if_neg (by decide), if_neg (by simp)]
          by_cases h3 : d = 34 ∨ d = 92
          · rw [if_pos h3]; simpa using hi
          · rw [if_neg h3, if_neg hd]; simpa using hi
      · rw [if_neg h2] at h
        by_cases h3 : c = 34
        · rw [if_pos h3] at h; omega
        · rw [if_neg h3] at h
          obtain ⟨X, hX, hi⟩ := quoL_last (d :: r) (j + 1) (by simp only [List.length_cons]; omega) (by simp)
          have hc92 : c ≠ 92 := by
            intro e
            have hd : d = 10 := Classical.byContradiction fun hd => h2 ⟨e, hd⟩
            subst hd
            rw [show quoL 34 (j + 1) (10 :: r) = 0 by cases r <;> simp [quoL]] at h
            omega
          refine ⟨c :: X, by rw [hX]; rfl, ?_⟩
          cases X with
          | nil => unfold inR; rw [if_neg (by simp [h1, h3, hc92])]; rfl
          | cons x X =>
            unfold inR
            rw [if_neg (by simp [h1, h3]), if_pos hc92]
            simpa using hi

theorem quoL_good : ∀ (X : List UInt8) (j : Nat), (inR X).isSome = true → quoL 34 j (X ++ [34]) = j + X.length + 1
  | [], j, _ => by simp [quoL]
  | [c], j, h => by
    unfold inR at h
    by_cases h1 : c = 34 ∨ c = 10 ∨ c = 92
    · rw [if_pos h1] at h; cases h
    · have a1 : c ≠ 34 := fun e => h1 (.inl e)
      have a2 : c ≠ 10 := fun e => h1 (.inr (.inl e))
      have a3 : c ≠ 92 := fun e => h1 (.inr (.inr e))
      show quoL 34 j [c, 34] = _
      unfold quoL
      rw [if_neg a2, if_neg (fun e => a3 e.1), if_neg a1]
      simp [quoL]
  | c :: d :: r, j, h => by
    unfold inR at h
    by_cases h1 : c = 34 ∨ c = 10
    · rw [if_pos h1] at h; cases h
    · rw [if_neg h1] at h
      have a1 : c ≠ 34 := fun e => h1 (.inl e)
      have a2 : c ≠ 10 := fun e => h1 (.inr e)
      show quoL 34 j (c :: d :: (r ++ [34])) = _
      unfold quoL
      rw [if_neg a2]
      by_cases h2 : c ≠ 92
      · rw [if_pos h2] at h
        rw [if_neg (fun e => h2 e.1), if_neg a1]
        have := quoL_good (d :: r) (j + 1) (by simpa using h)
        rw [List.cons_append] at this
        rw [this]
        simp only [List.length_cons]; omega
      · rw [if_neg h2] at h
        have hc : c = 92 := Classical.byContradiction h2
        have hd10 : d ≠ 10 := by
          intro e
          subst e
          rw [if_neg (by decide), if_pos rfl] at h
          cases h
        rw [if_pos ⟨hc, hd10⟩]
        have hr : (inR r).isSome = true := by
          by_cases h3 : d = 34 ∨ d = 92
          · rw [if_pos h3] at h; simpa using h
          · rw [if_neg h3, if_neg hd10] at h; simpa using h
        rw [quoL_good r (j + 2) hr]
        simp only [List.length_cons]; omega

theorem unesc_inR : ∀ (X Y : List UInt8), inR X = some Y → unesc X = Y
  | [], Y, h => by simpa [inR, unesc] using h
  | [c], Y, h => by
    unfold inR at h
    by_cases h1 : c = 34 ∨ c = 10 ∨ c = 92
    · rw [if_pos h1] at h; cases h
    · rw [if_neg h1] at h; simpa [unesc] using h
  | c :: d :: r, Y, h => by
    unfold inR at h
    by_cases h1 : c = 34 ∨ c = 10
    · rw [if_pos h1] at h; cases h
    · rw [if_neg h1] at h
      unfold unesc
      by_cases h2 : c ≠ 92
      · rw [if_pos h2] at h
        obtain ⟨Z, hZ, rfl⟩ := Option.map_eq_some_iff.1 h
        rw [if_neg (fun e => h2 e.1), unesc_inR (d :: r) Z hZ]
      · rw [if_neg h2] at h
        have hc : c = 92 := Classical.byContradiction h2
        subst hc
        by_cases h3 : d = 34 ∨ d = 92
        · rw [if_pos h3] at h
          obtain ⟨Z, hZ, rfl⟩ := Option.map_eq_some_iff.1 h
          rw [if_pos ⟨rfl, h3⟩, unesc_inR r Z hZ]
        · rw [if_neg h3] at h
          by_cases h4 : d = 10
          · rw [if_pos h4] at h; cases h
          · rw [if_neg h4] at h
            obtain ⟨Z, hZ, rfl⟩ := Option.map_eq_some_iff.1 h
            rw [if_neg (fun e => h3 e.2)]
            have hd92 : d ≠ 92 := fun e => h3 (.inr e)
            congr 1
            have := unesc_inR r Z hZ
            cases r with
            | nil => simpa [unesc] using this
            | cons x r =>
              unfold unesc
              rw [if_neg (fun e => hd92 e.1)]
              rw [this]
end Go.Proofs.YtfaoamdlknlgpaaGreat

/- args: a string read as a text: the program's way, and the document's, give the same. -/
namespace Go.Proofs.YtfaoamdlknlgpaaGreat
set_option linter.unusedVariables false

/-- the token that all of a text is, by the program: its kind -/
def oneK (A : List UInt8) : Option Nat :=
  if A.length = 0 ∨ chAt A 0 = 10 ∨ whiteB (chAt A 0) = true ∨ 0 < (commentL A 0).1 ∨ (nextL A 0).2.1 < A.length ∨ tellB A 0 (-1) = true then none else some (nextL A 0).1

theorem skips_sp {R : List Rn} {s t : NS} (h : Skips R s t) : t = s ∨ t.sp = true := by
  cases h with
  | refl => exact .inl rfl
  | white => exact .inr rfl
  | com => exact .inr rfl

def oneTok (A : List UInt8) : List Value :=
  match oneK A with
  | none => zeroTok
  | some k => [.int .i64 k, .string ⟨A.toArray⟩, .bool false, .string ⟨#[]⟩, .int .i64 0, .int .i64 0, .bool false, .slice none 0 0]

theorem one_plain {l : List UInt8} {e : Ending} (hp : OnePost l e) : e = .returned (.tuple #[.agg (oneTok l).toArray, .bool (oneK l).isSome]) := by
  by_cases h1 : l.length = 0 ∨ chAt l 0 = 10
  · have hk : oneK l = none := if_pos (by rcases h1 with h | h; exact .inl h; exact .inr (.inl h))
    have hnot : ¬ AtIn (plainR l) ⟨0, [], false, -1, false⟩ := by
      unfold AtIn
      rw [plainR_cs, plainR_len]
      rcases h1 with h | h
      · intro hh; simp only at hh; omega
      · exact fun hh => hh.2 h
    obtain ⟨s, hsk, hh⟩ := hp
    have hs := skips_stay hsk (.inl hnot)
    subst hs
    unfold oneTok
    rw [hk]
    rcases hh with ⟨_, rfl⟩ | ⟨h2, _⟩
    · rfl
    · exact absurd h2.1 hnot
  · have h0 : 0 < l.length := by omega
    have h10 : chAt l 0 ≠ 10 := fun e => h1 (.inr e)
    by_cases h2 : whiteB (chAt l 0) = true ∨ 0 < (commentL l 0).1
    · have hk : oneK l = none := if_pos (by rcases h2 with h | h; exact .inr (.inr (.inl h)); exact .inr (.inr (.inr (.inl h))))
      have hin : AtIn (plainR l) ⟨0, [], false, -1, false⟩ := by
        unfold AtIn
        rw [plainR_cs, plainR_len]
        exact ⟨h0, h10⟩
      have hnt : ¬ AtTok (plainR l) ⟨0, [], false, -1, false⟩ := by
        unfold AtTok
        rw [plainR_cs]
        rintro ⟨_, ha, hb⟩
        rcases h2 with h | h
        · rw [h] at ha; cases ha
        · exact hb h
      obtain ⟨s, hsk, hh⟩ := hp
      unfold oneTok
      rw [hk]
      rcases hh with ⟨_, rfl⟩ | ⟨hat, rfl⟩
      · rfl
      · rcases skips_sp hsk with e | hsp
        · subst e; exact absurd hat hnt
        · have hc : ((afterTok (plainR l) s).i < l.length ∨ s.sp = true ∨ 0 < (afterTok (plainR l) s).ds.length) := .inr (.inl hsp)
          simp [hc]
    · have hw : whiteB (chAt l 0) = false := by
        cases e : whiteB (chAt l 0) with
        | false => rfl
        | true => exact absurd (.inl e) h2
      have hc : ¬ 0 < (commentL l 0).1 := fun e => h2 (.inr e)
      rw [one_tok hp h0 h10 hw hc]
      unfold oneTok oneK
      by_cases h3 : (nextL l 0).2.1 < l.length ∨ tellB l 0 (-1) = true
      · have hh : l.length = 0 ∨ chAt l 0 = 10 ∨ whiteB (chAt l 0) = true ∨ 0 < (commentL l 0).1 ∨ (nextL l 0).2.1 < l.length ∨ tellB l 0 (-1) = true := .inr (.inr (.inr (.inr h3)))
        rw [if_pos hh, if_pos h3]
        simp [h3]
      · have hh : ¬ (l.length = 0 ∨ chAt l 0 = 10 ∨ whiteB (chAt l 0) = true ∨ 0 < (commentL l 0).1 ∨ (nextL l 0).2.1 < l.length ∨ tellB l 0 (-1) = true) := by
          rintro (h | h | h | h | h)
          · omega
          · exact h10 h
          · rw [hw] at h; cases h
          · exact hc h
          · exact h3 h
        rw [if_neg hh, if_neg h3]
        have ht : l.take (nextL l 0).2.1 = l := List.take_of_length_le (by omega)
        simp [h3, ht]

def prefs : List (List UInt8) := [[], [76], [117], [85], [117, 56]]
def aheadB (A p : List UInt8) : Bool := decide (p.length + 2 ≤ A.length) && (A.take p.length == p) && decide (chAt A p.length = 34) && decide (chAt A (A.length - 1) = 34)
/-- how many letters a string has ahead of its quote, by the document -/
def aheadL (A : List UInt8) : Option Nat := (prefs.find? (aheadB A)).map List.length
def insideL (A : List UInt8) (n : Nat) : List UInt8 := (A.drop (n + 1)).take (A.length - 1 - (n + 1))
def unqR (A : List UInt8) : Option (List UInt8) := (aheadL A).bind fun n => inR (insideL A n)
def unqP (A : List UInt8) : Option (List UInt8) := if oneK A = some 4 then some (unesc (insideL A (lettersL A 0).toNat)) else none

theorem chAt_cons0 (c : UInt8) (r : List UInt8) : chAt (c :: r) 0 = c := rfl
theorem chAt_consS (c : UInt8) (r : List UInt8) (i : Nat) : chAt (c :: r) (i + 1) = chAt r i := rfl
theorem chAt_app {p r : List UInt8} {i : Nat} : chAt (p ++ r) (p.length + i) = chAt r i := by
  unfold chAt
  rw [List.getD_eq_getElem?_getD, List.getD_eq_getElem?_getD, List.getElem?_append_right (by omega)]
  congr 2
  omega

/-- a string as it must be -/
theorem ahead_form {A : List UInt8} {n : Nat} (h : aheadL A = some n) : ∃ p X, p ∈ prefs ∧ p.length = n ∧ A = p ++ 34 :: (X ++ [34]) ∧ insideL A n = X := by
  unfold aheadL at h
  obtain ⟨p, hp, rfl⟩ := Option.map_eq_some_iff.1 h
  have hm := List.mem_of_find?_eq_some hp
  have hb := List.find?_some hp
  unfold aheadB at hb
  simp only [Bool.and_eq_true, decide_eq_true_eq, beq_iff_eq] at hb
  obtain ⟨⟨⟨h1, h2⟩, h3⟩, h4⟩ := hb
  have hA : A = p ++ A.drop p.length := by
    have := List.take_append_drop p.length A
    rw [h2] at this
    exact this.symm
  have hd : A.drop p.length = 34 :: A.drop (p.length + 1) := by rw [drop_at (by omega), h3]
  have hl : (A.drop (p.length + 1)).length = A.length - (p.length + 1) := List.length_drop
  have hlast : A.drop (p.length + 1) = (A.drop (p.length + 1)).take (A.length - 1 - (p.length + 1)) ++ [34] := by
    have h5 : (A.drop (p.length + 1)).drop (A.length - 1 - (p.length + 1)) = [34] := by
      rw [List.drop_drop, show p.length + 1 + (A.length - 1 - (p.length + 1)) = A.length - 1 by omega, drop_at (by omega), h4, List.drop_eq_nil_of_le (by omega)]
    conv => lhs; rw [← List.take_append_drop (A.length - 1 - (p.length + 1)) (A.drop (p.length + 1)), h5]
  refine ⟨p, insideL A p.length, hm, rfl, ?_, rfl⟩
  unfold insideL
  rw [← hlast, ← hd]
  exact hA

theorem ahead_of {p X : List UInt8} (hp : p ∈ prefs) : aheadL (p ++ 34 :: (X ++ [34])) = some p.length := by
  have hl1 : (p ++ 34 :: (X ++ [34])).length - 1 = p.length + (X.length + 1) := by simp
  have hlast : chAt (p ++ 34 :: (X ++ [34])) ((p ++ 34 :: (X ++ [34])).length - 1) = 34 := by
    rw [hl1, chAt_app, chAt_consS]
    have := chAt_app (p := X) (r := [34]) (i := 0)
    rw [Nat.add_zero] at this
    rw [this]; rfl
  have e : ∀ q, aheadB (p ++ 34 :: (X ++ [34])) q = (decide (q.length + 2 ≤ (p ++ 34 :: (X ++ [34])).length) && ((p ++ 34 :: (X ++ [34])).take q.length == q) && decide (chAt (p ++ 34 :: (X ++ [34])) q.length = 34)) := by
    intro q
    unfold aheadB
    rw [decide_eq_true hlast, Bool.and_true]
  clear hlast hl1
  simp only [prefs, List.mem_cons, List.not_mem_nil, or_false] at hp
  unfold aheadL prefs
  simp only [List.find?_cons, e]
  clear e
  rcases hp with rfl | rfl | rfl | rfl | rfl <;> simp [chAt, List.getD]

theorem letters_of {p X : List UInt8} (hp : p ∈ prefs) : lettersL (p ++ 34 :: (X ++ [34])) 0 = (p.length : Int) ∧ chAt (p ++ 34 :: (X ++ [34])) p.length = 34 := by
  simp only [prefs, List.mem_cons, List.not_mem_nil, or_false] at hp
  rcases hp with rfl | rfl | rfl | rfl | rfl <;> exact ⟨by simp [lettersL, chAt, List.getD], by simp [chAt, List.getD]⟩

theorem one_form {p X : List UInt8} (hp : p ∈ prefs) (hX : (inR X).isSome = true) : oneK (p ++ 34 :: (X ++ [34])) = some 4 := by
  obtain ⟨h1, h2⟩ := letters_of (X := X) hp
  obtain ⟨A, hA⟩ : ∃ A, A = p ++ 34 :: (X ++ [34]) := ⟨_, rfl⟩
  rw [← hA] at h1 h2 ⊢
  have hlen : A.length = p.length + X.length + 2 := by rw [hA]; simp; omega
  have hq : quotedL A p.length = A.length := by
    unfold quotedL
    rw [h2]
    have hd : A.drop (p.length + 1) = X ++ [34] := by rw [hA]; simp [List.drop_append]
    rw [hd, quoL_good X _ hX, hlen]
    omega
  have hn : (lettersL A 0).toNat = p.length := by rw [h1]; rfl
  have hnx : nextL A 0 = (4, A.length, false) := by
    unfold nextL
    rw [hn, Nat.zero_add, h2, hq, if_pos ⟨by rw [h1]; omega, by omega, rfl⟩]
  have hc0 : chAt A 0 = 34 ∨ chAt A 0 = 76 ∨ chAt A 0 = 117 ∨ chAt A 0 = 85 := by
    rw [hA]
    simp only [prefs, List.mem_cons, List.not_mem_nil, or_false] at hp
    rcases hp with rfl | rfl | rfl | rfl | rfl <;> simp [chAt, List.getD]
  unfold oneK
  rw [hnx, if_neg]
  rintro (h | h | h | h | h | h)
  · omega
  · rcases hc0 with e | e | e | e <;> rw [e] at h <;> exact absurd h (by decide)
  · rcases hc0 with e | e | e | e <;> rw [e] at h <;> exact absurd h (by decide)
  · have : (commentL A 0).1 = 0 := by
      unfold commentL
      rw [if_pos]
      rcases hc0 with e | e | e | e <;> rw [e] <;> decide
    omega
  · simp at h
  · unfold tellB closesL at h
    rw [hn, Nat.zero_add, hq] at h
    have := of_decide_eq_true h
    rw [if_neg (by omega)] at this
    omega

theorem one_back {A : List UInt8} (h : oneK A = some 4) : ∃ p X, p ∈ prefs ∧ A = p ++ 34 :: (X ++ [34]) ∧ (inR X).isSome = true ∧ lettersL A 0 = (p.length : Int) := by
  unfold oneK at h
  split at h
  · cases h
  · rename_i hh
    have hlen : ¬ (nextL A 0).2.1 < A.length := fun e => hh (.inr (.inr (.inr (.inr (.inl e)))))
    have hk : (nextL A 0).1 = 4 := Option.some.inj h
    obtain ⟨a1, a2, a3⟩ : 0 ≤ lettersL A 0 ∧ 0 < quotedL A (0 + (lettersL A 0).toNat) ∧ chAt A (0 + (lettersL A 0).toNat) = 34 := by
      apply Classical.byContradiction
      intro hn
      unfold nextL at hk
      rw [if_neg hn] at hk
      revert hk
      split
      · intro e; simp at e
      · split
        · intro e; simp at e
        · split
          · intro e; simp at e
          · split
            · intro e; simp at e
            · split <;> intro e <;> simp at e
    have he : (nextL A 0).2.1 = quotedL A (0 + (lettersL A 0).toNat) := by
      unfold nextL
      rw [if_pos ⟨a1, a2, a3⟩]
    rw [Nat.zero_add] at a2 a3 he
    obtain ⟨n, hn⟩ : ∃ n, n = (lettersL A 0).toNat := ⟨_, rfl⟩
    rw [← hn] at a2 a3 he
    have hle := (quotedL_le A n a2).2
    have hq : quotedL A n = A.length := by omega
    have hnl : n < A.length := by
      have := (quotedL_le A n a2).1
      omega
    have hne : A.drop (n + 1) ≠ [] := by
      intro e
      unfold quotedL at a2
      rw [e] at a2
      simp [quoL] at a2
    have hlast := quoL_last (A.drop (n + 1)) (n + 1) (by
      unfold quotedL at hq
      rw [a3] at hq
      rw [hq, List.length_drop]
      omega) hne
    obtain ⟨X, hX, hi⟩ := hlast
    have hp : A.take n ∈ prefs := by
      have hr := lettersL A 0
      have hcase : (lettersL A 0 = 0) ∨ (lettersL A 0 = 2 ∧ chAt A 0 = 117 ∧ chAt A 1 = 56) ∨ (lettersL A 0 = 1 ∧ (chAt A 0 = 76 ∨ chAt A 0 = 117 ∨ chAt A 0 = 85)) := by
        have h0 := a1
        unfold lettersL at h0 ⊢
        split
        · exact .inl rfl
        · split
          · rename_i hb; exact .inr (.inl ⟨rfl, hb.1, hb.2.1⟩)
          · split
            · rename_i hb; exact .inr (.inr ⟨rfl, hb.1⟩)
            · rename_i x1 x2 x3
              rw [if_neg x1, if_neg x2, if_neg x3] at h0
              omega
      have hch : ∀ j, j < n → A[j]? = some (chAt A j) := by
        intro j hj
        rw [List.getElem?_eq_getElem (by omega)]
        unfold chAt
        rw [List.getD_eq_getElem?_getD, List.getElem?_eq_getElem (by omega)]
        rfl
      rcases hcase with e | ⟨e, e0, e1⟩ | ⟨e, e0⟩
      · have : n = 0 := by rw [hn, e]; rfl
        subst this
        simp [prefs]
      · have : n = 2 := by rw [hn, e]; rfl
        subst this
        have h0 := hch 0 (by omega)
        have h1 := hch 1 (by omega)
        rw [e0] at h0
        rw [e1] at h1
        have : A.take 2 = [117, 56] := by
          rw [List.take_add_one, List.take_add_one, h0, h1]; rfl
        rw [this]; simp [prefs]
      · have : n = 1 := by rw [hn, e]; rfl
        subst this
        have h0 := hch 0 (by omega)
        have : A.take 1 = [chAt A 0] := by
          rw [List.take_add_one, h0]; rfl
        rw [this]
        rcases e0 with e0 | e0 | e0 <;> rw [e0] <;> simp [prefs]
    have hpl : (A.take n).length = n := by rw [List.length_take]; omega
    refine ⟨A.take n, X, hp, ?_, hi, by rw [hpl, hn]; omega⟩
    rw [← hX, ← a3, ← drop_at hnl, List.take_append_drop]

theorem unq_same (A : List UInt8) : unqP A = unqR A := by
  unfold unqP unqR
  by_cases h : oneK A = some 4
  · rw [if_pos h]
    obtain ⟨p, X, hp, hA, hi, hl⟩ := one_back h
    have hah : aheadL A = some p.length := by rw [hA]; exact ahead_of hp
    obtain ⟨p', X', hp', hpl, hA', hin⟩ := ahead_form hah
    have hX : X' = X := by
      rw [hA] at hA'
      have h1 := List.append_inj hA' hpl.symm
      have h2 := List.cons.inj h1.2
      exact (List.append_cancel_right h2.2).symm
    rw [hah]
    simp only [Option.bind_some]
    rw [show (lettersL A 0).toNat = p.length by rw [hl]; rfl, hin, hX]
    obtain ⟨Y, hY⟩ := Option.isSome_iff_exists.1 hi
    rw [hY, unesc_inR X Y hY]
  · rw [if_neg h]
    cases ha : aheadL A with
    | none => rfl
    | some n =>
      simp only [Option.bind_some]
      obtain ⟨p, X, hp, rfl, hA, hin⟩ := ahead_form ha
      rw [hin]
      cases hx : inR X with
      | none => rfl
      | some Y =>
        exfalso
        apply h
        rw [hA]
        exact one_form hp (by rw [hx]; rfl)
end Go.Proofs.YtfaoamdlknlgpaaGreat
