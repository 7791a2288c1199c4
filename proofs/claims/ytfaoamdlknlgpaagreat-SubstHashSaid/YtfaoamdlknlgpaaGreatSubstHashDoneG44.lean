/- Texts of this seat's proofs, laid into one file. -/
import Derived.Test.YtfaoamdlknlgpaaGreatSubstHashDoneG43
import Derived.Test.YtfaoamdlknlgpaaGreatSubstHashDoneG26
import Derived.Test.YtfaoamdlknlgpaaGreatSubstHashDoneG13
import Derived.Test.YtfaoamdlknlgpaaGreatSubstHashDoneG8
import Derived.Test.YtfaoamdlknlgpaaGreatSubstHashDoneG37
/- SubstHash: plain: tokens have no byte 10; what a hash makes is read again. -/
namespace Go.Proofs.YtfaoamdlknlgpaaGreat
open Go.RowKit
set_option linter.unusedVariables false

/-! ## tokens have no byte 10 -/

theorem quo_no10 (q : UInt8) : ∀ (n : Nat) (l : List UInt8) (j : Nat), l.length ≤ n → 0 < quoL q j l → ∀ c ∈ l.take (quoL q j l - j), c ≠ 10 := by
  intro n
  induction n with
  | zero => intro l j hl h0 c hc; rw [List.eq_nil_of_length_eq_zero (by omega : l.length = 0)] at hc; simp at hc
  | succ n ih =>
    intro l j hl h0
    match l, hl, h0 with
    | [], _, _ => simp
    | [a], _, h0 =>
      intro c hc
      have hc' := List.mem_of_mem_take hc
      simp only [List.mem_singleton] at hc'
      subst hc'
      intro e
      subst e
      simp [quoL] at h0
    | a :: d :: r, hl, h0 =>
      simp only [List.length_cons] at hl
      obtain ⟨Q, hQ⟩ : ∃ Q, Q = quoL q j (a :: d :: r) := ⟨_, rfl⟩
      rw [← hQ] at h0 ⊢
      unfold quoL at hQ
      by_cases h1 : a = 10
      · rw [if_pos h1] at hQ; omega
      · rw [if_neg h1] at hQ
        by_cases h2 : a = 92 ∧ d ≠ 10
        · rw [if_pos h2] at hQ
          subst hQ
          have hle := (quoL_le q _ r (j + 2) (Nat.le_refl _)).2 h0
          have := ih r (j + 2) (by omega) h0
          obtain ⟨m, hm⟩ : ∃ m, quoL q (j + 2) r = j + 2 + m := ⟨quoL q (j + 2) r - j - 2, by omega⟩
          rw [hm] at this ⊢
          intro c hc
          rw [show j + 2 + m - j = m + 2 by omega] at hc
          simp only [List.take_succ_cons, List.mem_cons] at hc
          rcases hc with rfl | rfl | hc
          · exact h1
          · exact h2.2
          · exact this c (by rw [show j + 2 + m - (j + 2) = m by omega]; exact hc)
        · rw [if_neg h2] at hQ
          by_cases h3 : a = q
          · rw [if_pos h3] at hQ
            subst hQ
            intro c hc
            rw [show j + 1 - j = 1 by omega] at hc
            simp only [List.take_succ_cons, List.take_zero, List.mem_singleton] at hc
            subst hc
            exact h1
          · rw [if_neg h3] at hQ
            subst hQ
            have := ih (d :: r) (j + 1) (by simp; omega) h0
            have hle := (quoL_le q _ (d :: r) (j + 1) (Nat.le_refl _)).2 h0
            obtain ⟨m, hm⟩ : ∃ m, quoL q (j + 1) (d :: r) = j + 1 + m := ⟨quoL q (j + 1) (d :: r) - j - 1, by omega⟩
            rw [hm] at this ⊢
            intro c hc
            rw [show j + 1 + m - j = m + 1 by omega, List.take_succ_cons, List.mem_cons] at hc
            rcases hc with rfl | hc
            · exact h1
            · exact this c (by rw [show j + 1 + m - (j + 1) = m by omega]; exact hc)

theorem numRun_no10 : ∀ (n : Nat) (l : List UInt8), l.length ≤ n → ∀ c ∈ l.take (numRun l), c ≠ 10 := by
  intro n
  induction n with
  | zero => intro l hl c hc; rw [List.eq_nil_of_length_eq_zero (by omega : l.length = 0)] at hc; simp at hc
  | succ n ih =>
    intro l hl
    match l, hl with
    | [], _ => simp
    | [a], _ =>
      intro c hc
      unfold numRun at hc
      by_cases h : numB a = true
      · rw [if_pos h] at hc
        simp at hc
        subst hc
        exact (plain_ch (.inl h)).2
      · rw [if_neg h] at hc
        simp at hc
    | a :: d :: r, hl =>
      simp only [List.length_cons] at hl
      intro c hc
      unfold numRun at hc
      by_cases h1 : expB a d = true
      · rw [if_pos h1] at hc
        simp only [List.take_succ_cons, List.mem_cons] at hc
        unfold expB at h1
        rw [decide_eq_true_eq] at h1
        rcases hc with rfl | rfl | hc
        · rcases h1.1 with h | h | h | h <;> rw [h] <;> decide
        · rcases h1.2 with h | h <;> rw [h] <;> decide
        · exact ih r (by omega) c hc
      · rw [if_neg h1] at hc
        by_cases h2 : numB a = true
        · rw [if_pos h2, List.take_succ_cons, List.mem_cons] at hc
          rcases hc with rfl | hc
          · exact (plain_ch (.inl h2)).2
          · exact ih (d :: r) (by simp; omega) c hc
        · rw [if_neg h2] at hc
          simp at hc

theorem next0_no10 {A : List UInt8} (hA : 0 < A.length) (h10 : chAt A 0 ≠ 10) : ∀ c ∈ A.take (nextL A 0).2.1, c ≠ 10 := by
  have hsplit : A = chAt A 0 :: A.drop 1 := by have := drop_at (A := A) (i := 0) hA; simpa using this
  have hone : ∀ c ∈ A.take 1, c ≠ 10 := by
    intro c hc
    rw [hsplit] at hc
    simp only [List.take_succ_cons, List.take_zero, List.mem_singleton] at hc
    subst hc
    exact h10
  have hmore : ∀ m, (∀ c ∈ (A.drop 1).take m, c ≠ 10) → ∀ c ∈ A.take (1 + m), c ≠ 10 := by
    intro m hm c hc
    rw [hsplit, Nat.add_comm, List.take_succ_cons, List.mem_cons] at hc
    rcases hc with rfl | hc
    · exact h10
    · exact hm c hc
  by_cases hL : 0 ≤ lettersL A 0 ∧ 0 < quotedL A (0 + (lettersL A 0).toNat)
  · have he : (nextL A 0).2.1 = quotedL A (lettersL A 0).toNat := by
      unfold nextL
      by_cases h34 : chAt A (0 + (lettersL A 0).toNat) = 34
      · rw [if_pos ⟨hL.1, hL.2, h34⟩, Nat.zero_add]
      · rw [if_neg (fun h => h34 h.2.2), if_pos hL, Nat.zero_add]
    rw [he]
    have hq := hL.2
    rw [Nat.zero_add] at hq
    have hno := quo_no10 (chAt A (lettersL A 0).toNat) _ (A.drop ((lettersL A 0).toNat + 1)) ((lettersL A 0).toNat + 1) (Nat.le_refl _) hq
    have hle := quotedL_le A _ hq
    intro c hc
    obtain ⟨i, hi, rfl⟩ := mem_chAt hc
    rw [List.length_take] at hi
    rw [chAt_take (by omega)]
    by_cases hil : i ≤ (lettersL A 0).toNat
    · exact letters_ahead hL.1 hil
    · refine hno _ ?_
      refine List.mem_iff_getElem?.2 ⟨i - ((lettersL A 0).toNat + 1), ?_⟩
      rw [List.getElem?_take_of_lt (by unfold quotedL at hi; omega), List.getElem?_drop, show (lettersL A 0).toNat + 1 + (i - ((lettersL A 0).toNat + 1)) = i by omega, List.getElem?_eq_getElem (by omega), chAt_lt (List.getElem?_eq_getElem (by omega))]
  · by_cases hz : lettersL A 0 = 0
    · have he : (nextL A 0).2.1 = 1 := by
        unfold nextL
        rw [if_neg (fun h => hL ⟨h.1, h.2.1⟩), if_neg hL, if_pos hz]
      rw [he]
      exact hone
    · unfold nextL
      rw [if_neg (fun h => hL ⟨h.1, h.2.1⟩), if_neg hL, if_neg hz]
      by_cases h1 : letterB (chAt A 0) = true
      · rw [if_pos h1]
        simp only [Nat.zero_add]
        refine hmore _ (fun c hc => ?_)
        rw [takeWhile_take] at hc
        exact (plain_ch (.inl (id_num (takeWhile_mem hc)))).2
      · rw [if_neg h1]
        by_cases h2 : 0 < numL A 0
        · rw [if_pos h2]
          simp only
          unfold numL at h2 ⊢
          by_cases h3 : digitB (chAt A 0) ∨ chAt A 0 = 46 ∧ digitB (chAt A (0 + 1))
          · rw [if_pos h3]
            simp only [Nat.zero_add]
            exact hmore _ (numRun_no10 _ _ (Nat.le_refl _))
          · rw [if_neg h3] at h2
            omega
        · rw [if_neg h2]
          by_cases h3 : 0 < punctL A 0
          · rw [if_pos h3]
            simp only [Nat.zero_add]
            unfold punctL at h3 ⊢
            rw [List.drop_zero] at h3 ⊢
            cases hf : punctsL.find? (fun p => p.isPrefixOf A) with
            | none => rw [hf] at h3; simp at h3
            | some p =>
              have hp := List.find?_some hf
              have hm := List.mem_of_find?_eq_some hf
              simp only [Option.map_some, Option.getD_some]
              intro c hc
              have := List.prefix_iff_eq_take.1 (List.isPrefixOf_iff_prefix.1 hp)
              rw [← this] at hc
              exact (puncts_nowhite p hm c hc).2
          · rw [if_neg h3]
            exact hone

theorem next_no10 {A : List UInt8} {i : Nat} (hi : i < A.length) (h10 : chAt A i ≠ 10) : ∀ c ∈ (A.drop i).take ((nextL A i).2.1 - i), c ≠ 10 := by
  rw [next_shift]
  simp only
  rw [Nat.add_sub_cancel_left]
  exact next0_no10 (by rw [List.length_drop]; omega) (by rw [chAt_drop]; exact h10)

def No10 (l : List Tk) : Prop := ∀ t ∈ l, ∀ c ∈ t.text, c ≠ 10

theorem finL_mem {n : Nat} {P : List Tk → Prop} : ∀ {ls : List Ln}, (∀ l ∈ ls, P l.toks) → ∀ l ∈ finL n ls, P l.toks
  | [], h, l, hl => by simp [finL] at hl
  | [a], h, l, hl => by simp only [finL, List.mem_singleton] at hl; subst hl; exact h a (by simp)
  | a :: b :: r, h, l, hl => by
    simp only [finL, List.mem_cons] at hl
    rcases hl with rfl | hl
    · exact h l (by simp)
    · exact finL_mem (ls := b :: r) (fun l h' => h l (by simp at h' ⊢; exact .inr h')) l hl

structure SN (s : LS) : Prop where
  now : No10 s.toks
  out : ∀ l ∈ s.out, No10 l.toks

theorem step_n10 {R : List Rn} {n : Nat} {s : LS} (hi : s.i < R.length) (h : SN s) : match lineStep R n s with | .inl s' => SN s' | .inr r => ∀ l ∈ r.1, No10 l.toks := by
  have hcl : s.i < (cs R).length := by rw [cs_len]; exact hi
  have h1 := h.1
  have hadd : ∀ (l : Ln), l.toks = s.toks → ∀ x ∈ s.out ++ [l], No10 x.toks := by
    intro l hl x hx
    rcases List.mem_append.1 hx with hx | hx
    · exact h.2 x hx
    · simp only [List.mem_singleton] at hx; subst hx; rw [hl]; exact h1
  by_cases h10 : chAt (cs R) s.i = 10
  · have he : lineStep R n s = .inl ⟨s.i + 1, [], rT R s.i, false, s.out ++ [⟨s.toks, s.from_, rT R s.i, false⟩], s.diags⟩ := by unfold lineStep; rw [if_pos h10]
    rw [he]
    exact ⟨(by intro t ht; cases ht), hadd _ rfl⟩
  · by_cases hw : whiteB (chAt (cs R) s.i) = true
    · have he : lineStep R n s = .inl ⟨s.i + 1, s.toks, s.from_, true, s.out, s.diags⟩ := by unfold lineStep; rw [if_neg h10, if_pos hw]
      rw [he]
      exact ⟨h1, h.2⟩
    · by_cases hc : s.i < (commentL (cs R) s.i).1
      · by_cases ho : (commentL (cs R) s.i).2 = true
        · have he : lineStep R n s = .inr (s.out ++ [⟨s.toks, s.from_, n, true⟩], s.diags ++ [⟨1, rF R s.i, rT R (s.i + 1)⟩]) := by unfold lineStep; rw [if_neg h10, if_neg hw, if_pos hc, if_pos ho]
          rw [he]
          exact hadd _ rfl
        · have he : lineStep R n s = .inl ⟨(commentL (cs R) s.i).1, s.toks, s.from_, true, s.out, s.diags⟩ := by unfold lineStep; rw [if_neg h10, if_neg hw, if_pos hc, if_neg ho]
          rw [he]
          exact ⟨h1, h.2⟩
      · obtain ⟨dg, he⟩ : ∃ dg, lineStep R n s = .inl ⟨(nextL (cs R) s.i).2.1, s.toks ++ [tokAt R s], s.from_, false, s.out, dg⟩ := by unfold lineStep; rw [if_neg h10, if_neg hw, if_neg hc]; exact ⟨_, rfl⟩
        rw [he]
        refine ⟨?_, h.2⟩
        intro t ht
        rcases List.mem_append.1 ht with ht | ht
        · exact h1 t ht
        · simp only [List.mem_singleton] at ht
          subst ht
          exact next_no10 hcl h10

theorem run_n10 {R : List Rn} {n : Nat} : ∀ (k : Nat) (s : LS), SN s → ∀ l ∈ (linesRun R n k s).1, No10 l.toks
  | 0, s, h, l, hl => finL_mem h.2 l hl
  | k + 1, s, h, l, hl => by
    unfold linesRun at hl
    split at hl
    · rename_i hi
      have hstep := step_n10 (n := n) hi h
      split at hl
      · rename_i s' he
        rw [he] at hstep
        exact run_n10 k s' hstep l hl
      · rename_i r he
        rw [he] at hstep
        exact hstep l hl
    · exact finL_mem h.2 l hl

theorem toks_n10 {s : List UInt8} {t : Tm} (ht : t ∈ toksL s) : ∀ c ∈ t.text.data.toList, c ≠ 10 := by
  unfold toksL toksOf at ht
  cases h : (linesL s).1 with
  | nil => rw [h] at ht; cases ht
  | cons l r =>
    rw [h] at ht
    obtain ⟨k, hk, rfl⟩ := List.mem_map.1 ht
    have := run_n10 (n := s.length) ((charsL s).length + 1) ⟨0, [], 0, false, [], []⟩ ⟨(by intro t ht; cases ht), by simp⟩ l (by
      have : l ∈ (linesL s).1 := by rw [h]; simp
      exact this)
    simpa [Tk.tm] using this k hk

theorem toks_size {s : List UInt8} {t : Tm} (ht : t ∈ toksL s) : t.text.size ≤ 2 * (s.length + 1) := by
  unfold toksL toksOf at ht
  cases h : (linesL s).1 with
  | nil => rw [h] at ht; cases ht
  | cons l r =>
    rw [h] at ht
    obtain ⟨k, hk, rfl⟩ := List.mem_map.1 ht
    have h1 := spell_len (text := s) (l := l) (by rw [h]; simp)
    have h2 : ∀ (ts : List Tk), k ∈ ts → k.text.length ≤ (spellL ts).length := by
      intro ts
      induction ts with
      | nil => intro h; cases h
      | cons a ts ih =>
        intro hm
        unfold spellL
        rw [List.length_append, List.length_cons]
        rcases List.mem_cons.1 hm with rfl | hm
        · omega
        · have := ih hm
          omega
    have h3 := h2 _ hk
    show (bs k.text).size ≤ _
    rw [show (bs k.text).size = k.text.length by simp [ByteArray.size]]
    omega

/-! ## a string of plain bytes is read again -/

theorem inR_plainL : ∀ {X : List UInt8}, (∀ c ∈ X, c ≠ 34 ∧ c ≠ 10 ∧ c ≠ 92) → inR X = some X
  | [], _ => rfl
  | [c], h => by
    have := h c (by simp)
    simp [inR, this.1, this.2.1, this.2.2]
  | c :: d :: r, h => by
    have h1 := h c (by simp)
    have h2 := inR_plainL (X := d :: r) (fun x hx => h x (by simp at hx ⊢; exact .inr hx))
    simp [inR, h1.1, h1.2.1, h1.2.2, h2]

theorem unqR_plain {X : List UInt8} (h : ∀ c ∈ X, c ≠ 34 ∧ c ≠ 10 ∧ c ≠ 92) : unqR (34 :: (X ++ [34])) = some X := by
  have ha : aheadL (34 :: (X ++ [34])) = some 0 := ahead_of (p := []) (X := X) (by simp [prefs])
  unfold unqR
  rw [ha]
  have hin : insideL (34 :: (X ++ [34])) 0 = X := by
    unfold insideL
    simp
  show inR (insideL (34 :: (X ++ [34])) 0) = some X
  rw [hin]
  exact inR_plainL h

theorem escL_plain {X : List UInt8} (h : ∀ c ∈ X, c ≠ 34 ∧ c ≠ 92) : escL X = X := by
  induction X with
  | nil => rfl
  | cons c X ih =>
    have h1 := h c (by simp)
    have h2 := ih (fun x hx => h x (by simp [hx]))
    unfold escL at h2 ⊢
    rw [List.flatMap_cons, h2]
    simp [escC, escB, h1.1, h1.2]

theorem strF_plain : ∀ (T : List Tm) (i : Nat), (∀ c ∈ txtF i T, c ≠ 34 ∧ c ≠ 92) → strF i T = txtF i T
  | [], _, _ => rfl
  | x :: r, i, h => by
    unfold strF txtF
    unfold txtF at h
    have h1 := strF_plain r (i + 1) (fun c hc => h c (by simp [hc]))
    have h2 := escL_plain (X := x.text.data.toList) (fun c hc => h c (by simp only [List.mem_append]; exact .inl (.inr hc)))
    rw [h1]
    unfold strT
    split
    · rw [h2]
    · rfl

theorem txtF_n10 : ∀ (T : List Tm) (i : Nat), (∀ t ∈ T, ∀ c ∈ t.text.data.toList, c ≠ 10) → ∀ c ∈ txtF i T, c ≠ 10
  | [], _, _, c, hc => by simp [txtF] at hc
  | x :: r, i, h, c, hc => by
    unfold txtF at hc
    rcases List.mem_append.1 hc with hc | hc
    · rcases List.mem_append.1 hc with hc | hc
      · unfold spT at hc
        split at hc
        · simp at hc; subst hc; decide
        · cases hc
      · exact h x (by simp) c hc
    · exact txtF_n10 r (i + 1) (fun t ht => h t (by simp [ht])) c hc

/-- a string made of tokens without quotes and backslashes is read again -/
theorem hash_back (s : List UInt8) (h : ∀ c ∈ txtF 0 (toksL s), c ≠ 34 ∧ c ≠ 92) : unqR (strzL (toksL s)) = some (txtF 0 (toksL s)) := by
  unfold strzL
  rw [strF_plain _ _ h]
  exact unqR_plain fun c hc => ⟨(h c hc).1, txtF_n10 _ _ (fun t ht => toks_n10 ht) c hc, (h c hc).2⟩

/-! ## the body -/

def hashTextA : ByteArray := bs [70, 40, 97, 41, 32, 120, 32, 35, 97]
def hashTextB : ByteArray := bs [70, 40, 97, 41, 32, 120, 32, 35, 32, 97]
def hashFF : List (List Tf) := [(toksL [110, 101, 118, 101, 114]).map nilTf]
def hashS : List (List Value) := [siC (bs [70]) ⟨#[]⟩ 0 0 false]
def hashChk (m : Mac) : Bool := decide (m.params.length = 1) && decide (m.body.length = 3) && (match m.body[0]? with | some t => !pasteP t && !hashedP m 0 && decide (ofP m.fn m.params t < 0) | none => false) &&
  (match m.body[1]? with | some t => !pasteP t && hashedP m 1 && decide (behindP m 1 = 0) | none => false)
theorem hash_mA : chkM hashChk (parseL (toksL hashTextA.data.toList)) = true := by kernel_rfl
theorem hash_mB : chkM hashChk (parseL (toksL hashTextB.data.toList)) = true := by kernel_rfl

theorem hash_fin {m : Mac} (h : hashChk m = true) (X : List Tf) (FF : List (List Tf)) (S : List (List Value)) : m.params.length = 1 ∧ m.body.length = 3 ∧ ∃ p q : Pz, piecesZ m [X] FF S m.body.length 0 ⟨[], [], none, []⟩ = some ⟨[p], [q], none, []⟩ ∧ q.t.kind = 4 ∧ q.t.text = bs (strzL (X.map (·.1))) ∧ q.t.made = true ∧ q.par = -1 := by
  unfold hashChk at h
  simp only [Bool.and_eq_true, decide_eq_true_eq] at h
  obtain ⟨⟨⟨h1, h2⟩, h3⟩, h4⟩ := h
  cases ha : m.body[0]? with
  | none => rw [ha] at h3; cases h3
  | some a =>
    rw [ha] at h3
    simp only [Bool.and_eq_true, Bool.not_eq_true', decide_eq_true_eq] at h3
    cases hb : m.body[1]? with
    | none => rw [hb] at h4; cases h4
    | some b =>
      rw [hb] at h4
      simp only [Bool.and_eq_true, Bool.not_eq_true', decide_eq_true_eq] at h4
      refine ⟨h1, h2, ⟨{ a with made := false }, S, -1, 0, false⟩, ⟨⟨4, bs (strzL (X.map (·.1))), b.sp, b.file, b.f, b.t, true⟩, S, -1, 0, false⟩, ?_, rfl, rfl, rfl, rfl⟩
      have t1 : thingZ m [X] FF S 0 a = (.body [⟨{ a with made := false }, S, -1, 0, false⟩], 1) := by
        unfold thingZ
        rw [h3.1.1, h3.1.2, if_neg (by simp), if_neg (by simp), if_pos h3.2]
      have t2 : thingZ m [X] FF S 1 b = (.body [⟨⟨4, bs (strzL (X.map (·.1))), b.sp, b.file, b.f, b.t, true⟩, S, -1, 0, false⟩], 2) := by
        unfold thingZ
        rw [h4.1.1, h4.1.2, h4.2, if_neg (by simp), if_pos rfl]
        rfl
      have hn : m.body[3]? = none := List.getElem?_eq_none (by omega)
      rw [h2]
      simp only [piecesZ, ha, t1, stepZ, hb, t2, hn, ZS.ok, List.nil_append, List.length_nil, List.length_singleton, Nat.zero_add, Nat.add_zero]
      rfl
end Go.Proofs.YtfaoamdlknlgpaaGreat

/- SubstRow: a text's tokens, in a row of tokens; a list of such rows that the call appends to. -/
namespace Go.Proofs.YtfaoamdlknlgpaaGreat
open Go.RowKit
set_option linter.unusedVariables false

/-- tokens without sites, in a row of tokens -/
def TkR (w : World) (ao : Option Addr) (l : List Tm) : Prop :=
  l ≠ [] → ∃ b o x fz, ao = some ⟨b, o, none⟩ ∧ w.heap[b]? = some (.cells x 34 fz) ∧ RowAt w 8 b o ((l.map nilTv).map tvC)

theorem TkR.moved {w w' : World} {ao : Option Addr} {l : List Tm} (h : TkR w ao l) (hk : ∀ (b : Nat) x fz, w.heap[b]? = some (.cells x 34 fz) → w'.heap[b]? = some (.cells x 34 fz)) : TkR w' ao l := by
  intro hne
  obtain ⟨b, o, x, fz, rfl, hx, hr⟩ := h hne
  refine ⟨b, o, x, fz, rfl, hk _ _ _ hx, fun i cs hi j u hj => ?_⟩
  exact (World.cell?_of_block (a := ⟨b, o + i * 8 + j, none⟩) ((hk _ _ _ hx).trans hx.symm)).trans (hr i cs hi j u hj)

theorem TkR.below {w w' : World} {ao : Option Addr} {l : List Tm} (h : TkR w ao l) (hb : Below w.heap.size w w') : TkR w' ao l :=
  h.moved fun b x fz hx => (hb.block b (lt_of_block hx)).trans hx

theorem TkR.kept {w w' : World} {ao : Option Addr} {l : List Tm} {e : TypeId} (h : TkR w ao l) (hk : Lib.OthersKept e none w w') (he : e ≠ 34) : TkR w' ao l :=
  h.moved fun b x fz hx => (KeptTok.others (S := b + 1) hk he (by simp)) b (Nat.lt_succ_self b) x fz hx

theorem TkR.row {w : World} {ao : Option Addr} {l : List Tm} (h : TkR w ao l) : Row w 8 ao ((l.map nilTv).map tvC) := by
  intro hne
  obtain ⟨b, o, _, _, rfl, _, hr⟩ := h (by intro e; rw [e] at hne; simp at hne)
  exact ⟨b, o, rfl, hr⟩

set_option maxRecDepth 100000 in
theorem rToksT_any (s : ByteArray) (hs : s.size ≤ 1000000) (w : World) :
    Calls Tryz.prog 35 #[.string s] w fun e w' => ∃ ao cap, e = .returned (.slice ao (toksL s.data.toList).length cap) ∧ (toksL s.data.toList).length ≤ cap ∧ TkR w' ao (toksL s.data.toList) ∧ Below w.heap.size w w' := by
  have HLi := rLines_any (bs [102]) s hs w
  unfold toksL
  obtain ⟨ls, hls⟩ : ∃ ls, ls = (linesL s.data.toList).1 := ⟨_, rfl⟩
  rw [← hls] at HLi ⊢
  clear hls
  replace HLi := Lib.hid HLi
  go_enter Tryz.func35, Tryz.ntmps35
  go_wp2_with fail
  refine HLi.out.mono ?_
  rintro e w1 ⟨vo, vd, lcs, rfl, hown, hlns, hd, hb⟩
  cases hlns with
  | nil =>
    obtain ⟨ao, cap, rfl, _, _, _, _⟩ := hown.rown (n := 0) rfl
    obtain ⟨M, hM⟩ : ∃ M, M = (linesL s.data.toList).2 := ⟨_, rfl⟩
    rw [← hM] at hd
    obtain ⟨ad, cd, rfl, _, _, _, _⟩ := hd.rown (n := M.length) (by simp)
    replace hd := Lib.hid hd
    replace hM := Lib.hid hM
    go_wp2
    go_ret
    exact ⟨none, 0, rfl, Nat.le_refl _, fun h => absurd rfl h, hb⟩
  | @cons l c ls css h r =>
    obtain ⟨n, hn⟩ : ∃ n, n = css.length := ⟨_, rfl⟩
    obtain ⟨g, cap, rfl, hcap⟩ := hown.cons_at (by simp)
    have hown' := hown
    rw [List.length_cons, ← hn] at hown' ⊢
    obtain ⟨M, hM⟩ : ∃ M, M = (linesL s.data.toList).2 := ⟨_, rfl⟩
    rw [← hM] at hd
    obtain ⟨ad, cd, rfl, _, _, _, _⟩ := hd.rown (n := M.length) (by simp)
    obtain ⟨ao, tc, rfl, htc, hrow⟩ := h
    obtain ⟨b', o', e', hat⟩ := hown.here (by simp)
    simp at e'
    obtain ⟨rfl, rfl⟩ := e'
    have c0 := hat.cell (i := 0) rfl (j := 0) (u := .slice ao l.toks.length tc) rfl
    simp only [Nat.zero_mul, Nat.add_zero] at c0
    have hn0 : (0 : Int) < ((n + 1 : Nat) : Int) := by omega
    have hne : (((n + 1 : Nat) : Int) == 0) = false := by simp; omega
    have HR : Hid (TkR w1 ao (l.toks.map (Tk.tm (bs [102])))) := Lib.hid (fun hne => by
      obtain ⟨b, o, x, fz, rfl, _, hx, h⟩ := hrow (by intro e; rw [e] at hne; simp at hne)
      refine ⟨b, o, x, fz, rfl, hx, ?_⟩
      rw [List.map_map, List.map_map]
      exact h)
    replace hd := Lib.hid hd
    replace hM := Lib.hid hM
    replace hat := Lib.hid hat
    replace hown := Lib.hid hown
    replace hown' := Lib.hid hown'
    replace hn := Lib.hid hn
    replace hrow := Lib.hid hrow
    clear hcap r
    go_wp2
    go_ret
    refine ⟨ao, tc, by simp [toksOf], by simp [toksOf]; exact htc, HR.out, hb⟩

/-- rows of tokens, appended one by one -/
def RawAt (w : World) (B : Nat) (v : Value) (LL : List (List Tm)) : Prop :=
  ∃ vs : List Value, Own w B 22 1 v (vs.map fun u => [u]) ∧ vs.length = LL.length ∧ ∀ (i : Nat) u l, vs[i]? = some u → LL[i]? = some l → ∃ ao cap, u = .slice ao l.length cap ∧ l.length ≤ cap ∧ TkR w ao l

theorem RawAt.below {w w' : World} {B : Nat} {v : Value} {LL : List (List Tm)} (h : RawAt w B v LL) (hb : Below w.heap.size w w') : RawAt w' B v LL := by
  obtain ⟨vs, h1, h2, h3⟩ := h
  refine ⟨vs, h1.below hb, h2, fun i u l hu hl => ?_⟩
  obtain ⟨ao, cap, e, hc, ht⟩ := h3 i u l hu hl
  exact ⟨ao, cap, e, hc, ht.below hb⟩

theorem RawAt.snoc {w w' : World} {B : Nat} {v v' : Value} {LL : List (List Tm)} {vs : List Value} (h1 : Own w B 22 1 v (vs.map fun u => [u])) (h2 : vs.length = LL.length) (h3 : ∀ (i : Nat) u l, vs[i]? = some u → LL[i]? = some l → ∃ ao cap, u = .slice ao l.length cap ∧ l.length ≤ cap ∧ TkR w ao l)
    {l : List Tm} {ao : Option Addr} {cap : Nat} (hc : l.length ≤ cap) (ht : TkR w ao l) (ho : Own w' B 22 1 v' (vs.map (fun u => [u]) ++ [[.slice ao l.length cap]])) (hg : w.grownBy w' v.ownBlock) : RawAt w' B v' (LL ++ [l]) := by
  refine ⟨vs ++ [.slice ao l.length cap], by rw [List.map_append]; exact ho, by simp [h2], fun i u l' hu hl => ?_⟩
  have hk := others_app h1 hg
  by_cases hi : i < vs.length
  · rw [List.getElem?_append_left hi] at hu
    rw [List.getElem?_append_left (by omega)] at hl
    obtain ⟨ao', cap', e, hc', ht'⟩ := h3 i u l' hu hl
    exact ⟨ao', cap', e, hc', ht'.kept hk (by decide)⟩
  · have hi' : i = vs.length := by
      have := (List.getElem?_eq_some_iff.1 hu).1
      rw [List.length_append, List.length_singleton] at this
      omega
    subst hi'
    rw [List.getElem?_concat_length] at hu
    rw [h2, List.getElem?_concat_length] at hl
    injection hu with hu
    injection hl with hl
    subst hu hl
    exact ⟨ao, cap, rfl, hc, ht.kept hk (by decide)⟩

theorem RawAt.ls {w : World} {B : Nat} {v : Value} {LL : List (List Tm)} (h : RawAt w B v LL) : LsRd w v (LL.map fun l => l.map nilTf) := by
  obtain ⟨vs, h1, h2, h3⟩ := h
  obtain ⟨ao, cap, rfl, hc, _, hr, _⟩ := h1.rown (n := LL.length) (by simp [h2])
  refine ⟨ao, cap, vs, by simp, by simpa using hc, hr, by simp [h2], fun i u X hu hX => ?_⟩
  rw [List.getElem?_map] at hX
  cases hl : LL[i]? with
  | none => rw [hl] at hX; cases hX
  | some l =>
    rw [hl] at hX
    injection hX with hX
    subst hX
    obtain ⟨ao', cap', rfl, hc', ht⟩ := h3 i u l hu hl
    exact toksRd_nil rfl hc' ht.row

/-- a literal of one row, and rows behind it -/
theorem RawAt.cat {w w' : World} {B : Nat} {v v' : Value} {l : List Tm} {ao : Option Addr} {cap : Nat} {vs : List Value} {LL : List (List Tm)} (h1 : Own w B 22 1 v [[.slice ao l.length cap]]) (hc : l.length ≤ cap) (ht : TkR w ao l)
    (h2 : vs.length = LL.length) (h3 : ∀ (i : Nat) u l, vs[i]? = some u → LL[i]? = some l → ∃ ao cap, u = .slice ao l.length cap ∧ l.length ≤ cap ∧ TkR w ao l)
    (ho : Own w' B 22 1 v' ([[.slice ao l.length cap]] ++ vs.map fun u => [u])) (hg : w.grownBy w' v.ownBlock) : RawAt w' B v' (l :: LL) := by
  have hk := others_app h1 hg
  refine ⟨.slice ao l.length cap :: vs, by rw [List.map_cons]; exact ho, by simp [h2], fun i u l' hu hl => ?_⟩
  cases i with
  | zero =>
    rw [List.getElem?_cons_zero] at hu hl
    injection hu with hu
    injection hl with hl
    subst hu hl
    exact ⟨ao, cap, rfl, hc, ht.kept hk (by decide)⟩
  | succ i =>
    rw [List.getElem?_cons_succ] at hu hl
    obtain ⟨ao', cap', e, hc', ht'⟩ := h3 i u l' hu hl
    exact ⟨ao', cap', e, hc', ht'.kept hk (by decide)⟩

/-- what stands behind the first row -/
theorem RawAt.rest {w : World} {B n cap ga : Nat} {LL : List (List Tm)} (h : RawAt w B (.slice (some ⟨ga, 0, none⟩) n cap) LL) : ∃ vs : List Value, vs.length = (LL.drop 1).length ∧ Row w 1 (some ⟨ga, 1, none⟩) (vs.map fun u => [u]) ∧ ∀ (i : Nat) u l, vs[i]? = some u → (LL.drop 1)[i]? = some l → ∃ ao cap, u = .slice ao l.length cap ∧ l.length ≤ cap ∧ TkR w ao l := by
  obtain ⟨vs, h1, h2, h3⟩ := h
  refine ⟨vs.drop 1, by simp [h2], ?_, fun i u l hu hl => ?_⟩
  · have := h1.here.drop1 1
    rw [Nat.zero_add, ← List.map_drop] at this
    exact this
  · rw [List.getElem?_drop] at hu hl
    exact h3 (1 + i) u l hu hl

/-- a literal of one row, the rows of another list appended to it -/
theorem raw_plus {wc w7 w8 : World} {PL : List Tm} {pl tc : Nat} {ta : Option Addr} {vr : List Value} {LL : List (List Tm)} {v8 : Value} (hpl : pl = PL.length) (htc : pl ≤ tc) (htk : TkR w7 ta PL) (q1 : vr.length = LL.length) (q3 : ∀ (i : Nat) u l, vr[i]? = some u → LL[i]? = some l → ∃ ao cap, u = .slice ao l.length cap ∧ l.length ≤ cap ∧ TkR wc ao l) (hb : Below wc.heap.size wc w7)
    (hown : Own w8 w7.heap.size 22 1 v8 ([[.slice ta pl tc]] ++ vr.map fun u => [u])) (hg : (w7.alloc (.cells #[.slice ta pl tc] 22)).grownBy w8 (Value.slice (some ⟨w7.heap.size, 0, none⟩) 1 1).ownBlock) :
    LsRd w8 v8 (PL.map nilTf :: LL.map fun l => l.map nilTf) ∧ Below wc.heap.size wc w8 := by
  subst hpl
  have ho := own_lit1 w7 22 1 [.slice ta PL.length tc] rfl
  have hb7 : Below w7.heap.size w7 (w7.alloc (.cells #[.slice ta PL.length tc] 22)) := (Below.refl _ w7).alloc (Nat.le_refl _) _
  have hb7' := hb.trans (hb7.mono hb.size)
  refine ⟨?_, bapp hb7' (ho.mono hb.size) hg hb7'.size⟩
  exact (RawAt.cat ho htc (htk.below hb7) q1 (fun i u l hu hl => by
    obtain ⟨ao, cap, e, hc, ht⟩ := q3 i u l hu hl
    exact ⟨ao, cap, e, hc, ht.below hb7'⟩) hown hg).ls

theorem raw_one {wc : World} {vr : List Value} {LL : List (List Tm)} (q1 : vr.length = LL.length) (q3 : ∀ (i : Nat) u l, vr[i]? = some u → LL[i]? = some l → ∃ ao cap, u = .slice ao l.length cap ∧ l.length ≤ cap ∧ TkR wc ao l) : ∀ cs ∈ vr.map (fun u => [u]), ∀ u ∈ cs, u.oneCell' = true := by
  intro cs hcs u hu
  obtain ⟨a, ha, rfl⟩ := List.mem_map.1 hcs
  simp only [List.mem_singleton] at hu
  subst hu
  obtain ⟨i, hi⟩ := List.getElem?_of_mem ha
  obtain ⟨l, hl⟩ : ∃ l, LL[i]? = some l := ⟨_, List.getElem?_eq_getElem (by rw [← q1]; exact (List.getElem?_eq_some_iff.1 hi).1)⟩
  obtain ⟨ao, cap, rfl, _⟩ := q3 i u l hi hl
  rfl
end Go.Proofs.YtfaoamdlknlgpaaGreat

/- SubstSides: the plain law: all the ways that there are. -/
namespace Go.Proofs.YtfaoamdlknlgpaaGreat
open Go.RowKit
set_option linter.unusedVariables false

def sdText : ByteArray := bs [70, 40, 112, 44, 32, 113, 41, 32, 91, 112, 35, 35, 113, 93]
/-- blanks, a letter, and one more, so often -/
def sdL (c : UInt8) : Nat → List UInt8
  | 0 => []
  | n + 1 => sdL c n ++ [32, c, UInt8.ofNat (97 + n)]
def sdN (a b : Nat) : Nat := a + b - (if 0 < a ∧ 0 < b then 1 else 0)
def sdT (a b i : Nat) : ByteArray :=
  if 0 < a ∧ 0 < b ∧ i = a - 1 then bs [120, UInt8.ofNat (97 + (a - 1)), 121, 97]
  else if i < a then bs [120, UInt8.ofNat (97 + i)]
  else bs [121, UInt8.ofNat (97 + (i - a + if 0 < a ∧ 0 < b then 1 else 0))]
def sdM (a b i : Nat) : Bool := decide (0 < a ∧ 0 < b ∧ i = a - 1)
def sdP (a b i : Nat) : Int := if 0 < a ∧ 0 < b ∧ i = a - 1 then -1 else if i < a then 0 else 1

def sdRR (a b : Nat) : List (List Tf) := [(toksL (sdL 120 a)).map nilTf, (toksL (sdL 121 b)).map nilTf]
def sdFin (m : Mac) (a b : Nat) : Option ZS := piecesZ m (sdRR a b) [] [siC ⟨#[]⟩ ⟨#[]⟩ 0 0 false] m.body.length 0 ⟨[], [], none, []⟩
def sdChk (m : Mac) (a b : Nat) : Bool := (sdRR a b).all (fun X => decide (X.length ≤ 1000) && X.all (fun x => decide (x.1.text.size ≤ 1000) && x.2.isEmpty)) && match sdFin m a b with
  | some s => decide (s.ds.length = 0) && decide ((s.out ++ s.ahead).length = sdN a b + 2) &&
      (match (s.out ++ s.ahead)[0]? with | some p => decide (p.t.text = bs [91]) | none => false) &&
      (match (s.out ++ s.ahead)[sdN a b + 1]? with | some p => decide (p.t.text = bs [93]) | none => false) &&
      (List.range (sdN a b)).all (fun i => match (s.out ++ s.ahead)[1 + i]? with | some p => decide (p.t.text = sdT a b i) && (p.t.made == sdM a b i) && decide (p.par = sdP a b i) | none => false)
  | none => false
def sdAll (m : Mac) : Bool := decide (m.params.length = 2) && decide (m.body.length ≤ 1000) && (List.range 11).all (fun a => (List.range 11).all fun b => sdChk m a b)
theorem sd_m : chkM sdAll (parseL (toksL sdText.data.toList)) = true := by kernel_rfl
end Go.Proofs.YtfaoamdlknlgpaaGreat
