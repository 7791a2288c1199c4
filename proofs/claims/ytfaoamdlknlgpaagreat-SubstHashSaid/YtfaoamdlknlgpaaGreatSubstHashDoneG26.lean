/- Texts of this seat's proofs, laid into one file. -/
import Derived.Test.YtfaoamdlknlgpaaGreatSubstHashDoneG24
import Derived.Test.YtfaoamdlknlgpaaGreatSubstHashDoneG6
/- LexBack: the plain law: a line told with blanks is lexed to the same tokens. -/
namespace Go.Proofs.YtfaoamdlknlgpaaGreat
set_option linter.unusedVariables false

def spellL : List Tk → List UInt8
  | [] => []
  | t :: ts => t.text ++ 32 :: spellL ts

structure GdT (t : Tk) : Prop where
  ne : t.text ≠ []
  ch : ∀ c ∈ t.text, c ≠ 92 ∧ c ≠ 63
  nl : chAt t.text 0 ≠ 10
  wh : whiteB (chAt t.text 0) = false
  nx : ∀ r, nextL (t.text ++ 32 :: r) 0 = (t.kind, t.text.length, false)
  co : ∀ r, ¬ 0 < (commentL (t.text ++ 32 :: r) 0).1

theorem next_bad {A : List UInt8} {i : Nat} (h : (nextL A i).1 ≠ 6) : (nextL A i).2.2 = false := by
  revert h
  unfold nextL
  repeat' split
  all_goals first | (intro h; rfl) | (intro h; exact absurd rfl h)

theorem com_no {A : List UInt8} {i : Nat} (h : chAt A i = 47 → chAt A (i + 1) ≠ 47 ∧ chAt A (i + 1) ≠ 42) : commentL A i = (i, false) := by
  unfold commentL
  by_cases h0 : chAt A i = 47
  · rw [if_neg (by simp [h0]), if_neg (h h0).1, if_pos (h h0).2]
  · rw [if_pos h0]

theorem com_yes {A : List UInt8} {i : Nat} (hi : i < A.length) (h : ¬ i < (commentL A i).1) : chAt A i = 47 → chAt A (i + 1) ≠ 47 ∧ chAt A (i + 1) ≠ 42 := by
  intro h0
  refine ⟨fun h1 => h ?_, fun h1 => h ?_⟩
  · unfold commentL
    rw [if_neg (by simp [h0]), if_pos h1]
    simp only
    rw [while_step hi, h0]
    simp
  · unfold commentL
    rw [if_neg (by simp [h0]), if_neg (by rw [h1]; decide), if_neg (by simp [h1])]
    cases hc : comEnd (i + 2) (A.drop (i + 2)) with
    | none => exact hi
    | some e => have := comEnd_le _ _ _ hc; simp only; omega

/-- a token that is cut anywhere, with a blank behind it -/
theorem good_tok {A : List UInt8} {i : Nat} {sp : Bool} {f t : Nat} (hi : i < A.length) (h92 : ∀ c ∈ A, c ≠ 92 ∧ c ≠ 63) (h10 : chAt A i ≠ 10) (hw : whiteB (chAt A i) = false) (hc : ¬ i < (commentL A i).1) (hk : (nextL A i).1 ≠ 6) :
    GdT ⟨(nextL A i).1, (A.drop i).take ((nextL A i).2.1 - i), sp, f, t⟩ := by
  have hl := nextL_len hi
  have hb := next_bad hk
  have hs := next_shift A i
  obtain ⟨k, e, b, hX⟩ : ∃ k e b, nextL (A.drop i) 0 = (k, e, b) := ⟨_, _, _, rfl⟩
  rw [hX] at hs
  rw [hs] at hl hb hk ⊢
  simp only at hl hb hk ⊢
  subst hb
  rw [show i + e - i = e by omega]
  have hXl : 0 < (A.drop i).length := by rw [List.length_drop]; omega
  have h92X : ∀ c ∈ A.drop i, c ≠ 92 := fun c hc => (h92 c (List.mem_of_mem_drop hc)).1
  have htl : ((A.drop i).take e).length = e := by rw [List.length_take, List.length_drop]; omega
  have hc0 : chAt ((A.drop i).take e) 0 = chAt A i := by rw [chAt_take (by omega), chAt_drop, Nat.add_zero]
  refine ⟨?_, ?_, by simp only [hc0]; exact h10, by simp only [hc0]; exact hw, ?_, ?_⟩
  · intro e1
    have := htl
    simp only at e1
    rw [e1] at this
    simp at this
    omega
  · intro c hc
    exact h92 c (List.mem_of_mem_drop (List.mem_of_mem_take hc))
  · intro r
    rw [htl]
    exact next_blank hX hk hXl h92X
  · intro r
    simp only
    have h1 := com_yes hi hc
    rw [com_no]
    · simp
    · intro h0
      rw [chAt_app_lt (by omega), hc0] at h0
      rcases Nat.lt_or_ge 1 e with h2 | h2
      · rw [chAt_app_lt (by omega), chAt_take (by omega), chAt_drop]
        exact h1 h0
      · rw [chAt_app_ge (by omega), show 0 + 1 - ((A.drop i).take e).length = 0 by omega, show chAt (32 :: r) 0 = 32 from rfl]
        exact ⟨by decide, by decide⟩

/-- the spaces that are told -/
def spacesL (sp : Bool) : List Tk → List Bool
  | [] => []
  | _ :: ts => sp :: ts.map fun _ => true

theorem relex {R : List Rn} (n : Nat) : ∀ (ts : List Tk) (s : LS), (∀ t ∈ ts, GdT t) → s.i ≤ R.length → (cs R).drop s.i = spellL ts ++ [10] → s.out = [] → s.diags = [] → s.from_ = 0 →
    ∃ toks', linesFrom R n s = ([⟨s.toks ++ toks', 0, n, false⟩], []) ∧ toks'.map (fun t => (t.kind, t.text)) = ts.map (fun t => (t.kind, t.text)) ∧ toks'.map (·.space) = spacesL s.space ts
  | [], s, _, hi, hd, ho, hg, hf => by
    have hlen : (cs R).length = s.i + 1 := by
      have := congrArg List.length hd
      rw [List.length_drop] at this
      simp [spellL] at this
      omega
    rw [cs_len] at hlen
    have h10 : chAt (cs R) s.i = 10 := by
      have := chAt_drop (cs R) s.i 0
      rw [hd] at this
      exact this.symm
    refine ⟨[], ?_, rfl, rfl⟩
    rw [linesFrom_inl (s' := ⟨s.i + 1, [], rT R s.i, false, s.out ++ [⟨s.toks, s.from_, rT R s.i, false⟩], s.diags⟩) (by omega) (by unfold lineStep; rw [if_pos h10]), linesFrom_end (by simp only; omega), ho, hg, hf]
    simp [finL]
  | t :: ts, s, hG, hi, hd, ho, hg, hf => by
    have ht := hG t (by simp)
    have hd1 : (cs R).drop s.i = t.text ++ 32 :: (spellL ts ++ [10]) := by rw [hd]; simp [spellL]
    have htl : 0 < t.text.length := List.length_pos_iff.2 ht.ne
    have hlen : (cs R).length = s.i + t.text.length + 1 + (spellL ts).length + 1 := by
      have := congrArg List.length hd1
      rw [List.length_drop] at this
      simp at this
      have hi2 : s.i ≤ (cs R).length := by rw [cs_len]; exact hi
      omega
    have hR := cs_len R
    have hc0 : chAt (cs R) s.i = chAt t.text 0 := by
      have := chAt_drop (cs R) s.i 0
      rw [hd1, chAt_app_lt htl] at this
      exact this.symm
    have hcm : ¬ s.i < (commentL (cs R) s.i).1 := by
      have hy := com_yes (A := t.text ++ 32 :: (spellL ts ++ [10])) (i := 0) (by simp; omega) (ht.co _)
      rw [com_no]
      · simp
      · intro h0
        have e0 := chAt_drop (cs R) s.i 0
        have e1 := chAt_drop (cs R) s.i 1
        rw [hd1] at e0 e1
        rw [← e1]
        exact hy (e0.trans h0)
    have hnx : nextL (cs R) s.i = (t.kind, s.i + t.text.length, false) := by
      rw [next_shift, hd1, ht.nx]
    have htk : tokAt R s = ⟨t.kind, t.text, s.space, rF R s.i, rT R (s.i + t.text.length - 1)⟩ := by
      unfold tokAt
      rw [hnx]
      simp only
      rw [hd1, show s.i + t.text.length - s.i = t.text.length by omega, List.take_left]
    have st1 : linesFrom R n s = linesFrom R n ⟨s.i + t.text.length, s.toks ++ [tokAt R s], s.from_, false, s.out, s.diags⟩ := by
      refine linesFrom_inl (by omega) ?_
      unfold lineStep
      rw [if_neg (by rw [hc0]; exact ht.nl), if_neg (by rw [hc0, ht.wh]; decide), if_neg hcm, hnx]
      rfl
    have h32 : chAt (cs R) (s.i + t.text.length) = 32 := by
      have := chAt_drop (cs R) s.i t.text.length
      rw [hd1, chAt_app_ge (Nat.le_refl _), Nat.sub_self] at this
      exact this.symm
    have st2 : linesFrom R n ⟨s.i + t.text.length, s.toks ++ [tokAt R s], s.from_, false, s.out, s.diags⟩ = linesFrom R n ⟨s.i + t.text.length + 1, s.toks ++ [tokAt R s], s.from_, true, s.out, s.diags⟩ := by
      refine linesFrom_inl (by simp only; omega) ?_
      unfold lineStep
      simp only
      rw [h32, if_neg (by decide), if_pos (by decide)]
    have hd2 : (cs R).drop (s.i + t.text.length + 1) = spellL ts ++ [10] := by
      rw [Nat.add_assoc, ← List.drop_drop, hd1, List.drop_append, List.drop_eq_nil_of_le (by omega), show t.text.length + 1 - t.text.length = 1 by omega]
      rfl
    obtain ⟨tk', h1, h2, h3⟩ := relex n ts ⟨s.i + t.text.length + 1, s.toks ++ [tokAt R s], s.from_, true, s.out, s.diags⟩ (fun x hx => hG x (by simp [hx])) (by simp only; omega) hd2 ho hg hf
    refine ⟨tokAt R s :: tk', ?_, ?_, ?_⟩
    · rw [st1, st2, h1]
      simp
    · rw [List.map_cons, h2, htk]
      rfl
    · rw [List.map_cons, h3, htk]
      simp only [spacesL]
      cases ts with
      | nil => rfl
      | cons u us => rfl

theorem spell_mem : ∀ {ts : List Tk}, (∀ t ∈ ts, GdT t) → ∀ c ∈ spellL ts, c ≠ 92 ∧ c ≠ 63
  | [], _, c, h => by simp [spellL] at h
  | t :: ts, hG, c, h => by
    simp only [spellL, List.mem_append, List.mem_cons] at h
    rcases h with h | rfl | h
    · exact (hG t (by simp)).ch c h
    · decide
    · exact spell_mem (fun x hx => hG x (by simp [hx])) c h

theorem spell_last : ∀ {ts : List Tk}, ts ≠ [] → ∃ l, spellL ts = l ++ [32]
  | [], h => absurd rfl h
  | [t], _ => ⟨t.text, by simp [spellL]⟩
  | t :: u :: ts, _ => by
    obtain ⟨l, hl⟩ := spell_last (ts := u :: ts) (by simp)
    exact ⟨t.text ++ 32 :: l, by rw [spellL, hl]; simp⟩

theorem plain_of {l : List UInt8} (h : ∀ c ∈ l, c ≠ 92 ∧ c ≠ 63) : plainB l = true := by
  simp only [plainB, List.all_eq_true, Bool.and_eq_true, bne_iff_ne]
  exact fun c hc => ⟨(h c hc).2, (h c hc).1⟩

theorem cs_plain {l : List UInt8} (h : ∀ c ∈ l, c ≠ 92 ∧ c ≠ 63) : cs (charsL l) = l ∨ cs (charsL l) = l ++ [10] := by
  unfold charsL
  split
  · right
    unfold cs
    rw [List.map_append, standL_plain (plain_of h), idL_c]
    rfl
  · left
    unfold cs
    rw [standL_plain (plain_of h), idL_c]

theorem lex_spelled {ts : List Tk} (hne : ts ≠ []) (hG : ∀ t ∈ ts, GdT t) : ∃ toks', linesL (spellL ts) = ([⟨toks', 0, (spellL ts).length, false⟩], []) ∧ toks'.map (fun t => (t.kind, t.text)) = ts.map (fun t => (t.kind, t.text)) ∧ toks'.map (·.space) = spacesL false ts := by
  have hm := spell_mem hG
  obtain ⟨l, hl⟩ := spell_last hne
  have hcs : cs (charsL (spellL ts)) = spellL ts ++ [10] := by
    rcases cs_plain hm with h | h
    · exfalso
      obtain ⟨ini, r, h1, h2⟩ := charsL_last (spellL ts) (by rw [hl]; simp)
      rw [h1, hl] at h
      unfold cs at h
      rw [List.map_append] at h
      have := List.append_inj_right' h rfl
      simp at this
      rw [h2] at this
      exact absurd this (by decide)
    · exact h
  obtain ⟨tk', h1, h2, h3⟩ := relex (R := charsL (spellL ts)) (spellL ts).length ts ⟨0, [], 0, false, [], []⟩ hG (Nat.zero_le _) (by simp [hcs]) rfl rfl rfl
  exact ⟨tk', by simpa [linesL, linesFrom] using h1, h2, h3⟩

/-! ## the first text -/

def NoCom (A : List UInt8) : Prop := ∀ i, chAt A i = 47 → chAt A (i + 1) ≠ 47 ∧ chAt A (i + 1) ≠ 42

def LGood (l : Ln) : Prop := l.op = false ∧ ∀ t ∈ l.toks, t.kind ≠ 6 → GdT t
def SGood (s : LS) : Prop := (∀ t ∈ s.toks, t.kind ≠ 6 → GdT t) ∧ ∀ l ∈ s.out, LGood l

theorem finL_good {n : Nat} : ∀ {ls : List Ln}, (∀ l ∈ ls, LGood l) → ∀ l ∈ finL n ls, LGood l
  | [], h, l, hl => by simp [finL] at hl
  | [a], h, l, hl => by simp only [finL, List.mem_singleton] at hl; subst hl; exact h a (by simp)
  | a :: b :: r, h, l, hl => by
    simp only [finL, List.mem_cons] at hl
    rcases hl with rfl | hl
    · exact h l (by simp)
    · exact finL_good (ls := b :: r) (fun l h' => h l (by simp at h' ⊢; exact .inr h')) l hl

theorem step_good {R : List Rn} {n : Nat} {s : LS} (h92 : ∀ c ∈ cs R, c ≠ 92 ∧ c ≠ 63) (hN : NoCom (cs R)) (hi : s.i < R.length) (h : SGood s) : ∃ s', lineStep R n s = .inl s' ∧ SGood s' := by
  have hcm : ¬ s.i < (commentL (cs R) s.i).1 := by rw [com_no (hN s.i)]; simp
  unfold lineStep
  by_cases h10 : chAt (cs R) s.i = 10
  · rw [if_pos h10]
    refine ⟨_, rfl, by simp, fun l hl => ?_⟩
    rcases List.mem_append.1 hl with hl | hl
    · exact h.2 l hl
    · simp only [List.mem_singleton] at hl; subst hl; exact ⟨rfl, h.1⟩
  · rw [if_neg h10]
    by_cases hw : whiteB (chAt (cs R) s.i) = true
    · rw [if_pos hw]
      exact ⟨_, rfl, h⟩
    · rw [if_neg hw, if_neg hcm]
      refine ⟨_, rfl, fun t ht hk => ?_, h.2⟩
      rcases List.mem_append.1 ht with ht | ht
      · exact h.1 t ht hk
      · simp only [List.mem_singleton] at ht
        subst ht
        exact good_tok (by rw [cs_len]; exact hi) h92 h10 (by simpa using hw) hcm hk

theorem run_good {R : List Rn} {n : Nat} (h92 : ∀ c ∈ cs R, c ≠ 92 ∧ c ≠ 63) (hN : NoCom (cs R)) : ∀ (k : Nat) (s : LS), SGood s → ∀ l ∈ (linesRun R n k s).1, LGood l
  | 0, s, h, l, hl => finL_good h.2 l hl
  | k + 1, s, h, l, hl => by
    unfold linesRun at hl
    split at hl
    · rename_i hi
      obtain ⟨s', he, hs'⟩ := step_good (n := n) h92 hN hi h
      rw [he] at hl
      exact run_good h92 hN k s' hs' l hl
    · exact finL_good h.2 l hl

theorem lines_good {text : List UInt8} (h92 : ∀ c ∈ text, c ≠ 92 ∧ c ≠ 63) (hN : NoCom text) : ∀ l ∈ (linesL text).1, LGood l := by
  have hc := cs_plain h92
  refine run_good ?_ ?_ _ _ ⟨by simp, by simp⟩
  · intro c hm
    rcases hc with h | h
    · rw [h] at hm; exact h92 c hm
    · rw [h] at hm
      rcases List.mem_append.1 hm with hm | hm
      · exact h92 c hm
      · simp only [List.mem_singleton] at hm; subst hm; decide
  · rcases hc with h | h
    · rw [h]; exact hN
    · rw [h]
      intro i h0
      rcases Nat.lt_or_ge i text.length with h1 | h1
      · rw [chAt_app_lt h1] at h0
        have := hN i h0
        rcases Nat.lt_or_ge (i + 1) text.length with h2 | h2
        · rw [chAt_app_lt h2]; exact this
        · rw [chAt_app_ge h2, show i + 1 - text.length = 0 by omega]; exact ⟨by decide, by decide⟩
      · rw [chAt_app_ge h1] at h0
        exfalso
        cases hh : i - text.length with
        | zero => rw [hh] at h0; exact absurd h0 (by decide)
        | succ k => rw [hh] at h0; exact absurd (chAt_ge (by simp) : chAt [10] (k + 1) = 0) (by rw [h0]; decide)

/-! ## how long a told line is -/

theorem spell_app : ∀ (a b : List Tk), spellL (a ++ b) = spellL a ++ spellL b
  | [], b => rfl
  | t :: a, b => by simp [spellL, spell_app a b]

def SLen (n : Nat) (s : LS) : Prop := (spellL s.toks).length ≤ 2 * s.i ∧ ∀ l ∈ s.out, (spellL l.toks).length ≤ 2 * n

theorem finL_slen {n m : Nat} : ∀ {ls : List Ln}, (∀ l ∈ ls, (spellL l.toks).length ≤ n) → ∀ l ∈ finL m ls, (spellL l.toks).length ≤ n
  | [], h, l, hl => by simp [finL] at hl
  | [a], h, l, hl => by simp only [finL, List.mem_singleton] at hl; subst hl; exact h a (by simp)
  | a :: b :: r, h, l, hl => by
    simp only [finL, List.mem_cons] at hl
    rcases hl with rfl | hl
    · exact h l (by simp)
    · exact finL_slen (ls := b :: r) (fun l h' => h l (by simp at h' ⊢; exact .inr h')) l hl

theorem step_slen {R : List Rn} {n : Nat} {s : LS} (hi : s.i < R.length) (h : SLen R.length s) : match lineStep R n s with | .inl s' => SLen R.length s' | .inr r => ∀ l ∈ r.1, (spellL l.toks).length ≤ 2 * R.length := by
  have hcl : s.i < (cs R).length := by rw [cs_len]; exact hi
  have hcm := commentL_len hcl
  have hnl := nextL_len hcl
  rw [cs_len] at hcm hnl
  have h1 := h.1
  have hadd : ∀ (l : Ln), l.toks = s.toks → ∀ x ∈ s.out ++ [l], (spellL x.toks).length ≤ 2 * R.length := by
    intro l hl x hx
    rcases List.mem_append.1 hx with hx | hx
    · exact h.2 x hx
    · simp only [List.mem_singleton] at hx; subst hx; rw [hl]; omega
  by_cases h10 : chAt (cs R) s.i = 10
  · have he : lineStep R n s = .inl ⟨s.i + 1, [], rT R s.i, false, s.out ++ [⟨s.toks, s.from_, rT R s.i, false⟩], s.diags⟩ := by unfold lineStep; rw [if_pos h10]
    rw [he]
    exact ⟨by simp [spellL], hadd _ rfl⟩
  · by_cases hw : whiteB (chAt (cs R) s.i) = true
    · have he : lineStep R n s = .inl ⟨s.i + 1, s.toks, s.from_, true, s.out, s.diags⟩ := by unfold lineStep; rw [if_neg h10, if_pos hw]
      rw [he]
      exact ⟨by simp only; omega, h.2⟩
    · by_cases hc : s.i < (commentL (cs R) s.i).1
      · by_cases ho : (commentL (cs R) s.i).2 = true
        · have he : lineStep R n s = .inr (s.out ++ [⟨s.toks, s.from_, n, true⟩], s.diags ++ [⟨1, rF R s.i, rT R (s.i + 1)⟩]) := by unfold lineStep; rw [if_neg h10, if_neg hw, if_pos hc, if_pos ho]
          rw [he]
          exact hadd _ rfl
        · have he : lineStep R n s = .inl ⟨(commentL (cs R) s.i).1, s.toks, s.from_, true, s.out, s.diags⟩ := by unfold lineStep; rw [if_neg h10, if_neg hw, if_pos hc, if_neg ho]
          rw [he]
          exact ⟨by simp only; omega, h.2⟩
      · obtain ⟨dg, he⟩ : ∃ dg, lineStep R n s = .inl ⟨(nextL (cs R) s.i).2.1, s.toks ++ [tokAt R s], s.from_, false, s.out, dg⟩ := by unfold lineStep; rw [if_neg h10, if_neg hw, if_neg hc]; exact ⟨_, rfl⟩
        rw [he]
        refine ⟨?_, h.2⟩
        simp only [spell_app, spellL, List.length_append, List.length_cons, List.length_nil, tokAt, List.length_take]
        omega

theorem run_slen {R : List Rn} {n : Nat} : ∀ (k : Nat) (s : LS), s.i ≤ R.length → SLen R.length s → ∀ l ∈ (linesRun R n k s).1, (spellL l.toks).length ≤ 2 * R.length
  | 0, s, hi, h, l, hl => finL_slen h.2 l hl
  | k + 1, s, hle, h, l, hl => by
    unfold linesRun at hl
    split at hl
    · rename_i hi
      have hstep := step_slen (n := n) hi h
      split at hl
      · rename_i s' he
        rw [he] at hstep
        exact run_slen k s' (lineStep_i hi he).2 hstep l hl
      · rename_i r he
        rw [he] at hstep
        exact hstep l hl
    · exact finL_slen h.2 l hl

theorem spell_len {text : List UInt8} {l : Ln} (hl : l ∈ (linesL text).1) : (spellL l.toks).length ≤ 2 * (text.length + 1) :=
  Nat.le_trans (run_slen _ _ (Nat.zero_le _) ⟨by simp [spellL], by simp⟩ l hl) (Nat.mul_le_mul_left 2 (charsL_len text))
end Go.Proofs.YtfaoamdlknlgpaaGreat
