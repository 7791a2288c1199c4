/- LexGaps: the plain law: blanks and comments ahead of words. -/
import Derived.Test.YthbicbfdldpemaaLexBackSpec
namespace Go.Proofs.Ythbicbfdldpemaa
set_option linter.unusedVariables false

def kindsG : List (List UInt8) := [[32], [9], [47, 42, 42, 47], [47, 42, 32, 97, 32, 10, 32, 98, 32, 42, 47], [32, 47, 42, 32, 42, 32, 47, 32, 42, 47, 32], [11, 12]]
def tailG : List UInt8 := [32, 47, 47, 32, 99, 32, 47, 42, 32, 100, 10]
def spellG : List (List UInt8 × List UInt8) → List UInt8
  | [] => []
  | p :: ps => p.1 ++ (p.2 ++ spellG ps)

def Wd (w : List UInt8) : Prop := w ≠ [] ∧ ∀ c ∈ w, 97 ≤ c ∧ c ≤ 122

theorem all_bytesX (p : UInt8 → Bool) (h : (List.range 256).all (fun n => p n.toUInt8) = true) (c : UInt8) : p c = true := by
  have := List.all_eq_true.1 h c.toNat (by simpa using c.toNat_lt)
  simpa using this

theorem low_facts {c : UInt8} (h : 97 ≤ c ∧ c ≤ 122) : letterB c = true ∧ idB c = true ∧ c ≠ 34 ∧ c ≠ 39 ∧ c ≠ 56 ∧ c ≠ 10 ∧ whiteB c = false ∧ c ≠ 47 ∧ c ≠ 92 ∧ c ≠ 63 := by
  have := all_bytesX (fun c => !(decide (97 ≤ c) && decide (c ≤ 122)) || (letterB c && idB c && c != 34 && c != 39 && c != 56 && c != 10 && !whiteB c && c != 47 && c != 92 && c != 63)) (by decide +kernel) c
  simp only [h.1, h.2, decide_true, Bool.and_self, Bool.not_true, Bool.false_or, Bool.and_eq_true, bne_iff_ne, Bool.not_eq_true'] at this
  simp_all

theorem drop_step {A X : List UInt8} {i : Nat} {g rest : List UInt8} (h : A.drop i = g ++ rest) : A.drop (i + g.length) = rest := by
  rw [← List.drop_drop, h, List.drop_left]

theorem drop_len {A : List UInt8} {i : Nat} {c : UInt8} {rest : List UInt8} (h : A.drop i = c :: rest) : i < A.length ∧ chAt A i = c := by
  refine ⟨?_, ?_⟩
  · have := congrArg List.length h
    rw [List.length_drop] at this
    simp at this
    omega
  · have := chAt_drop A i 0
    rw [h] at this
    exact this.symm

theorem white_step {R : List Rn} {n : Nat} {s : LS} {c : UInt8} {rest : List UInt8} (hd : (cs R).drop s.i = c :: rest) (hw : whiteB c = true) (h10 : c ≠ 10) : linesFrom R n s = linesFrom R n ⟨s.i + 1, s.toks, s.from_, true, s.out, s.diags⟩ := by
  obtain ⟨h1, h2⟩ := drop_len hd
  rw [cs_len] at h1
  refine linesFrom_inl h1 ?_
  unfold lineStep
  rw [if_neg (by rw [h2]; exact h10), if_pos (by rw [h2]; exact hw)]

theorem com_step' {R : List Rn} {n : Nat} {s : LS} {e : Nat} {X : List UInt8} (hd : (cs R).drop s.i = 47 :: 42 :: X) (hc : comEnd (s.i + 2) X = some e) (he : s.i < e) : linesFrom R n s = linesFrom R n ⟨e, s.toks, s.from_, true, s.out, s.diags⟩ := by
  obtain ⟨h1, h2⟩ := drop_len hd
  have h3 : chAt (cs R) (s.i + 1) = 42 := by
    have := chAt_drop (cs R) s.i 1
    rw [hd] at this
    exact this.symm
  have hX : (cs R).drop (s.i + 2) = X := by rw [← List.drop_drop, hd]; rfl
  rw [cs_len] at h1
  have hcm : commentL (cs R) s.i = (e, false) := by
    unfold commentL
    rw [if_neg (by simp [h2]), if_neg (by rw [h3]; decide), if_neg (by simp [h3]), hX, hc]
  refine linesFrom_inl h1 ?_
  unfold lineStep
  rw [if_neg (by rw [h2]; decide), if_neg (by rw [h2]; decide), hcm, if_pos he]
  simp

theorem gap_step {R : List Rn} {n : Nat} {s : LS} {g rest : List UInt8} (hg : g ∈ kindsG) (hd : (cs R).drop s.i = g ++ rest) : linesFrom R n s = linesFrom R n ⟨s.i + g.length, s.toks, s.from_, true, s.out, s.diags⟩ := by
  simp only [kindsG, List.mem_cons, List.not_mem_nil, or_false] at hg
  rcases hg with rfl | rfl | rfl | rfl | rfl | rfl
  · exact white_step hd (by decide) (by decide)
  · exact white_step hd (by decide) (by decide)
  · exact com_step' (e := s.i + 4) (X := 42 :: 47 :: rest) hd (by simp [comEnd]) (by omega)
  · exact com_step' (e := s.i + 11) (X := [32, 97, 32, 10, 32, 98, 32, 42, 47] ++ rest) (by rw [hd]; rfl) (by simp [comEnd]) (by omega)
  · rw [white_step (c := 32) hd (by decide) (by decide)]
    have hd2 : (cs R).drop (s.i + 1) = 47 :: 42 :: ([32, 42, 32, 47, 32, 42, 47, 32] ++ rest) := by rw [← List.drop_drop, hd]; rfl
    rw [com_step' (s := ⟨s.i + 1, s.toks, s.from_, true, s.out, s.diags⟩) (e := s.i + 10) hd2 (by simp [comEnd]) (by simp only; omega)]
    have hd3 : (cs R).drop (s.i + 10) = 32 :: rest := by rw [← List.drop_drop, hd]; rfl
    rw [white_step (s := ⟨s.i + 10, s.toks, s.from_, true, s.out, s.diags⟩) (c := 32) hd3 (by decide) (by decide)]
    rfl
  · rw [white_step (c := 11) hd (by decide) (by decide)]
    have hd2 : (cs R).drop (s.i + 1) = 12 :: rest := by rw [← List.drop_drop, hd]; rfl
    rw [white_step (s := ⟨s.i + 1, s.toks, s.from_, true, s.out, s.diags⟩) (c := 12) hd2 (by decide) (by decide)]
    rfl

theorem while_word {w r : List UInt8} {c : UInt8} (hw : ∀ x ∈ w, idB x = true) (hc : idB c = false) : (w ++ c :: r).takeWhile idB = w := by
  induction w with
  | nil => simp [hc]
  | cons a w ih => simp [hw a (by simp), ih (fun x hx => hw x (by simp [hx]))]

theorem word_next {w r : List UInt8} {c : UInt8} (hw : Wd w) (hc : idB c = false ∧ c ≠ 34 ∧ c ≠ 39) : nextL (w ++ c :: r) 0 = (1, w.length, false) := by
  obtain ⟨x, w', rfl⟩ : ∃ x w', w = x :: w' := by cases w with | nil => exact absurd rfl hw.1 | cons x w' => exact ⟨x, w', rfl⟩
  have hx := low_facts (hw.2 x (by simp))
  have hl : lettersL (x :: w' ++ c :: r) 0 = -1 := by
    have c0 : chAt (x :: w' ++ c :: r) 0 = x := rfl
    have c1 : chAt (x :: w' ++ c :: r) 1 ≠ 34 ∧ chAt (x :: w' ++ c :: r) 1 ≠ 39 ∧ chAt (x :: w' ++ c :: r) 1 ≠ 56 := by
      cases w' with
      | nil =>
        have : chAt ([x] ++ c :: r) 1 = c := rfl
        rw [this]
        refine ⟨hc.2.1, hc.2.2, fun e => ?_⟩
        rw [e] at hc
        exact absurd hc.1 (by decide)
      | cons y w' =>
        have : chAt (x :: y :: w' ++ c :: r) 1 = y := rfl
        have hy := low_facts (hw.2 y (by simp))
        rw [this]
        exact ⟨hy.2.2.1, hy.2.2.2.1, hy.2.2.2.2.1⟩
    unfold lettersL
    rw [c0, if_neg (by simp [hx.2.2.1, hx.2.2.2.1]), if_neg (fun h => c1.2.2 h.2.1), if_neg (fun h => h.2.elim c1.1 c1.2.1)]
  have hw2 : ∀ y ∈ w', idB y = true := fun y hy => (low_facts (hw.2 y (by simp [hy]))).2.1
  have hdr : (x :: w' ++ c :: r).drop (0 + 1) = w' ++ c :: r := rfl
  unfold nextL
  rw [hl, if_neg (by omega), if_neg (by omega), if_neg (by omega), if_pos (show letterB (chAt (x :: w' ++ c :: r) 0) = true from hx.1), hdr, while_word hw2 hc.1, List.length_cons]
  simp only [Prod.mk.injEq, and_true, true_and]
  omega

theorem word_step {R : List Rn} {n : Nat} {s : LS} {w r : List UInt8} {c : UInt8} (hw : Wd w) (hc : idB c = false ∧ c ≠ 34 ∧ c ≠ 39) (hd : (cs R).drop s.i = w ++ c :: r) :
    ∃ t : Tk, (t.kind = 1 ∧ t.text = w ∧ t.space = s.space) ∧ linesFrom R n s = linesFrom R n ⟨s.i + w.length, s.toks ++ [t], s.from_, false, s.out, s.diags⟩ := by
  obtain ⟨x, w', rfl⟩ : ∃ x w', w = x :: w' := by cases w with | nil => exact absurd rfl hw.1 | cons x w' => exact ⟨x, w', rfl⟩
  have hx := low_facts (hw.2 x (by simp))
  obtain ⟨h1, h2⟩ := drop_len hd
  rw [cs_len] at h1
  have hnx : nextL (cs R) s.i = (1, s.i + (x :: w').length, false) := by rw [next_shift, hd, word_next hw hc]
  have hcm : commentL (cs R) s.i = (s.i, false) := com_no (fun h => by rw [h2] at h; exact absurd h hx.2.2.2.2.2.2.2.1)
  refine ⟨tokAt R s, ?_, linesFrom_inl h1 ?_⟩
  · unfold tokAt
    rw [hnx]
    simp only
    refine ⟨trivial, ?_, trivial⟩
    rw [hd, show s.i + (x :: w').length - s.i = (x :: w').length by omega, List.take_left]
  · unfold lineStep
    rw [if_neg (by rw [h2]; exact hx.2.2.2.2.2.1), if_neg (by rw [h2, hx.2.2.2.2.2.2.1]; decide), hcm, if_neg (by omega), hnx]
    rfl

theorem tail_run {R : List Rn} {n : Nat} {s : LS} (hd : (cs R).drop s.i = tailG) (ho : s.out = []) (hg : s.diags = []) (hf : s.from_ = 0) : linesFrom R n s = ([⟨s.toks, 0, n, false⟩], []) := by
  unfold tailG at hd
  rw [white_step hd (by decide) (by decide)]
  have hd2 : (cs R).drop (s.i + 1) = [47, 47, 32, 99, 32, 47, 42, 32, 100, 10] := by rw [← List.drop_drop, hd]; rfl
  have hlen : R.length = s.i + 11 := by
    have := congrArg List.length hd
    rw [List.length_drop, cs_len] at this
    simp at this
    omega
  have h2 := (drop_len hd2).2
  have h3 : chAt (cs R) (s.i + 1 + 1) = 47 := by
    have := chAt_drop (cs R) (s.i + 1) 1
    rw [hd2] at this
    exact this.symm
  have hcm : commentL (cs R) (s.i + 1) = (s.i + 10, false) := by
    unfold commentL
    rw [if_neg (by simp [h2]), if_pos h3, hd2]
    rfl
  rw [linesFrom_inl (s := ⟨s.i + 1, s.toks, s.from_, true, s.out, s.diags⟩) (s' := ⟨s.i + 10, s.toks, s.from_, true, s.out, s.diags⟩) (by simp only; omega) (by
    unfold lineStep
    simp only
    rw [if_neg (by rw [h2]; decide), if_neg (by rw [h2]; decide), hcm, if_pos (by omega)]
    simp)]
  have hd3 : (cs R).drop (s.i + 10) = [10] := by rw [← List.drop_drop, hd]; rfl
  have h4 := (drop_len hd3).2
  rw [linesFrom_inl (s := ⟨s.i + 10, s.toks, s.from_, true, s.out, s.diags⟩) (s' := ⟨s.i + 11, [], rT R (s.i + 10), false, s.out ++ [⟨s.toks, s.from_, rT R (s.i + 10), false⟩], s.diags⟩) (by simp only; omega) (by
    unfold lineStep
    simp only
    rw [if_pos h4]), linesFrom_end (by simp only; omega), ho, hg, hf]
  rfl

theorem gap_head {g : List UInt8} (hg : g ∈ kindsG) : ∃ c g', g = c :: g' ∧ idB c = false ∧ c ≠ 34 ∧ c ≠ 39 := by
  simp only [kindsG, List.mem_cons, List.not_mem_nil, or_false] at hg
  rcases hg with rfl | rfl | rfl | rfl | rfl | rfl <;> exact ⟨_, _, rfl, by decide, by decide, by decide⟩

theorem spell_head {gs : List (List UInt8 × List UInt8)} (h : ∀ p ∈ gs, p.1 ∈ kindsG ∧ Wd p.2) : ∃ c r, spellG gs ++ tailG = c :: r ∧ idB c = false ∧ c ≠ 34 ∧ c ≠ 39 := by
  cases gs with
  | nil => exact ⟨_, _, rfl, by decide, by decide, by decide⟩
  | cons p ps =>
    obtain ⟨c, g', e, hc⟩ := gap_head (h p (by simp)).1
    exact ⟨c, _, by simp only [spellG, e, List.cons_append]; rfl, hc⟩

theorem gaps_run {R : List Rn} (n : Nat) : ∀ (gs : List (List UInt8 × List UInt8)) (s : LS), (∀ p ∈ gs, p.1 ∈ kindsG ∧ Wd p.2) → (cs R).drop s.i = spellG gs ++ tailG → s.out = [] → s.diags = [] → s.from_ = 0 →
    ∃ toks' : List Tk, linesFrom R n s = ([⟨s.toks ++ toks', 0, n, false⟩], []) ∧ toks'.map (fun t => (t.kind, t.text, t.space)) = gs.map (fun p => (1, p.2, true))
  | [], s, _, hd, ho, hg, hf => ⟨[], by rw [tail_run hd ho hg hf, List.append_nil], rfl⟩
  | p :: ps, s, h, hd, ho, hg, hf => by
    have hp := h p (by simp)
    have hd1 : (cs R).drop s.i = p.1 ++ (p.2 ++ (spellG ps ++ tailG)) := by rw [hd]; simp [spellG]
    have hd2 := drop_step (X := []) hd1
    obtain ⟨c, r, hcr, hc⟩ := spell_head (gs := ps) (fun q hq => h q (by simp [hq]))
    have hd3 : (cs R).drop (s.i + p.1.length) = p.2 ++ c :: r := by rw [hd2, hcr]
    obtain ⟨t, ht, hs⟩ := word_step (n := n) (s := ⟨s.i + p.1.length, s.toks, s.from_, true, s.out, s.diags⟩) hp.2 hc hd3
    have hd4 := drop_step (X := []) hd2
    obtain ⟨tk', h1, h2⟩ := gaps_run n ps ⟨s.i + p.1.length + p.2.length, s.toks ++ [t], s.from_, false, s.out, s.diags⟩ (fun q hq => h q (by simp [hq])) hd4 ho hg hf
    refine ⟨t :: tk', ?_, ?_⟩
    · rw [gap_step hp.1 hd1, hs, h1]
      simp
    · rw [List.map_cons, h2, List.map_cons, ht.1, ht.2.1, ht.2.2]

theorem cs_plain10 {l : List UInt8} (h : ∀ c ∈ l, c ≠ 92 ∧ c ≠ 63) (hl : l.getLast? = some 10) : cs (charsL l) = l := by
  have hst := standL_plain (plain_of h)
  unfold charsL
  rw [if_neg]
  · unfold cs
    rw [hst, idL_c]
  · rintro ⟨hne, h1 | h1⟩
    · rw [hst] at h1
      apply hne
      rw [← idL_c l 0, h1]
      rfl
    · apply h1
      rw [hst, ← List.getLast?_map, idL_c, hl]

theorem spellG_mem : ∀ {gs : List (List UInt8 × List UInt8)}, (∀ p ∈ gs, p.1 ∈ kindsG ∧ Wd p.2) → ∀ c ∈ spellG gs, c ≠ 92 ∧ c ≠ 63
  | [], _, c, h => by simp [spellG] at h
  | p :: ps, hG, c, h => by
    simp only [spellG, List.mem_append] at h
    have hp := hG p (by simp)
    rcases h with h | h | h
    · exact (show ∀ g ∈ kindsG, ∀ c ∈ g, c ≠ 92 ∧ c ≠ 63 by decide) _ hp.1 c h
    · have := low_facts (hp.2.2 c h)
      exact ⟨this.2.2.2.2.2.2.2.2.1, this.2.2.2.2.2.2.2.2.2⟩
    · exact spellG_mem (fun q hq => hG q (by simp [hq])) c h

theorem lex_gaps {gs : List (List UInt8 × List UInt8)} (hG : ∀ p ∈ gs, p.1 ∈ kindsG ∧ Wd p.2) : ∃ toks' : List Tk, linesL (spellG gs ++ tailG) = ([⟨toks', 0, (spellG gs ++ tailG).length, false⟩], []) ∧ toks'.map (fun t => (t.kind, t.text, t.space)) = gs.map (fun p => (1, p.2, true)) := by
  have hcs : cs (charsL (spellG gs ++ tailG)) = spellG gs ++ tailG := by
    refine cs_plain10 (fun c hc => ?_) ?_
    · rcases List.mem_append.1 hc with hc | hc
      · exact spellG_mem hG c hc
      · exact (show ∀ c ∈ tailG, c ≠ 92 ∧ c ≠ 63 by decide) c hc
    · rw [List.getLast?_append]
      rfl
  obtain ⟨tk', h1, h2⟩ := gaps_run (R := charsL (spellG gs ++ tailG)) (spellG gs ++ tailG).length gs ⟨0, [], 0, false, [], []⟩ hG (by simp [hcs]) rfl rfl rfl
  exact ⟨tk', by simpa [linesL, linesFrom] using h1, h2⟩

theorem spellG_app : ∀ (a b : List (List UInt8 × List UInt8)), spellG (a ++ b) = spellG a ++ spellG b
  | [], b => rfl
  | p :: a, b => by simp [spellG, spellG_app a b]
end Go.Proofs.Ythbicbfdldpemaa
