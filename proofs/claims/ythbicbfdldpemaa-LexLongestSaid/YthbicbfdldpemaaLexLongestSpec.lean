/- LexLongest: the plain law: signs in a row. -/
import Derived.Test.YthbicbfdldpemaaLxShift
import Derived.Test.YthbicbfdldpemaaLexBackSpec
import Derived.Test.YthbicbfdldpemaaLw21
namespace Go.Proofs.Ythbicbfdldpemaa
set_option linter.unusedVariables false

def signsL : List UInt8 := [91, 93, 40, 41, 123, 125, 46, 38, 42, 43, 45, 126, 33, 47, 37, 60, 62, 61, 94, 124, 63, 58, 59, 44, 35]

theorem sign_facts : ∀ c ∈ signsL, c ≠ 34 ∧ c ≠ 39 ∧ c ≠ 117 ∧ c ≠ 76 ∧ c ≠ 85 ∧ letterB c = false ∧ digitB c = false ∧ c ≠ 10 ∧ whiteB c = false ∧ c ≠ 92 ∧ [c] ∈ punctsL := by decide

structure SgOk (S : List UInt8) : Prop where
  sg : ∀ c ∈ S, c ∈ signsL
  nc : NoCom S
  qq : ∀ i, chAt S i = 63 → chAt S (i + 1) ≠ 63

theorem plain_noqq : ∀ (l : List UInt8) (p : Nat), (∀ i, chAt l i = 63 → chAt l (i + 1) ≠ 63) → plainL p l = idL p l
  | [], _, _ => rfl
  | [a], _, _ => rfl
  | [a, b], _, _ => rfl
  | a :: b :: c :: r, p, h => by
    have h0 := h 0
    simp only [plainL]
    rw [if_neg (fun hh => h0 hh.1 hh.2.1), plain_noqq (b :: c :: r) (p + 1) (fun i hi => h (i + 1) hi)]
    rfl

theorem sg_chars {S : List UInt8} (h : SgOk S) (hne : S ≠ []) : charsL S = idL 0 S ++ [⟨10, S.length, S.length⟩] := by
  have hst : standL S = idL 0 S := by
    unfold standL
    rw [plain_noqq S 0 h.qq, splicedL_no92]
    intro r hr
    have := (idL_mem S 0 r hr).1
    exact (sign_facts _ (h.sg _ this)).2.2.2.2.2.2.2.2.2.1
  unfold charsL
  rw [if_pos, hst]
  refine ⟨hne, .inr ?_⟩
  rw [hst, ← List.getLast?_map, idL_c]
  intro e
  have := h.sg 10 (List.mem_of_getLast? e)
  exact absurd this (by decide)

theorem sg_cs {S : List UInt8} (h : SgOk S) (hne : S ≠ []) : cs (charsL S) = S ++ [10] := by
  rw [sg_chars h hne]
  unfold cs
  rw [List.map_append, idL_c]
  rfl

/-- signs begin with a punctuator -/
theorem sign_next {X : List UInt8} {c : UInt8} {r : List UInt8} (hX : X = c :: r) (hc : c ∈ signsL) (hd : digitB (chAt X 1) = false) : nextL X 0 = (5, punctL X 0, false) ∧ 0 < punctL X 0 ∧ lettersL X 0 = -1 := by
  have hf := sign_facts c hc
  have h0 : chAt X 0 = c := by rw [hX]; rfl
  have hl : lettersL X 0 = -1 := letters_neg (by rw [h0]; exact ⟨hf.1, hf.2.1, hf.2.2.1, hf.2.2.2.1, hf.2.2.2.2.1⟩)
  have hn : numL X 0 = 0 := by
    unfold numL
    rw [if_neg]
    rw [h0, hf.2.2.2.2.2.2.1, hd]
    simp
  have hp : 0 < punctL X 0 := by
    unfold punctL
    rw [List.drop_zero]
    cases hx : punctsL.find? fun p => p.isPrefixOf X with
    | none =>
      have := List.find?_eq_none.1 hx [c] hf.2.2.2.2.2.2.2.2.2.2
      exact absurd (List.isPrefixOf_iff_prefix.2 (by rw [hX]; exact ⟨r, rfl⟩)) this
    | some p =>
      have := (puncts_no32 p (List.mem_of_find?_eq_some hx)).2
      simpa using List.length_pos_iff.2 this
  refine ⟨?_, hp, hl⟩
  unfold nextL
  rw [hl, if_neg (by omega), if_neg (by omega), if_neg (by omega), if_neg (by rw [h0, hf.2.2.2.2.2.1]; decide), hn, if_neg (by omega), if_pos hp, Nat.zero_add]

/-- a token of signs -/
structure LTok (S : List UInt8) (t : Tk) : Prop where
  kind : t.kind = 5
  space : t.space = false
  pos : 0 < t.text.length
  fits : t.f + t.text.length ≤ S.length
  text : t.text = (S.drop t.f).take t.text.length
  first : (punctsL.find? fun p => p.isPrefixOf (S.drop t.f)) = some t.text

theorem puncts_no10 : ∀ p ∈ punctsL, (10 : UInt8) ∉ p := by decide

theorem prefix_nl {x t : List UInt8} (h : x <+: t ++ [10]) (hx : (10 : UInt8) ∉ x) : x <+: t := by
  obtain ⟨s, hs⟩ := h
  rcases List.append_eq_append_iff.1 hs with ⟨a, h1, h2⟩ | ⟨a, h1, h2⟩
  · exact ⟨a, h1.symm⟩
  · cases a with
    | nil => simp at h1; exact ⟨[], by simp [h1]⟩
    | cons b a =>
      exfalso
      apply hx
      simp only [List.cons_append, List.cons.injEq] at h2
      rw [h1, ← h2.1]
      simp

theorem nodigit {S : List UInt8} (h : SgOk S) (i : Nat) : digitB (chAt (S ++ [10]) i) = false := by
  rcases Nat.lt_or_ge i S.length with h1 | h1
  · rw [chAt_app_lt h1, chAt_lt (List.getElem?_eq_getElem h1)]
    exact (sign_facts _ (h.sg _ (List.getElem_mem h1))).2.2.2.2.2.2.1
  · rw [chAt_app_ge h1]
    cases hh : i - S.length with
    | zero => rfl
    | succ k => rw [show chAt [10] (k + 1) = 0 from chAt_ge (by simp)]; rfl

theorem nocom10 {S : List UInt8} (h : NoCom S) : NoCom (S ++ [10]) := by
  intro i h0
  rcases Nat.lt_or_ge i S.length with h1 | h1
  · rw [chAt_app_lt h1] at h0
    have := h i h0
    rcases Nat.lt_or_ge (i + 1) S.length with h2 | h2
    · rw [chAt_app_lt h2]; exact this
    · rw [chAt_app_ge h2, show i + 1 - S.length = 0 by omega]; exact ⟨by decide, by decide⟩
  · rw [chAt_app_ge h1] at h0
    exfalso
    cases hh : i - S.length with
    | zero => rw [hh] at h0; exact absurd h0 (by decide)
    | succ k => rw [hh, show chAt [10] (k + 1) = 0 from chAt_ge (by simp)] at h0; exact absurd h0 (by decide)

theorem sg_run {S : List UInt8} (h : SgOk S) (hne : S ≠ []) (n : Nat) : ∀ (d : Nat) (s : LS), s.i + d = S.length → s.out = [] → s.diags = [] → s.from_ = 0 → s.space = false →
    ∃ toks' : List Tk, linesFrom (charsL S) n s = ([⟨s.toks ++ toks', 0, n, false⟩], []) ∧ (∀ t ∈ toks', LTok S t) ∧ (toks'.map (·.text)).flatten = S.drop s.i := by
  intro d
  induction d using Nat.strongRecOn with
  | _ d ih =>
    intro s hi ho hg hf hsp
    have hcs := sg_cs h hne
    have hR : (charsL S).length = S.length + 1 := by rw [← cs_len, hcs]; simp
    by_cases hd : d = 0
    · have hie : s.i = S.length := by omega
      have h10 : chAt (cs (charsL S)) s.i = 10 := by rw [hcs, hie, chAt_app_ge (Nat.le_refl _), Nat.sub_self]; rfl
      refine ⟨[], ?_, by simp, by rw [List.drop_eq_nil_of_le (by omega)]; rfl⟩
      rw [linesFrom_inl (s' := ⟨s.i + 1, [], rT (charsL S) s.i, false, s.out ++ [⟨s.toks, s.from_, rT (charsL S) s.i, false⟩], s.diags⟩) (by omega) (by unfold lineStep; rw [if_pos h10]), linesFrom_end (by simp only; omega), ho, hg, hf, List.append_nil]
      rfl
    · have hlt : s.i < S.length := by omega
      have hdr : (cs (charsL S)).drop s.i = S.drop s.i ++ [10] := by rw [hcs, List.drop_append_of_le_length (by omega)]
      have hdS : S.drop s.i = S[s.i] :: S.drop (s.i + 1) := List.drop_eq_getElem_cons hlt
      have hc := h.sg _ (List.getElem_mem hlt)
      have hfc := sign_facts _ hc
      have hc0 : chAt (cs (charsL S)) s.i = S[s.i] := by rw [hcs, chAt_app_lt hlt, chAt_lt (List.getElem?_eq_getElem hlt)]
      have hX : (cs (charsL S)).drop s.i = S[s.i] :: (S.drop (s.i + 1) ++ [10]) := by rw [hdr, hdS]; rfl
      have hsn := sign_next hX hc (by rw [chAt_drop, hcs]; exact nodigit h _)
      obtain ⟨p, hfp⟩ : ∃ p, (punctsL.find? fun p => p.isPrefixOf (S.drop s.i)) = some p := by
        cases hx : punctsL.find? fun p => p.isPrefixOf (S.drop s.i) with
        | some p => exact ⟨p, rfl⟩
        | none =>
          have := List.find?_eq_none.1 hx [S[s.i]] hfc.2.2.2.2.2.2.2.2.2.2
          exact absurd (List.isPrefixOf_iff_prefix.2 (by rw [hdS]; exact ⟨_, rfl⟩)) this
      have hpX : p <+: S.drop s.i := by
        have := List.find?_some hfp
        exact List.isPrefixOf_iff_prefix.1 this
      have hpl : 0 < p.length := List.length_pos_iff.2 (puncts_no32 p (List.mem_of_find?_eq_some hfp)).2
      have hpp : punctL ((cs (charsL S)).drop s.i) 0 = p.length := punct_same hfp (by rw [hdr]; exact hpX.trans (List.prefix_append _ _)) (fun x hx hxY => by rw [hdr] at hxY; exact prefix_nl hxY (puncts_no10 x hx))
      have hple : s.i + p.length ≤ S.length := by
        have := hpX.length_le
        rw [List.length_drop] at this
        omega
      have hnx : nextL (cs (charsL S)) s.i = (5, s.i + p.length, false) := by rw [next_shift, hsn.1, hpp]
      have hcm : commentL (cs (charsL S)) s.i = (s.i, false) := com_no (by rw [hcs]; exact nocom10 h.nc s.i)
      have hst : linesFrom (charsL S) n s = linesFrom (charsL S) n ⟨s.i + p.length, s.toks ++ [tokAt (charsL S) s], s.from_, false, s.out, s.diags⟩ := by
        refine linesFrom_inl (by omega) ?_
        unfold lineStep
        rw [if_neg (by rw [hc0]; exact hfc.2.2.2.2.2.2.2.1), if_neg (by rw [hc0, hfc.2.2.2.2.2.2.2.2.1]; decide), hcm, if_neg (by omega), hnx]
        rfl
      have hpt : p = (S.drop s.i).take p.length := List.prefix_iff_eq_take.1 hpX
      have hrf : rF (charsL S) s.i = s.i := by
        have := idL_at S 0 s.i S[s.i] (List.getElem?_eq_getElem hlt)
        unfold rF
        rw [sg_chars h hne, List.getElem?_append_left (List.getElem?_eq_some_iff.1 this).1, this]
        simp
      have htk : tokAt (charsL S) s = ⟨5, p, false, s.i, rT (charsL S) (s.i + p.length - 1)⟩ := by
        unfold tokAt
        rw [hnx, hsp, hrf]
        simp only
        rw [hdr, show s.i + p.length - s.i = p.length by omega, List.take_append_of_le_length (by rw [List.length_drop]; omega), ← hpt]
      obtain ⟨tk', h1, h2, h3⟩ := ih (d - p.length) (by omega) ⟨s.i + p.length, s.toks ++ [tokAt (charsL S) s], s.from_, false, s.out, s.diags⟩ (by simp only; omega) ho hg hf rfl
      refine ⟨tokAt (charsL S) s :: tk', ?_, ?_, ?_⟩
      · rw [hst, h1]; simp
      · intro t ht
        rcases List.mem_cons.1 ht with rfl | ht
        · rw [htk]
          exact ⟨rfl, rfl, hpl, hple, hpt, hfp⟩
        · exact h2 t ht
      · rw [List.map_cons, List.flatten_cons, h3, htk]
        simp only
        conv => rhs; rw [← List.take_append_drop p.length (S.drop s.i), ← hpt, List.drop_drop]

theorem lex_signs {S : List UInt8} (h : SgOk S) (hne : S ≠ []) : ∃ toks' : List Tk, linesL S = ([⟨toks', 0, S.length, false⟩], []) ∧ (∀ t ∈ toks', LTok S t) ∧ (toks'.map (·.text)).flatten = S := by
  obtain ⟨tk', h1, h2, h3⟩ := sg_run h hne S.length S.length ⟨0, [], 0, false, [], []⟩ (by simp) rfl rfl rfl rfl
  exact ⟨tk', by simpa [linesL, linesFrom] using h1, h2, by simpa using h3⟩

/-- One of a piece that begins where a token begins -/
theorem piece_one {S : List UInt8} (h : SgOk S) {t : Tk} (ht : LTok S t) {k : Nat} (hk : t.text.length ≤ k) (hfk : t.f + k ≤ S.length) {e : Ending} (hp : OnePost ((S.drop t.f).take k) e) :
    e = .returned (.tuple #[.agg (if t.text.length < k then zeroTok.toArray else #[.int .i64 5, .string ⟨t.text.toArray⟩, .bool false, .string ⟨#[]⟩, .int .i64 0, .int .i64 0, .bool false, .slice none 0 0]), .bool (decide (¬ t.text.length < k))]) := by
  have hpos := ht.pos
  have hlt : t.f < S.length := by have := ht.fits; omega
  have hl : ((S.drop t.f).take k).length = k := by rw [List.length_take, List.length_drop]; omega
  have hc := h.sg _ (List.getElem_mem hlt)
  have hfc := sign_facts _ hc
  obtain ⟨k', rfl⟩ : ∃ k', k = k' + 1 := ⟨k - 1, by omega⟩
  have hX : (S.drop t.f).take (k' + 1) = S[t.f] :: (S.drop (t.f + 1)).take k' := by rw [List.drop_eq_getElem_cons hlt, List.take_succ_cons]
  have hc0 : chAt ((S.drop t.f).take (k' + 1)) 0 = S[t.f] := by rw [hX]; rfl
  have hc1 : digitB (chAt ((S.drop t.f).take (k' + 1)) 1) = false ∧ (chAt ((S.drop t.f).take (k' + 1)) 0 = 47 → chAt ((S.drop t.f).take (k' + 1)) 1 ≠ 47 ∧ chAt ((S.drop t.f).take (k' + 1)) 1 ≠ 42) := by
    rcases Nat.lt_or_ge 1 (k' + 1) with h1 | h1
    · rw [chAt_take h1, chAt_take (by omega), chAt_drop, chAt_drop]
      refine ⟨?_, fun h0 => h.nc t.f h0⟩
      have := nodigit h (t.f + 1)
      rw [chAt_app_lt (by omega)] at this
      exact this
    · rw [chAt_ge (i := 1) (by omega)]
      exact ⟨rfl, fun _ => ⟨by decide, by decide⟩⟩
  have hsn := sign_next hX hc hc1.1
  have hfull : t.text <+: (S.drop t.f).take (k' + 1) := by
    rw [ht.text]
    have : (S.drop t.f).take t.text.length = ((S.drop t.f).take (k' + 1)).take t.text.length := by rw [List.take_take, Nat.min_eq_left hk]
    rw [this]
    exact List.take_prefix _ _
  have hpp : punctL ((S.drop t.f).take (k' + 1)) 0 = t.text.length := punct_same ht.first hfull (fun x hx hxY => hxY.trans (List.take_prefix _ _))
  have htb : tellB ((S.drop t.f).take (k' + 1)) 0 (-1) = false := by
    unfold tellB
    rw [decide_eq_false_iff_not, hsn.2.2]
    intro hh
    exact hh.1 (by decide)
  have hcm := com_no (A := (S.drop t.f).take (k' + 1)) (i := 0) hc1.2
  have := one_tok hp (by omega) (by rw [hc0]; exact hfc.2.2.2.2.2.2.2.1) (by rw [hc0]; exact hfc.2.2.2.2.2.2.2.2.1) (by rw [hcm]; omega)
  rw [hsn.1, hpp, htb, hl] at this
  simp only [Bool.false_eq_true, or_false] at this
  rw [List.take_take, Nat.min_eq_left hk, ← ht.text] at this
  exact this
end Go.Proofs.Ythbicbfdldpemaa
