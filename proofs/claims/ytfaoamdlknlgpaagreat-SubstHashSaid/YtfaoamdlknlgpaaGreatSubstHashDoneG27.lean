/- Texts of this seat's proofs, laid into one file. -/
import Derived.Test.YtfaoamdlknlgpaaGreatSubstHashDoneG26
import Derived.Test.YtfaoamdlknlgpaaGreatSubstHashDoneG14
/- A text of pieces (blanks and tokens) is lexed to its tokens: plain. -/
namespace Go.Proofs.YtfaoamdlknlgpaaGreat
set_option linter.unusedVariables false

abbrev Pc := Option (Nat × List UInt8)

def flatP : List Pc → List UInt8
  | [] => []
  | none :: ps => 32 :: flatP ps
  | some (_, t) :: ps => t ++ flatP ps

/-- each token is cut where it ends -/
def GoodP : List Pc → Prop
  | [] => True
  | none :: ps => GoodP ps
  | some (k, t) :: ps => (t ≠ [] ∧ chAt t 0 ≠ 10 ∧ chAt t 0 ≠ 47 ∧ whiteB (chAt t 0) = false ∧ nextL (t ++ (flatP ps ++ [10])) 0 = (k, t.length, false)) ∧ GoodP ps

def spacesP (sp : Bool) : List Pc → List Bool
  | [] => []
  | none :: ps => spacesP true ps
  | some _ :: ps => sp :: spacesP false ps

def tokP (ps : List Pc) : List (Nat × List UInt8) := ps.filterMap id

theorem relexP {R : List Rn} (n : Nat) : ∀ (ps : List Pc) (s : LS), GoodP ps → s.i ≤ R.length → (cs R).drop s.i = flatP ps ++ [10] → s.out = [] → s.diags = [] → s.from_ = 0 →
    ∃ toks', linesFrom R n s = ([⟨s.toks ++ toks', 0, n, false⟩], []) ∧ toks'.map (fun t => (t.kind, t.text)) = tokP ps ∧ toks'.map (·.space) = spacesP s.space ps
  | [], s, _, hi, hd, ho, hg, hf => by
    have hlen : (cs R).length = s.i + 1 := by
      have := congrArg List.length hd
      rw [List.length_drop] at this
      simp [flatP] at this
      omega
    rw [cs_len] at hlen
    have h10 : chAt (cs R) s.i = 10 := by
      have := chAt_drop (cs R) s.i 0
      rw [hd] at this
      exact this.symm
    refine ⟨[], ?_, rfl, rfl⟩
    rw [linesFrom_inl (s' := ⟨s.i + 1, [], rT R s.i, false, s.out ++ [⟨s.toks, s.from_, rT R s.i, false⟩], s.diags⟩) (by omega) (by unfold lineStep; rw [if_pos h10]), linesFrom_end (by simp only; omega), ho, hg, hf]
    simp [finL]
  | none :: ps, s, hG, hi, hd, ho, hg, hf => by
    have hd1 : (cs R).drop s.i = 32 :: (flatP ps ++ [10]) := by rw [hd]; simp [flatP]
    have hlen : (cs R).length = s.i + 1 + (flatP ps).length + 1 := by
      have := congrArg List.length hd1
      rw [List.length_drop] at this
      simp at this
      have hi2 : s.i ≤ (cs R).length := by rw [cs_len]; exact hi
      omega
    have hR := cs_len R
    have h32 : chAt (cs R) s.i = 32 := by
      have := chAt_drop (cs R) s.i 0
      rw [hd1] at this
      exact this.symm
    have st2 : linesFrom R n s = linesFrom R n ⟨s.i + 1, s.toks, s.from_, true, s.out, s.diags⟩ := by
      refine linesFrom_inl (by omega) ?_
      unfold lineStep
      rw [h32, if_neg (by decide), if_pos (by decide)]
    have hd2 : (cs R).drop (s.i + 1) = flatP ps ++ [10] := by
      rw [← List.drop_drop, hd1]; rfl
    obtain ⟨tk', h1, h2, h3⟩ := relexP n ps ⟨s.i + 1, s.toks, s.from_, true, s.out, s.diags⟩ hG (by simp only; omega) hd2 ho hg hf
    exact ⟨tk', by rw [st2, h1], h2, h3⟩
  | some (k, t) :: ps, s, hG, hi, hd, ho, hg, hf => by
    obtain ⟨⟨hne, hnl, h47, hwh, hnx0⟩, hG2⟩ := hG
    have hd1 : (cs R).drop s.i = t ++ (flatP ps ++ [10]) := by rw [hd]; simp [flatP]
    have htl : 0 < t.length := List.length_pos_iff.2 hne
    have hlen : (cs R).length = s.i + t.length + (flatP ps).length + 1 := by
      have := congrArg List.length hd1
      rw [List.length_drop] at this
      simp at this
      have hi2 : s.i ≤ (cs R).length := by rw [cs_len]; exact hi
      omega
    have hR := cs_len R
    have hc0 : chAt (cs R) s.i = chAt t 0 := by
      have := chAt_drop (cs R) s.i 0
      rw [hd1, chAt_app_lt htl] at this
      exact this.symm
    have hcm : ¬ s.i < (commentL (cs R) s.i).1 := by
      rw [com_no]
      · simp
      · intro h0
        rw [hc0] at h0
        exact absurd h0 h47
    have hnx : nextL (cs R) s.i = (k, s.i + t.length, false) := by
      rw [next_shift, hd1, hnx0]
    have htk : tokAt R s = ⟨k, t, s.space, rF R s.i, rT R (s.i + t.length - 1)⟩ := by
      unfold tokAt
      rw [hnx]
      simp only
      rw [hd1, show s.i + t.length - s.i = t.length by omega, List.take_left]
    have st1 : linesFrom R n s = linesFrom R n ⟨s.i + t.length, s.toks ++ [tokAt R s], s.from_, false, s.out, s.diags⟩ := by
      refine linesFrom_inl (by omega) ?_
      unfold lineStep
      rw [if_neg (by rw [hc0]; exact hnl), if_neg (by rw [hc0, hwh]; decide), if_neg hcm, hnx]
      rfl
    have hd2 : (cs R).drop (s.i + t.length) = flatP ps ++ [10] := by
      rw [← List.drop_drop, hd1, List.drop_left]
    obtain ⟨tk', h1, h2, h3⟩ := relexP n ps ⟨s.i + t.length, s.toks ++ [tokAt R s], s.from_, false, s.out, s.diags⟩ hG2 (by simp only; omega) hd2 ho hg hf
    refine ⟨tokAt R s :: tk', ?_, ?_, ?_⟩
    · rw [st1, h1]
      simp
    · rw [List.map_cons, h2, htk]
      rfl
    · rw [List.map_cons, h3, htk]
      rfl

theorem lex_pieces {ps : List Pc} (hne : flatP ps ≠ []) (hG : GoodP ps) (hm : ∀ c ∈ flatP ps, c ≠ 92 ∧ c ≠ 63 ∧ c ≠ 10) :
    ∃ toks', linesL (flatP ps) = ([⟨toks', 0, (flatP ps).length, false⟩], []) ∧ toks'.map (fun t => (t.kind, t.text)) = tokP ps ∧ toks'.map (·.space) = spacesP false ps := by
  have hcs : cs (charsL (flatP ps)) = flatP ps ++ [10] := by
    rcases cs_plain (fun c hc => ⟨(hm c hc).1, (hm c hc).2.1⟩) with h | h
    · exfalso
      obtain ⟨ini, r, h1, h2⟩ := charsL_last (flatP ps) hne
      have h10 : (10 : UInt8) ∈ cs (charsL (flatP ps)) := by
        rw [h1]
        unfold cs
        rw [List.map_append]
        simp [h2]
      rw [h] at h10
      exact (hm 10 h10).2.2 rfl
    · exact h
  obtain ⟨tk', h1, h2, h3⟩ := relexP (R := charsL (flatP ps)) (flatP ps).length ps ⟨0, [], 0, false, [], []⟩ hG (Nat.zero_le _) (by simp [hcs]) rfl rfl rfl
  exact ⟨tk', by simpa [linesL, linesFrom] using h1, h2, h3⟩

/-- the tokens of a text of pieces -/
theorem toks_pieces {ps : List Pc} (hG : GoodP ps) (hm : ∀ c ∈ flatP ps, c ≠ 92 ∧ c ≠ 63 ∧ c ≠ 10) :
    (toksL (flatP ps)).map (fun t => (t.kind, t.text)) = (tokP ps).map (fun p => ((p.1 : Int), bs p.2)) ∧ (toksL (flatP ps)).map (·.sp) = spacesP false ps ∧ ∀ t ∈ toksL (flatP ps), t.made = false := by
  by_cases hne : flatP ps = []
  · have h0 : ps = [] := by
      cases ps with
      | nil => rfl
      | cons p ps =>
        cases p with
        | none => simp [flatP] at hne
        | some p =>
          obtain ⟨k, t⟩ := p
          simp only [flatP, List.append_eq_nil_iff] at hne
          exact absurd hne.1 hG.1.1
    subst h0
    refine ⟨?_, ?_, ?_⟩
    · show (toksL []).map _ = []
      rfl
    · rfl
    · intro t ht
      have : toksL (flatP []) = [] := rfl
      rw [this] at ht
      cases ht
  · obtain ⟨tk, h1, h2, h3⟩ := lex_pieces hne hG hm
    have ht : toksL (flatP ps) = tk.map (Tk.tm (bs [102])) := by
      unfold toksL toksOf
      rw [h1]
    rw [ht]
    refine ⟨?_, ?_, ?_⟩
    · rw [← h2, List.map_map, List.map_map]
      rfl
    · rw [← h3, List.map_map]
      rfl
    · intro t h
      obtain ⟨k, _, rfl⟩ := List.mem_map.1 h
      rfl

/-! ## pieces of one sign, and names -/

theorem next_sign {c : UInt8} (hc : c = 40 ∨ c = 41 ∨ c = 44) (r : List UInt8) : nextL (c :: r) 0 = (5, 1, false) := by
  have h0 : chAt (c :: r) 0 = c := rfl
  have hl : lettersL (c :: r) 0 = -1 := letters_neg (by rw [h0]; rcases hc with rfl | rfl | rfl <;> decide)
  have hp : punctL (c :: r) 0 = 1 := by
    unfold punctL
    rw [List.drop_zero]
    rcases hc with rfl | rfl | rfl <;> simp [punctsL, List.find?, List.isPrefixOf]
  unfold nextL
  rw [hl, hp, h0]
  have hn : numL (c :: r) 0 = 0 := by
    unfold numL
    rw [h0, if_neg]
    rcases hc with rfl | rfl | rfl <;> simp [digitB]
  rw [hn]
  have h3 : letterB c = false := by rcases hc with rfl | rfl | rfl <;> decide
  simp [h3]

theorem next_name {c : UInt8} {t r : List UInt8} (hc : letterB c = true) (hq : c ≠ 117 ∧ c ≠ 76 ∧ c ≠ 85) (ht : ∀ d ∈ t, idB d = true) (hr : idB (chAt r 0) = false) : nextL (c :: (t ++ r)) 0 = (1, t.length + 1, false) := by
  have h0 : chAt (c :: (t ++ r)) 0 = c := rfl
  have hl : lettersL (c :: (t ++ r)) 0 = -1 := letters_neg (by
    rw [h0]
    refine ⟨?_, ?_, hq.1, hq.2.1, hq.2.2⟩ <;> (rintro rfl; exact absurd hc (by decide)))
  have hw : (t ++ r).takeWhile idB = t := by
    rw [List.takeWhile_append_of_pos ht]
    cases r with
    | nil => simp
    | cons d r =>
      have : idB d = false := hr
      simp [List.takeWhile, this]
  unfold nextL
  rw [hl, h0]
  simp [hc, hw, Nat.add_comm]
end Go.Proofs.YtfaoamdlknlgpaaGreat

/- ArgsNested: the plain law: brackets in brackets, their tokens, and how they part. -/
namespace Go.Proofs.YtfaoamdlknlgpaaGreat
set_option linter.unusedVariables false

def pO : Pc := some (5, [40])
def pS : Pc := some (5, [41])
def pC : Pc := some (5, [44])
def pX : Pc := some (1, [120])
def pY : Pc := some (1, [121])

def opensP : Nat → List Pc
  | 0 => []
  | d + 1 => pO :: pC :: opensP d
def shutsP : Nat → List Pc
  | 0 => []
  | d + 1 => pC :: pS :: shutsP d
def blockP (d : Nat) : List Pc := opensP d ++ pX :: shutsP d
def bodyF (b : Bool) : List Nat → List Pc
  | [] => []
  | d :: ds => (if b then [] else [pC]) ++ blockP d ++ bodyF false ds

theorem opens_snoc : ∀ d, opensP (d + 1) = opensP d ++ [pO, pC]
  | 0 => rfl
  | d + 1 => by
    show pO :: pC :: opensP (d + 1) = (pO :: pC :: opensP d) ++ [pO, pC]
    rw [opens_snoc d]
    rfl
theorem shuts_snoc : ∀ d, shutsP (d + 1) = shutsP d ++ [pC, pS]
  | 0 => rfl
  | d + 1 => by
    show pC :: pS :: shutsP (d + 1) = (pC :: pS :: shutsP d) ++ [pC, pS]
    rw [shuts_snoc d]
    rfl
theorem body_snoc : ∀ (b : Bool) (ds : List Nat) (d : Nat), bodyF b (ds ++ [d]) = bodyF b ds ++ (if b && ds.isEmpty then [] else [pC]) ++ blockP d
  | b, [], d => by cases b <;> simp [bodyF]
  | b, e :: ds, d => by
    rw [List.cons_append, bodyF, body_snoc false ds d, bodyF]
    simp

theorem flat_app : ∀ (a b : List Pc), flatP (a ++ b) = flatP a ++ flatP b
  | [], b => rfl
  | none :: a, b => by simp [flatP, flat_app a b]
  | some (k, t) :: a, b => by simp [flatP, flat_app a b]

/-! ## each is cut where it ends -/

/-- what stands behind a name -/
def endB (ps : List Pc) : Prop := idB (chAt (flatP ps ++ [10]) 0) = false

theorem good_sign {c : UInt8} (hc : c = 40 ∨ c = 41 ∨ c = 44) {ps : List Pc} (h : GoodP ps) : GoodP (some (5, [c]) :: ps) ∧ endB (some (5, [c]) :: ps) := by
  refine ⟨⟨⟨by simp, ?_, ?_, ?_, next_sign hc _⟩, h⟩, ?_⟩
  · rcases hc with rfl | rfl | rfl <;> decide
  · rcases hc with rfl | rfl | rfl <;> decide
  · rcases hc with rfl | rfl | rfl <;> decide
  · show idB c = false
    rcases hc with rfl | rfl | rfl <;> decide

theorem good_name {c : UInt8} (hc : c = 120 ∨ c = 121) {ps : List Pc} (h : GoodP ps) (he : endB ps) : GoodP (some (1, [c]) :: ps) := by
  refine ⟨⟨by simp, ?_, ?_, ?_, ?_⟩, h⟩
  · rcases hc with rfl | rfl <;> decide
  · rcases hc with rfl | rfl <;> decide
  · rcases hc with rfl | rfl <;> decide
  · exact next_name (t := []) (by rcases hc with rfl | rfl <;> decide) (by rcases hc with rfl | rfl <;> decide) (by simp) he

theorem good_opens {ps : List Pc} (h : GoodP ps) : ∀ d, GoodP (opensP d ++ ps)
  | 0 => h
  | d + 1 => (good_sign (.inl rfl) (good_sign (.inr (.inr rfl)) (good_opens h d)).1).1

theorem good_shuts {ps : List Pc} (h : GoodP ps) (he : endB ps) : ∀ d, GoodP (shutsP d ++ ps) ∧ endB (shutsP d ++ ps)
  | 0 => ⟨h, he⟩
  | d + 1 => good_sign (.inr (.inr rfl)) (good_sign (.inr (.inl rfl)) (good_shuts h he d).1).1

theorem good_block {ps : List Pc} (h : GoodP ps) (he : endB ps) (d : Nat) : GoodP (blockP d ++ ps) := by
  unfold blockP
  rw [List.append_assoc]
  obtain ⟨h1, h2⟩ := good_shuts h he d
  exact good_opens (good_name (.inl rfl) h1 h2) d

theorem good_body {ps : List Pc} (h : GoodP ps) (he : endB ps) : ∀ (ds : List Nat), GoodP (bodyF false ds ++ ps) ∧ endB (bodyF false ds ++ ps)
  | [] => ⟨h, he⟩
  | d :: ds => by
    obtain ⟨h1, h2⟩ := good_body h he ds
    have h3 := good_sign (c := 44) (.inr (.inr rfl)) (good_block h1 h2 d)
    rw [← List.append_assoc] at h3
    exact h3

theorem good_whole {ps : List Pc} (h : GoodP ps) (he : endB ps) (d : Nat) (ds : List Nat) : GoodP (pO :: (bodyF true (d :: ds) ++ ps)) := by
  obtain ⟨h1, h2⟩ := good_body h he ds
  have h3 := (good_sign (c := 40) (.inl rfl) (good_block h1 h2 d)).1
  rw [← List.append_assoc] at h3
  exact h3

/-- no sign that may be spliced -/
def calmP (ps : List Pc) : Prop := ∀ c ∈ flatP ps, c ≠ 92 ∧ c ≠ 63 ∧ c ≠ 10

theorem calm_app {a b : List Pc} (ha : calmP a) (hb : calmP b) : calmP (a ++ b) := by
  intro c hc
  rw [flat_app] at hc
  rcases List.mem_append.1 hc with hc | hc
  · exact ha c hc
  · exact hb c hc
theorem calm_one {p : Pc} (h : p ∈ [pO, pS, pC, pX, pY, none]) : calmP [p] := by
  simp only [List.mem_cons, List.not_mem_nil, or_false] at h
  rcases h with rfl | rfl | rfl | rfl | rfl | rfl <;> (intro c hc; revert c; decide)
theorem calm_opens : ∀ d, calmP (opensP d)
  | 0 => by intro c hc; simp [opensP, flatP] at hc
  | d + 1 => calm_app (a := [pO]) (calm_one (by simp)) (calm_app (a := [pC]) (calm_one (by simp)) (calm_opens d))
theorem calm_shuts : ∀ d, calmP (shutsP d)
  | 0 => by intro c hc; simp [shutsP, flatP] at hc
  | d + 1 => calm_app (a := [pC]) (calm_one (by simp)) (calm_app (a := [pS]) (calm_one (by simp)) (calm_shuts d))
theorem calm_block (d : Nat) : calmP (blockP d) := calm_app (calm_opens d) (calm_app (a := [pX]) (calm_one (by simp)) (calm_shuts d))
theorem calm_body : ∀ (b : Bool) (ds : List Nat), calmP (bodyF b ds)
  | _, [] => by intro c hc; simp [bodyF, flatP] at hc
  | b, d :: ds => by
    unfold bodyF
    refine calm_app (calm_app ?_ (calm_block d)) (calm_body false ds)
    cases b
    · exact calm_one (by simp)
    · intro c hc; simp [flatP] at hc

/-! ## how they part -/

/-- what parts hang on -/
def keyT (t : Tm) : Int × ByteArray := (t.kind, t.text)

theorem isP_key {a b : Tm} (h : keyT a = keyT b) (s : ByteArray) : isP a s = isP b s := by
  simp only [keyT, Prod.mk.injEq] at h
  unfold isP
  rw [h.1, h.2]

theorem partsR_key : ∀ (X Y : List Tm) (i dep fr : Nat) (out : List (Nat × Nat)), X.map keyT = Y.map keyT → partsR X i dep fr out = partsR Y i dep fr out
  | [], [], _, _, _, _, _ => rfl
  | [], y :: Y, _, _, _, _, h => by simp at h
  | x :: X, [], _, _, _, _, h => by simp at h
  | x :: X, y :: Y, i, dep, fr, out, h => by
    simp only [List.map_cons, List.cons.injEq] at h
    unfold partsR pOpen pShut pComma
    rw [isP_key h.1, isP_key h.1, isP_key h.1]
    simp only [partsR_key X Y _ _ _ _ h.2]

theorem partsL_key {X Y : List Tm} (h : X.map keyT = Y.map keyT) : partsL X = partsL Y := by
  cases X with
  | nil =>
    cases Y with
    | nil => rfl
    | cons y Y => simp at h
  | cons x X =>
    cases Y with
    | nil => simp at h
    | cons y Y =>
      simp only [List.map_cons, List.cons.injEq] at h
      show (if isP x sOpen = true then partsR X 1 1 1 [] else none) = (if isP y sOpen = true then partsR Y 1 1 1 [] else none)
      rw [isP_key h.1, partsR_key X Y _ _ _ _ h.2]

/-- a piece's token -/
def canT (p : Nat × List UInt8) : Tm := ⟨p.1, bs p.2, false, bs [], 0, 0, false⟩
def canP (ps : List Pc) : List Tm := (tokP ps).map canT

theorem can_app (a b : List Pc) : canP (a ++ b) = canP a ++ canP b := by simp [canP, tokP]
theorem can_cons (p : Nat × List UInt8) (b : List Pc) : canP (some p :: b) = canT p :: canP b := rfl

theorem toks_key {ps : List Pc} (hG : GoodP ps) (hm : calmP ps) : (toksL (flatP ps)).map keyT = (canP ps).map keyT := by
  have h := (toks_pieces hG hm).1
  rw [canP, List.map_map]
  exact h

theorem st_open (r : List Tm) (i dep fr : Nat) (out : List (Nat × Nat)) : partsR (canT (5, [40]) :: r) i dep fr out = partsR r (i + 1) (dep + 1) fr out := by
  rw [partsR, if_pos (by decide)]
theorem st_comma (r : List Tm) (i dep fr : Nat) (out : List (Nat × Nat)) : partsR (canT (5, [44]) :: r) i dep fr out = if dep = 1 then partsR r (i + 1) dep (i + 1) (out ++ [(fr, i)]) else partsR r (i + 1) dep fr out := by
  rw [partsR, if_neg (by decide), if_neg (by decide)]
  have : pComma (canT (5, [44])) = true := by decide
  rw [this]
  by_cases h : dep = 1 <;> simp [h]
theorem st_shut (r : List Tm) (i dep fr : Nat) (out : List (Nat × Nat)) : partsR (canT (5, [41]) :: r) i dep fr out = if dep = 1 then some (out ++ [(fr, i)], i + 1) else partsR r (i + 1) (dep - 1) fr out := by
  rw [partsR, if_neg (by decide), if_pos (by decide)]
theorem st_other {c : UInt8} (hc : c = 120 ∨ c = 121) (r : List Tm) (i dep fr : Nat) (out : List (Nat × Nat)) : partsR (canT (1, [c]) :: r) i dep fr out = partsR r (i + 1) dep fr out := by
  have h : pComma (canT (1, [c])) = false := by rcases hc with rfl | rfl <;> decide
  have h1 : pOpen (canT (1, [c])) = false := by rcases hc with rfl | rfl <;> decide
  have h2 : pShut (canT (1, [c])) = false := by rcases hc with rfl | rfl <;> decide
  rw [partsR, h, h1, h2]
  simp

theorem parts_opens (r : List Tm) (fr : Nat) (out : List (Nat × Nat)) : ∀ (d i dep : Nat), 1 ≤ dep → partsR (canP (opensP d) ++ r) i dep fr out = partsR r (i + 2 * d) (dep + d) fr out
  | 0, i, dep, _ => rfl
  | d + 1, i, dep, h => by
    show partsR (canT (5, [40]) :: canT (5, [44]) :: (canP (opensP d) ++ r)) i dep fr out = _
    rw [st_open, st_comma, if_neg (by omega), parts_opens r fr out d _ _ (by omega)]
    congr 1 <;> omega
theorem parts_shuts (r : List Tm) (fr : Nat) (out : List (Nat × Nat)) : ∀ (d i dep : Nat), 1 ≤ dep → partsR (canP (shutsP d) ++ r) i (dep + d) fr out = partsR r (i + 2 * d) dep fr out
  | 0, i, dep, _ => rfl
  | d + 1, i, dep, h => by
    show partsR (canT (5, [44]) :: canT (5, [41]) :: (canP (shutsP d) ++ r)) i (dep + (d + 1)) fr out = _
    rw [st_comma, if_neg (by omega), st_shut, if_neg (by omega), show dep + (d + 1) - 1 = dep + d by omega, parts_shuts r fr out d _ _ h]
    congr 1 <;> omega
theorem parts_block (r : List Tm) (fr : Nat) (out : List (Nat × Nat)) (d i : Nat) : partsR (canP (blockP d) ++ r) i 1 fr out = partsR r (i + (4 * d + 1)) 1 fr out := by
  unfold blockP
  rw [can_app, List.append_assoc, parts_opens _ _ _ _ _ _ (Nat.le_refl _)]
  show partsR (canT (1, [120]) :: (canP (shutsP d) ++ r)) _ _ _ _ = _
  rw [st_other (.inl rfl), parts_shuts r fr out d _ _ (Nat.le_refl _)]
  congr 1
  omega

/-- the places of the arguments -/
def spansF (fr i : Nat) : List Nat → List (Nat × Nat)
  | [] => [(fr, i)]
  | d :: ds => (fr, i) :: spansF (i + 1) (i + 1 + (4 * d + 1)) ds

theorem spans_wide : ∀ (ds : List Nat) (fr i : Nat), (spansF fr i ds).map (fun p => p.2 - p.1) = (i - fr) :: ds.map (fun d => 4 * d + 1)
  | [], fr, i => rfl
  | d :: ds, fr, i => by
    rw [spansF, List.map_cons, spans_wide ds, List.map_cons]
    congr 2
    omega

theorem parts_body (r : List Tm) : ∀ (ds : List Nat) (i fr : Nat) (out : List (Nat × Nat)), partsR (canP (bodyF false ds) ++ canT (5, [41]) :: r) i 1 fr out = some (out ++ spansF fr i ds, i + (canP (bodyF false ds)).length + 1)
  | [], i, fr, out => by
    show partsR (canT (5, [41]) :: r) i 1 fr out = _
    rw [st_shut, if_pos rfl]
    rfl
  | d :: ds, i, fr, out => by
    have e : canP (bodyF false (d :: ds)) = canT (5, [44]) :: (canP (blockP d) ++ canP (bodyF false ds)) := by
      show canP ([pC] ++ blockP d ++ bodyF false ds) = _
      rw [can_app, can_app, List.append_assoc]
      rfl
    rw [e, List.cons_append, List.append_assoc, st_comma, if_pos rfl, parts_block, parts_body r ds]
    have hl : (canP (blockP d)).length = 4 * d + 1 := block_len d
    rw [spansF]
    simp only [List.append_assoc, List.singleton_append, List.length_cons, List.length_append, hl]
    congr 2
    omega
where
  opens_len : ∀ d, (canP (opensP d)).length = 2 * d
    | 0 => rfl
    | d + 1 => by
      show ((canP (opensP d)).length + 1) + 1 = _
      rw [opens_len d]; omega
  shuts_len : ∀ d, (canP (shutsP d)).length = 2 * d
    | 0 => rfl
    | d + 1 => by
      show ((canP (shutsP d)).length + 1) + 1 = _
      rw [shuts_len d]; omega
  block_len (d : Nat) : (canP (blockP d)).length = 4 * d + 1 := by
    unfold blockP
    rw [can_app, List.length_append, opens_len]
    show 2 * d + ((canP (shutsP d)).length + 1) = _
    rw [shuts_len]; omega

theorem parts_none (r : List Tm) (hr : r = [canT (1, [121])]) : ∀ (ds : List Nat) (i fr : Nat) (out : List (Nat × Nat)), partsR (canP (bodyF false ds) ++ r) i 1 fr out = none
  | [], i, fr, out => by
    subst hr
    show partsR [canT (1, [121])] i 1 fr out = _
    rw [st_other (.inr rfl)]
    rfl
  | d :: ds, i, fr, out => by
    have e : canP (bodyF false (d :: ds)) = canT (5, [44]) :: (canP (blockP d) ++ canP (bodyF false ds)) := by
      show canP ([pC] ++ blockP d ++ bodyF false ds) = _
      rw [can_app, can_app, List.append_assoc]
      rfl
    rw [e, List.cons_append, List.append_assoc, st_comma, if_pos rfl, parts_block, parts_none r hr ds]

theorem parts_top (r : List Tm) : partsL (canT (5, [40]) :: r) = partsR r 1 1 1 [] := by
  show (if pOpen (canT (5, [40])) = true then partsR r 1 1 1 [] else none) = _
  rw [if_pos (by decide)]

theorem can_top (d : Nat) (ds : List Nat) (ps : List Pc) : canP (pO :: (bodyF true (d :: ds) ++ ps)) = canT (5, [40]) :: (canP (blockP d) ++ (canP (bodyF false ds) ++ canP ps)) := by
  have e : bodyF true (d :: ds) = blockP d ++ bodyF false ds := rfl
  rw [e]
  show canP ([pO] ++ (blockP d ++ bodyF false ds ++ ps)) = _
  rw [can_app, can_app, can_app, List.append_assoc]
  rfl

/-- shut: so many arguments, so wide -/
theorem nest_shut (d : Nat) (ds : List Nat) (ps : List Pc) : partsL (canP (pO :: (bodyF true (d :: ds) ++ pS :: ps))) = some (spansF 1 (1 + (4 * d + 1)) ds, (canP (pO :: (bodyF true (d :: ds) ++ [pS]))).length) := by
  rw [can_top, can_top]
  have h2 : canP (pS :: ps) = canT (5, [41]) :: canP ps := rfl
  have h3 : canP [pS] = [canT (5, [41])] := rfl
  rw [h2, h3]
  rw [parts_top, parts_block, parts_body]
  rw [List.nil_append]
  simp only [List.length_cons, List.length_append, parts_body.block_len, List.length_nil]
  congr 2
  omega

theorem nest_open (d : Nat) (ds : List Nat) : partsL (canP (pO :: (bodyF true (d :: ds) ++ [none, pY]))) = none := by
  rw [can_top]
  rw [parts_top, parts_block]
  exact parts_none _ rfl ds _ _ _

/-! ## as Collect gives them -/

theorem args_wide {X : List Tf} {ps : List (Nat × Nat)} (h : ∀ p ∈ ps, p.2 ≤ X.length) : (argsOf X ps).map List.length = ps.map (fun p => p.2 - p.1) := by
  unfold argsOf
  rw [List.map_map]
  apply List.map_congr_left
  intro p hp
  have := h p hp
  show ((X.drop p.1).take (p.2 - p.1)).length = _
  rw [List.length_take, List.length_drop]
  omega

theorem commas_len {X : List Tf} {ps : List (Nat × Nat)} (h : ∀ p ∈ ps, p.1 ≤ X.length ∧ 1 ≤ p.1) : (commasOf X ps).length = ps.length - 1 := by
  unfold commasOf
  have : ∀ l : List (Nat × Nat), (∀ p ∈ l, p.1 ≤ X.length ∧ 1 ≤ p.1) → (l.filterMap fun p => X[p.1 - 1]?).length = l.length := by
    intro l
    induction l with
    | nil => intro _; rfl
    | cons p l ih =>
      intro hl
      obtain ⟨x, hx⟩ : ∃ x, X[p.1 - 1]? = some x := ⟨_, List.getElem?_eq_getElem (by have := hl p (by simp); omega)⟩
      rw [List.filterMap_cons, hx, List.length_cons, List.length_cons, ih (fun q hq => hl q (by simp [hq]))]
  rw [this _ (fun p hp => h p (List.mem_of_mem_drop hp)), List.length_drop]

/-- what Collect gives, in numbers -/
theorem col_nums {X : List Tf} {r : List (Nat × Nat) × Nat} (h : partsL (X.map (·.1)) = some r) : (colP X).1.map List.length = r.1.map (fun p => p.2 - p.1) ∧ (colP X).2.1.length = r.1.length - 1 ∧ (colP X).2.2 = r.2 ∧ 0 < r.2 := by
  have hok := partsL_ok h
  rw [List.length_map] at hok
  have e : colP X = (argsOf X r.1, commasOf X r.1, r.2) := by
    unfold colP colL
    rw [h]
    rfl
  rw [e]
  refine ⟨args_wide fun p hp => ?_, commas_len fun p hp => ?_, rfl, by omega⟩
  · have := hok.1.all p hp; omega
  · have := hok.1.all p hp; omega

theorem col_none {X : List Tf} (h : partsL (X.map (·.1)) = none) : colP X = ([], [], 0) := by
  unfold colP colL
  rw [h]
  rfl

theorem nil_fst (l : List Tm) : (l.map nilTf).map (·.1) = l := by rw [List.map_map]; exact List.map_id _

/-- the text so far -/
def nestT (ds : List Nat) : List UInt8 := flatP (pO :: bodyF true ds)

theorem nest_yes (d : Nat) (ds : List Nat) {l m : List Tm} (hl : l = toksL (nestT (d :: ds) ++ [41] ++ [32, 121])) (hm : m = toksL (nestT (d :: ds) ++ [41])) :
    (colP (l.map nilTf)).1.map List.length = (d :: ds).map (fun d => 4 * d + 1) ∧ (colP (l.map nilTf)).2.1.length = ds.length ∧ (colP (l.map nilTf)).2.2 = m.length ∧ 0 < m.length := by
  have f1 : nestT (d :: ds) ++ [41] ++ [32, 121] = flatP (pO :: (bodyF true (d :: ds) ++ pS :: [none, pY])) := by
    unfold nestT
    rw [show (pO :: (bodyF true (d :: ds) ++ pS :: [none, pY])) = (pO :: bodyF true (d :: ds)) ++ [pS, none, pY] from rfl, flat_app, List.append_assoc]
    rfl
  have f2 : nestT (d :: ds) ++ [41] = flatP (pO :: (bodyF true (d :: ds) ++ [pS])) := by
    unfold nestT
    rw [show (pO :: (bodyF true (d :: ds) ++ [pS])) = (pO :: bodyF true (d :: ds)) ++ [pS] from rfl, flat_app]
    rfl
  have gy : GoodP [pY] := good_name (ps := []) (.inr rfl) trivial (by unfold endB; decide)
  have g1 := good_whole (ps := pS :: [none, pY]) (good_sign (c := 41) (.inr (.inl rfl)) (ps := [none, pY]) gy).1 (good_sign (c := 41) (.inr (.inl rfl)) (ps := [none, pY]) gy).2 d ds
  have g2 := good_whole (ps := [pS]) (good_sign (c := 41) (.inr (.inl rfl)) (ps := []) trivial).1 (good_sign (c := 41) (.inr (.inl rfl)) (ps := []) trivial).2 d ds
  have c1 : calmP (pO :: (bodyF true (d :: ds) ++ pS :: [none, pY])) := calm_app (a := [pO]) (calm_one (by simp)) (calm_app (calm_body _ _) (calm_app (a := [pS]) (calm_one (by simp)) (calm_app (a := [none]) (calm_one (by simp)) (calm_one (by simp)))))
  have c2 : calmP (pO :: (bodyF true (d :: ds) ++ [pS])) := calm_app (a := [pO]) (calm_one (by simp)) (calm_app (calm_body _ _) (calm_one (by simp)))
  have k1 := toks_key g1 c1
  have k2 := toks_key g2 c2
  rw [← f1, ← hl] at k1
  rw [← f2, ← hm] at k2
  have hp := nest_shut d ds [none, pY]
  rw [← partsL_key k1, ← nil_fst l] at hp
  have hlen : m.length = (canP (pO :: (bodyF true (d :: ds) ++ [pS]))).length := by
    have := congrArg List.length k2
    simpa using this
  obtain ⟨h1, h2, h3, h4⟩ := col_nums hp
  have hw := spans_wide ds 1 (1 + (4 * d + 1))
  simp only at h1 h2 h3 h4
  rw [hw] at h1
  have hsl : (spansF 1 (1 + (4 * d + 1)) ds).length = ds.length + 1 := by
    have := congrArg List.length hw
    simpa using this
  rw [hsl] at h2
  refine ⟨by rw [h1, List.map_cons]; congr 1; omega, by omega, by rw [h3, hlen], by omega⟩

theorem nest_no (d : Nat) (ds : List Nat) {l : List Tm} (hl : l = toksL (nestT (d :: ds) ++ [32, 121])) : colP (l.map nilTf) = ([], [], 0) := by
  have f1 : nestT (d :: ds) ++ [32, 121] = flatP (pO :: (bodyF true (d :: ds) ++ [none, pY])) := by
    unfold nestT
    rw [show (pO :: (bodyF true (d :: ds) ++ [none, pY])) = (pO :: bodyF true (d :: ds)) ++ [none, pY] from rfl, flat_app]
    rfl
  have gy : GoodP [pY] := good_name (ps := []) (.inr rfl) trivial (by unfold endB; decide)
  have g1 := good_whole (ps := [none, pY]) gy (by unfold endB; decide) d ds
  have c1 : calmP (pO :: (bodyF true (d :: ds) ++ [none, pY])) := calm_app (a := [pO]) (calm_one (by simp)) (calm_app (calm_body _ _) (calm_app (a := [none]) (calm_one (by simp)) (calm_one (by simp))))
  have k1 := toks_key g1 c1
  rw [← f1, ← hl] at k1
  have hp := nest_open d ds
  rw [← partsL_key k1, ← nil_fst l] at hp
  exact col_none hp
end Go.Proofs.YtfaoamdlknlgpaaGreat
