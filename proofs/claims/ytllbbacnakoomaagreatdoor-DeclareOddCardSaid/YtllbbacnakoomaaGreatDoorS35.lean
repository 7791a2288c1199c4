/- Texts of this seat's proofs, laid into one file. -/
import Derived.Test.YtllbbacnakoomaaGreatDoorS9
import Derived.Test.YtllbbacnakoomaaGreatDoorS3
set_option maxRecDepth 100000
set_option maxHeartbeats 16000000
namespace Go.Proofs.YtllbbacnakoomaaGreatDoor.Pq
set_option linter.unusedVariables false
theorem chAt_drop (A : List UInt8) (i j : Nat) : chAt (A.drop i) j = chAt A (i + j) := by
 simp [chAt, List.getD_eq_getElem?_getD]
theorem letters_shift (A : List UInt8) (i : Nat) : lettersL A i = lettersL (A.drop i) 0 := by
 unfold lettersL
 simp [chAt_drop]
theorem quoL_shift (q : UInt8) : ∀ (n : Nat) (l : List UInt8) (j d : Nat), l.length ≤ n → quoL q (j + d) l = if quoL q j l = 0 then 0 else quoL q j l + d := by
 intro n
 induction n with
 | zero => intro l j d h; have := List.eq_nil_of_length_eq_zero (by omega : l.length = 0); subst this; simp [quoL]
 | succ n ih =>
   intro l j d h
   match l with
   | [] => simp [quoL]
   | [c] =>
     simp only [quoL]
     split
     ·simp
     ·split
      ·rw [if_neg (by omega)]; omega
      ·simp
   | c :: e :: r =>
     simp only [List.length_cons] at h
     have h1 := ih r (j + 2) d (by omega)
     have h2 := ih (e :: r) (j + 1) d (by simp; omega)
     simp only [quoL]
     split
     ·simp
     ·split
      ·rw [show j + d + 2 = j + 2 + d by omega]; exact h1
      ·split
       ·rw [if_neg (by omega)]; omega
       ·rw [show j + d + 1 = j + 1 + d by omega]; exact h2
theorem quoted_shift (A : List UInt8) (i k : Nat) : quotedL A (i + k) = if quotedL (A.drop i) k = 0 then 0 else quotedL (A.drop i) k + i := by
 unfold quotedL
 rw [chAt_drop, List.drop_drop, ← Nat.add_assoc, show i + k + 1 = k + 1 + i by omega]
 exact quoL_shift _ _ _ _ _ (Nat.le_refl _)
theorem num_shift (A : List UInt8) (i : Nat) : numL A i = i + numL (A.drop i) 0 := by
 unfold numL
 simp only [chAt_drop, Nat.add_zero, Nat.zero_add, List.drop_drop]
 split <;> omega
theorem punct_shift (A : List UInt8) (i : Nat) : punctL A i = punctL (A.drop i) 0 := by
 unfold punctL
 simp
theorem next_shift (A : List UInt8) (i : Nat) : nextL A i = ((nextL (A.drop i) 0).1, i + (nextL (A.drop i) 0).2.1, (nextL (A.drop i) 0).2.2) := by
 have hl := letters_shift A i
 have hq := quoted_shift A i (lettersL A i).toNat
 have hn := num_shift A i
 have hp := punct_shift A i
 have hc : chAt A i = chAt (A.drop i) 0 := by rw [chAt_drop]; rfl
 have hc2 : chAt A (i + (lettersL A i).toNat) = chAt (A.drop i) (lettersL A i).toNat := by rw [chAt_drop]
 have hw : A.drop (i + 1) = (A.drop i).drop (0 + 1) := by rw [List.drop_drop, Nat.zero_add]
 unfold nextL
 rw [hn, hp, hc, hc2, hw, hq, hl]
 simp only [Nat.zero_add]
 by_cases h1 : quotedL (A.drop i) (lettersL (A.drop i) 0).toNat = 0
 ·simp only [h1, if_true, Nat.lt_irrefl, false_and, and_false, if_false]
  by_cases h2 : lettersL (A.drop i) 0 = 0
  ·simp [h2]
  ·simp only [h2, if_false]
   by_cases h3 : letterB (chAt (A.drop i) 0) = true
   ·simp only [h3, if_true]; simp only [Prod.mk.injEq, and_true, true_and]; omega
   ·simp only [h3]
    by_cases h4 : 0 < numL (A.drop i) 0
    ·rw [if_pos (by omega : i < i + numL (A.drop i) 0)]; simp [h4]
    ·rw [if_neg (by omega : ¬ i < i + numL (A.drop i) 0)]
     by_cases h5 : 0 < punctL (A.drop i) 0
     ·simp [h4, h5]
     ·simp [h4, h5]
 ·have h1p : 0 < quotedL (A.drop i) (lettersL (A.drop i) 0).toNat := by omega
  have h1q : 0 < quotedL (A.drop i) (lettersL (A.drop i) 0).toNat + i := by omega
  simp only [h1, if_false, h1p, h1q, true_and]
  by_cases h2 : 0 ≤ lettersL (A.drop i) 0
  ·simp only [h2, true_and, if_true]
   by_cases h3 : chAt (A.drop i) (lettersL (A.drop i) 0).toNat = 34
   ·simp [h3, Nat.add_comm]
   ·simp [h3, Nat.add_comm]
  ·have h0 : ¬ lettersL (A.drop i) 0 = 0 := by omega
   simp only [h2, false_and, if_false, h0]
   by_cases h3 : letterB (chAt (A.drop i) 0) = true
   ·simp only [h3, if_true]; simp only [Prod.mk.injEq, and_true, true_and]; omega
   ·simp only [h3]
    by_cases h4 : 0 < numL (A.drop i) 0
    ·rw [if_pos (by omega : i < i + numL (A.drop i) 0)]; simp [h4]
    ·rw [if_neg (by omega : ¬ i < i + numL (A.drop i) 0)]
     by_cases h5 : 0 < punctL (A.drop i) 0
     ·simp [h4, h5]
     ·simp [h4, h5]
theorem chAt_app_lt {A B : List UInt8} {i : Nat} (h : i < A.length) : chAt (A ++ B) i = chAt A i := by
 simp [chAt, List.getD_eq_getElem?_getD, List.getElem?_append_left h]
theorem letters_neg {Y : List UInt8} (h : chAt Y 0 ≠ 34 ∧ chAt Y 0 ≠ 39 ∧ chAt Y 0 ≠ 117 ∧ chAt Y 0 ≠ 76 ∧ chAt Y 0 ≠ 85) : lettersL Y 0 = -1 := by
 unfold lettersL
 rw [if_neg (by simp [h.1, h.2.1]), if_neg (by simp [h.2.2.1]), if_neg (by simp [h.2.2.1, h.2.2.2.1, h.2.2.2.2])]
theorem com_no {A : List UInt8} {i : Nat} (h : chAt A i = 47 → chAt A (i + 1) ≠ 47 ∧ chAt A (i + 1) ≠ 42) : commentL A i = (i, false) := by
 unfold commentL
 by_cases h0 : chAt A i = 47
 ·rw [if_neg (by simp [h0]), if_neg (h h0).1, if_pos (h h0).2]
 ·rw [if_pos h0]
theorem plain_of {l : List UInt8} (h : ∀ c ∈ l, c ≠ 92 ∧ c ≠ 63) : plainB l = true := by
 simp only [plainB, List.all_eq_true, Bool.and_eq_true, bne_iff_ne]
 exact fun c hc => ⟨(h c hc).2, (h c hc).1⟩
theorem cs_plain {l : List UInt8} (h : ∀ c ∈ l, c ≠ 92 ∧ c ≠ 63) : cs (charsL l) = l ∨ cs (charsL l) = l ++ [10] := by
 unfold charsL
 split
 ·right
  unfold cs
  rw [List.map_append, standL_plain (plain_of h), idL_c]
  rfl
 ·left
  unfold cs
  rw [standL_plain (plain_of h), idL_c]
abbrev Pc := Option (Nat × List UInt8)
def flatP : List Pc → List UInt8
 | [] => []
 | none :: ps => 32 :: flatP ps
 | some (_, t) :: ps => t ++ flatP ps
def GoodP : List Pc → Prop
 | [] => True
 | none :: ps => GoodP ps
 | some (k, t) :: ps => (t ≠ [] ∧ chAt t 0 ≠ 10 ∧ chAt t 0 ≠ 47 ∧ whiteB (chAt t 0) = false ∧ nextL (t ++ (flatP ps ++ [10])) 0 = (k, t.length, false)) ∧ GoodP ps
def spacesP (sp : Bool) : List Pc → List Bool
 | [] => []
 | none :: ps => spacesP true ps
 | some _ :: ps => sp :: spacesP false ps
def tokQ (ps : List Pc) : List (Nat × List UInt8) := ps.filterMap id
theorem relexP {R : List Rn} (n : Nat) : ∀ (ps : List Pc) (s : LS), GoodP ps → s.i ≤ R.length → (cs R).drop s.i = flatP ps ++ [10] → s.out = [] → s.diags = [] → s.from_ = 0 →
 ∃ toks', linesFrom R n s = ([⟨s.toks ++ toks', 0, n, false⟩], []) ∧ toks'.map (fun t => (t.kind, t.text)) = tokQ ps ∧ toks'.map (·.space) = spacesP s.space ps
 | [], s, _, hi, hd, ho, hg, hf => by
   have hlen : (cs R).length = s.i + 1 := by
    have := congrArg List.length hd
    rw [List.length_drop] at this
    simp [flatP] at this
    omega
   rw [cs_len] at hlen
   have h10 : chAt (cs R) s.i = 10 := by
    have := chAt_drop (cs R) s.i 0
    rw [hd] at this
    exact this.symm
   refine ⟨[], ?_, rfl, rfl⟩
   rw [linesFrom_inl (s' := ⟨s.i + 1, [], rT R s.i, false, s.out ++ [⟨s.toks, s.from_, rT R s.i, false⟩], s.diags⟩) (by omega) (by unfold lineStep; rw [if_pos h10]), linesFrom_end (by simp only; omega), ho, hg, hf]
   simp [finL]
 | none :: ps, s, hG, hi, hd, ho, hg, hf => by
   have hd1 : (cs R).drop s.i = 32 :: (flatP ps ++ [10]) := by rw [hd]; simp [flatP]
   have hlen : (cs R).length = s.i + 1 + (flatP ps).length + 1 := by
    have := congrArg List.length hd1
    rw [List.length_drop] at this
    simp at this
    have hi2 : s.i ≤ (cs R).length := by rw [cs_len]; exact hi
    omega
   have hR := cs_len R
   have h32 : chAt (cs R) s.i = 32 := by
    have := chAt_drop (cs R) s.i 0
    rw [hd1] at this
    exact this.symm
   have st2 : linesFrom R n s = linesFrom R n ⟨s.i + 1, s.toks, s.from_, true, s.out, s.diags⟩ := by
    refine linesFrom_inl (by omega) ?_
    unfold lineStep
    rw [h32, if_neg (by decide), if_pos (by decide)]
   have hd2 : (cs R).drop (s.i + 1) = flatP ps ++ [10] := by
    rw [← List.drop_drop, hd1]; rfl
   obtain ⟨tk', h1, h2, h3⟩ := relexP n ps ⟨s.i + 1, s.toks, s.from_, true, s.out, s.diags⟩ hG (by simp only; omega) hd2 ho hg hf
   exact ⟨tk', by rw [st2, h1], h2, h3⟩
 | some (k, t) :: ps, s, hG, hi, hd, ho, hg, hf => by
   obtain ⟨⟨hne, hnl, h47, hwh, hnx0⟩, hG2⟩ := hG
   have hd1 : (cs R).drop s.i = t ++ (flatP ps ++ [10]) := by rw [hd]; simp [flatP]
   have htl : 0 < t.length := List.length_pos_iff.2 hne
   have hlen : (cs R).length = s.i + t.length + (flatP ps).length + 1 := by
    have := congrArg List.length hd1
    rw [List.length_drop] at this
    simp at this
    have hi2 : s.i ≤ (cs R).length := by rw [cs_len]; exact hi
    omega
   have hR := cs_len R
   have hc0 : chAt (cs R) s.i = chAt t 0 := by
    have := chAt_drop (cs R) s.i 0
    rw [hd1, chAt_app_lt htl] at this
    exact this.symm
   have hcm : ¬ s.i < (commentL (cs R) s.i).1 := by
    rw [com_no]
    ·simp
    ·intro h0
     rw [hc0] at h0
     exact absurd h0 h47
   have hnx : nextL (cs R) s.i = (k, s.i + t.length, false) := by
    rw [next_shift, hd1, hnx0]
   have htk : tokAt R s = ⟨k, t, s.space, rF R s.i, rT R (s.i + t.length - 1)⟩ := by
    unfold tokAt
    rw [hnx]
    simp only
    rw [hd1, show s.i + t.length - s.i = t.length by omega, List.take_left]
   have st1 : linesFrom R n s = linesFrom R n ⟨s.i + t.length, s.toks ++ [tokAt R s], s.from_, false, s.out, s.diags⟩ := by
    refine linesFrom_inl (by omega) ?_
    unfold lineStep
    rw [if_neg (by rw [hc0]; exact hnl), if_neg (by rw [hc0, hwh]; decide), if_neg hcm, hnx]
    rfl
   have hd2 : (cs R).drop (s.i + t.length) = flatP ps ++ [10] := by
    rw [← List.drop_drop, hd1, List.drop_left]
   obtain ⟨tk', h1, h2, h3⟩ := relexP n ps ⟨s.i + t.length, s.toks ++ [tokAt R s], s.from_, false, s.out, s.diags⟩ hG2 (by simp only; omega) hd2 ho hg hf
   refine ⟨tokAt R s :: tk', ?_, ?_, ?_⟩
   ·rw [st1, h1]
    simp
   ·rw [List.map_cons, h2, htk]
    rfl
   ·rw [List.map_cons, h3, htk]
    rfl
theorem lex_pieces {ps : List Pc} (hne : flatP ps ≠ []) (hG : GoodP ps) (hm : ∀ c ∈ flatP ps, c ≠ 92 ∧ c ≠ 63 ∧ c ≠ 10) :
 ∃ toks', linesL (flatP ps) = ([⟨toks', 0, (flatP ps).length, false⟩], []) ∧ toks'.map (fun t => (t.kind, t.text)) = tokQ ps ∧ toks'.map (·.space) = spacesP false ps := by
 have hcs : cs (charsL (flatP ps)) = flatP ps ++ [10] := by
  rcases cs_plain (fun c hc => ⟨(hm c hc).1, (hm c hc).2.1⟩) with h | h
  ·exfalso
   obtain ⟨ini, r, h1, h2⟩ := charsL_last (flatP ps) hne
   have h10 : (10 : UInt8) ∈ cs (charsL (flatP ps)) := by
    rw [h1]
    unfold cs
    rw [List.map_append]
    simp [h2]
   rw [h] at h10
   exact (hm 10 h10).2.2 rfl
  ·exact h
 obtain ⟨tk', h1, h2, h3⟩ := relexP (R := charsL (flatP ps)) (flatP ps).length ps ⟨0, [], 0, false, [], []⟩ hG (Nat.zero_le _) (by simp [hcs]) rfl rfl rfl
 exact ⟨tk', by simpa [linesL, linesFrom] using h1, h2, h3⟩
theorem next_sign {c : UInt8} (hc : c = 40 ∨ c = 41 ∨ c = 44) (r : List UInt8) : nextL (c :: r) 0 = (5,1, false) := by
 have h0 : chAt (c :: r) 0 = c := rfl
 have hl : lettersL (c :: r) 0 = -1 := letters_neg (by rw [h0]; rcases hc with rfl | rfl | rfl <;> decide)
 have hp : punctL (c :: r) 0 = 1 := by
  unfold punctL
  rw [List.drop_zero]
  rcases hc with rfl | rfl | rfl <;> simp [punctsL, List.find?, List.isPrefixOf]
 unfold nextL
 rw [hl, hp, h0]
 have hn : numL (c :: r) 0 = 0 := by
  unfold numL
  rw [h0, if_neg]
  rcases hc with rfl | rfl | rfl <;> simp [digitB]
 rw [hn]
 have h3 : letterB c = false := by rcases hc with rfl | rfl | rfl <;> decide
 simp [h3]
theorem next_name {c : UInt8} {t r : List UInt8} (hc : letterB c = true) (hq : c ≠ 117 ∧ c ≠ 76 ∧ c ≠ 85) (ht : ∀ d ∈ t, idB d = true) (hr : idB (chAt r 0) = false) : nextL (c :: (t ++ r)) 0 = (1, t.length + 1, false) := by
 have h0 : chAt (c :: (t ++ r)) 0 = c := rfl
 have hl : lettersL (c :: (t ++ r)) 0 = -1 := letters_neg (by
  rw [h0]
  refine ⟨?_, ?_, hq.1, hq.2.1, hq.2.2⟩ <;> (rintro rfl; exact absurd hc (by decide)))
 have hw : (t ++ r).takeWhile idB = t := by
  rw [List.takeWhile_append_of_pos ht]
  cases r with
  | nil => simp
  | cons d r =>
    have : idB d = false := hr
    simp [List.takeWhile, this]
 unfold nextL
 rw [hl, h0]
 simp [hc, hw, Nat.add_comm]
def piecesF : Nat → List UInt8 → List Pc
 | 0, _ => []
 | _, [] => []
 | k + 1, c :: r => if c = 32 then none :: piecesF k r else some ((nextL (c :: (r ++ [10])) 0).1, (c :: r).take (nextL (c :: (r ++ [10])) 0).2.1) :: piecesF k ((c :: r).drop (nextL (c :: (r ++ [10])) 0).2.1)
def okF : Nat → List UInt8 → Bool
 | _, [] => true
 | 0, _ => false
 | k + 1, c :: r => if c = 32 then okF k r else c != 47 && !whiteB c && !(nextL (c :: (r ++ [10])) 0).2.2 && decide (0 < (nextL (c :: (r ++ [10])) 0).2.1) && decide ((nextL (c :: (r ++ [10])) 0).2.1 ≤ r.length + 1) && okF k ((c :: r).drop (nextL (c :: (r ++ [10])) 0).2.1)
theorem pieces_ok : ∀ (k : Nat) (l : List UInt8), (∀ c ∈ l, c ≠ 10) → okF k l = true → flatP (piecesF k l) = l ∧ GoodP (piecesF k l)
 | 0, [], _, _ => ⟨rfl, trivial⟩
 | k + 1, [], _, _ => ⟨rfl, trivial⟩
 | 0, c :: r, _, h => by simp [okF] at h
 | k + 1, c :: r, h10, h => by
   by_cases hc : c = 32
   ·rw [piecesF, if_pos hc]
    rw [okF, if_pos hc] at h
    have ih := pieces_ok k r (fun d hd => h10 d (.tail _ hd)) h
    exact ⟨by rw [flatP, ih.1, hc], ih.2⟩
   ·rw [piecesF, if_neg hc]
    rw [okF, if_neg hc] at h
    simp only [Bool.and_eq_true, decide_eq_true_eq, Bool.not_eq_true', bne_iff_ne] at h
    obtain ⟨⟨⟨⟨⟨h47, hw⟩, hb⟩, h0⟩, hl⟩, hr⟩ := h
    have ih := pieces_ok k ((c :: r).drop (nextL (c :: (r ++ [10])) 0).2.1) (fun d hd => h10 d (List.mem_of_mem_drop hd)) hr
    generalize hn : nextL (c :: (r ++ [10])) 0 = n at *
    have htd : (c :: r).take n.2.1 ++ (c :: r).drop n.2.1 = c :: r := List.take_append_drop _ _
    have hlen : ((c :: r).take n.2.1).length = n.2.1 := by rw [List.length_take, List.length_cons]; omega
    have hhd : chAt ((c :: r).take n.2.1) 0 = c := by
     obtain ⟨m, hm⟩ : ∃ m, n.2.1 = m + 1 := ⟨n.2.1 - 1, by omega⟩
     rw [hm]; rfl
    refine ⟨by rw [flatP, ih.1, htd], ⟨⟨?_, ?_, ?_, ?_, ?_⟩, ih.2⟩⟩
    ·intro e; rw [e] at hlen; simp at hlen; omega
    ·rw [hhd]; exact h10 c (.head _)
    ·rw [hhd]; exact h47
    ·rw [hhd]; exact hw
    ·rw [ih.1, ← List.append_assoc, htd, hlen]
     show nextL (c :: (r ++ [10])) 0 = _
     rw [hn]
     obtain ⟨n1, n2, n3⟩ := n
     simp only at hb ⊢
     rw [hb]
theorem flat_pieces {ps : List Pc} (hG : GoodP ps) (hm : ∀ c ∈ flatP ps, c ≠ 92 ∧ c ≠ 63 ∧ c ≠ 10) :
 (flatL (flatP ps)).map (fun t => (t.kind, t.text)) = (tokQ ps).map (fun p => ((p.1 : Int), bs p.2)) := by
 by_cases hne : flatP ps = []
 ·have h0 : tokQ ps = [] := by
   cases ps with
   | nil => rfl
   | cons p ps =>
     cases p with
     | none => simp [flatP] at hne
     | some p =>
       obtain ⟨k, t⟩ := p
       simp only [flatP, List.append_eq_nil_iff] at hne
       exact absurd hne.1 hG.1.1
  rw [h0, hne]
  rfl
 ·obtain ⟨tk, h1, h2, h3⟩ := lex_pieces hne hG hm
  unfold flatL
  rw [h1]
  simp only [List.flatMap_cons, List.flatMap_nil, List.append_nil]
  rw [← h2, List.map_map, List.map_map]
  rfl
def ctOf (p : Int × ByteArray) : Ct := ⟨p.1, p.2, eB, 0,0,0,0⟩
def plainT (x : Tm) : Bool := decide (x.kind ≠ 7) && decide (x.kind ≠ 4) && decide (kindT x ≠ 0)
def txtT (x : Tm) : ByteArray := if x.kind = 5 then (usualP x.text).1 else x.text
theorem allGo_plain (T : List Tm) (hT : ∀ x ∈ T, plainT x = true) : ∀ (k i : Nat), T.length - i ≤ k → i ≤ T.length → (allGo T k i).map (fun t => (t.kind, t.text)) = (T.drop i).map (fun x => (kindT x, txtT x))
 | 0, i, h, hi => by rw [List.drop_of_length_le (by omega)]; rfl
 | k + 1, i, h, hi => by
   unfold allGo
   cases hx : T[i]? with
   | none =>
     have hle : T.length ≤ i := by simpa using hx
     rw [show T.drop i = [] from List.drop_of_length_le hle]
     rfl
   | some x =>
     have hlt : i < T.length := by
      rcases Nat.lt_or_ge i T.length with h | h
      ·exact h
      ·rw [List.getElem?_eq_none h] at hx; cases hx
     have hp := hT x (List.mem_of_getElem? hx)
     unfold plainT at hp
     simp only [Bool.and_eq_true, decide_eq_true_eq] at hp
     simp only
     rw [if_neg hp.1.1, if_neg hp.1.2, if_neg hp.2, List.map_cons, allGo_plain T hT k (i + 1) (by omega) (by omega)]
     rw [List.drop_eq_getElem_cons hlt, List.map_cons]
     have : T[i] = x := by rw [List.getElem?_eq_getElem hlt] at hx; exact Option.some.inj hx
     rw [this]
     rfl
def pairT (p : Nat × List UInt8) : Int × ByteArray :=
 let x : Tm := ⟨p.1, bs p.2, false, eB, 0,0, false⟩
 (kindT x, txtT x)
def pairB (p : Nat × List UInt8) : Bool := plainT ⟨p.1, bs p.2, false, eB, 0,0, false⟩
theorem kindT_of {x y : Tm} (h : (x.kind, x.text) = (y.kind, y.text)) : kindT x = kindT y ∧ txtT x = txtT y ∧ plainT x = plainT y := by
 obtain ⟨h1, h2⟩ := Prod.mk.inj h
 unfold plainT txtT kindT
 rw [h1, h2]
 exact ⟨rfl, rfl, rfl⟩
def canP (ps : List Pc) : List Ct := (tokQ ps).map (fun p => ctOf (pairT p)) ++ [endT]
theorem toks_can {ps : List Pc} (hG : GoodP ps) (hm : ∀ c ∈ flatP ps, c ≠ 92 ∧ c ≠ 63 ∧ c ≠ 10) (hp : ∀ p ∈ tokQ ps, pairB p = true) :
 (toksU (flatP ps)).map (fun t => (t.kind, t.text)) = (canP ps).map (fun t => (t.kind, t.text)) := by
 have hf := flat_pieces hG hm
 obtain ⟨F, hF⟩ : ∃ F, F = flatL (flatP ps) := ⟨_, rfl⟩
 unfold toksU allL canP
 rw [← hF] at hf ⊢
 -- each token of the text is one of the pieces
 have hz : ∀ x ∈ F, ∃ p ∈ tokQ ps, (x.kind, x.text) = ((p.1 : Int), bs p.2) := fun x hx => by
  have h1 : (x.kind, x.text) ∈ F.map (fun t => (t.kind, t.text)) := List.mem_map.2 ⟨x, hx, rfl⟩
  rw [hf] at h1
  obtain ⟨p, hp1, hp2⟩ := List.mem_map.1 h1
  exact ⟨p, hp1, hp2.symm⟩
 have hpl : ∀ x ∈ F, plainT x = true := fun x hx => by
  obtain ⟨p, hp1, hp2⟩ := hz x hx
  have := hp p hp1
  unfold pairB at this
  rw [← (kindT_of (y := ⟨p.1, bs p.2, false, eB, 0,0, false⟩) hp2).2.2] at this
  exact this
 rw [List.map_append, List.map_append, allGo_plain F hpl (F.length + 1) 0 (by omega) (by omega), List.drop_zero]
 congr 1
 have : F.map (fun x => (kindT x, txtT x)) = (F.map (fun t => (t.kind, t.text))).map (fun q => (kindT ⟨q.1, q.2, false, eB, 0,0, false⟩, txtT ⟨q.1, q.2, false, eB, 0,0, false⟩)) := by
  rw [List.map_map]
  rfl
 rw [this, hf, List.map_map, List.map_map]
 rfl
theorem tok_same {L L' : List Ct} (h : L.map (fun t => (t.kind, t.text)) = L'.map (fun t => (t.kind, t.text))) (i : Int) : (Go.Proofs.YtllbbacnakoomaaGreatDoor.tokP L i).kind = (Go.Proofs.YtllbbacnakoomaaGreatDoor.tokP L' i).kind ∧ (Go.Proofs.YtllbbacnakoomaaGreatDoor.tokP L i).text = (Go.Proofs.YtllbbacnakoomaaGreatDoor.tokP L' i).text := by
 unfold Go.Proofs.YtllbbacnakoomaaGreatDoor.tokP
 split
 ·have h1 := congrArg (fun l => l[i.toNat]?) h
  simp only [List.getElem?_map] at h1
  cases h2 : L[i.toNat]? with
  | none =>
    rw [h2] at h1
    cases h3 : L'[i.toNat]? with
    | none => exact ⟨rfl, rfl⟩
    | some y => rw [h3] at h1; cases h1
  | some x =>
    rw [h2] at h1
    cases h3 : L'[i.toNat]? with
    | none => rw [h3] at h1; cases h1
    | some y =>
      rw [h3] at h1
      have h4 := Prod.mk.inj (Option.some.inj h1)
      exact ⟨h4.1, h4.2⟩
 ·exact ⟨rfl, rfl⟩
end Go.Proofs.YtllbbacnakoomaaGreatDoor.Pq
