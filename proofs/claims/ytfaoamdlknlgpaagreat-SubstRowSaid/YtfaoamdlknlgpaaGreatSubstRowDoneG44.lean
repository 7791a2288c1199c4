/- Texts of this seat's proofs, laid into one file. -/
import Derived.Test.YtfaoamdlknlgpaaGreatSubstRowDoneG43
import Derived.Test.YtfaoamdlknlgpaaGreatSubstRowDoneG27
import Derived.Test.YtfaoamdlknlgpaaGreatSubstRowDoneG13
import Derived.Test.YtfaoamdlknlgpaaGreatSubstRowDoneG8
import Derived.Test.YtfaoamdlknlgpaaGreatSubstRowDoneG37
/- SubstRow: plain: words of small letters, lexed and pasted in a row. -/
namespace Go.Proofs.YtfaoamdlknlgpaaGreat
open Go.RowKit
set_option linter.unusedVariables false

def Low (w : List UInt8) : Prop := ∀ c ∈ w, 97 ≤ c ∧ c ≤ 122

theorem low_letter {c : UInt8} (h : 97 ≤ c ∧ c ≤ 122) : letterB c = true ∧ idB c = true := by
  have h1 : letterB c = true := by unfold letterB; exact decide_eq_true (.inl h)
  exact ⟨h1, by unfold idB; rw [h1]; rfl⟩

theorem low_ne {c d : UInt8} (h : 97 ≤ c ∧ c ≤ 122) (hd : d < 97) : c ≠ d := by
  rintro rfl
  have h1 := UInt8.le_iff_toNat_le.1 h.1
  have h2 := UInt8.lt_iff_toNat_lt.1 hd
  omega

theorem low_letters {c : UInt8} {t r : List UInt8} (hw : Low (c :: t)) (hr : chAt r 0 = 10 ∨ chAt r 0 = 0) : lettersL (c :: (t ++ r)) 0 = -1 := by
  have hc := hw c (by simp)
  have h1 : chAt (c :: (t ++ r)) 1 ≠ 56 ∧ chAt (c :: (t ++ r)) 1 ≠ 34 ∧ chAt (c :: (t ++ r)) 1 ≠ 39 := by
    show chAt (t ++ r) 0 ≠ 56 ∧ chAt (t ++ r) 0 ≠ 34 ∧ chAt (t ++ r) 0 ≠ 39
    cases t with
    | nil =>
      rw [List.nil_append]
      rcases hr with h | h <;> rw [h] <;> decide
    | cons d t =>
      have hd := hw d (by simp)
      show d ≠ 56 ∧ d ≠ 34 ∧ d ≠ 39
      exact ⟨low_ne hd (by decide), low_ne hd (by decide), low_ne hd (by decide)⟩
  have h0 : chAt (c :: (t ++ r)) 0 = c := rfl
  unfold lettersL
  rw [h0, Nat.zero_add, if_neg (by rintro (h | h); exact low_ne hc (by decide) h; exact low_ne hc (by decide) h), if_neg (fun h => h1.1 h.2.1), if_neg (by rintro ⟨_, h | h⟩; exact h1.2.1 h; exact h1.2.2 h)]

theorem next_word {w r : List UInt8} (hw : Low w) (hne : w ≠ []) (hr : chAt r 0 = 10 ∨ chAt r 0 = 0) : nextL (w ++ r) 0 = (1, w.length, false) := by
  cases w with
  | nil => exact absurd rfl hne
  | cons c t =>
    have hc := low_letter (hw c (by simp))
    have h0 : chAt (c :: (t ++ r)) 0 = c := rfl
    have hl := low_letters hw hr
    have ht : ∀ d ∈ t, idB d = true := fun d hd => (low_letter (hw d (by simp [hd]))).2
    have hwl : (t ++ r).takeWhile idB = t := by
      rw [List.takeWhile_append_of_pos ht]
      cases r with
      | nil => simp
      | cons d r =>
        have hd : d = 10 ∨ d = 0 := hr
        have : idB d = false := by rcases hd with rfl | rfl <;> decide
        simp [List.takeWhile, this]
    show nextL (c :: (t ++ r)) 0 = _
    unfold nextL
    rw [hl, h0]
    simp [hc.1, hwl, Nat.add_comm]

theorem oneK_word {w : List UInt8} (hw : Low w) (hne : w ≠ []) : oneK w = some 1 := by
  have hn : nextL w 0 = (1, w.length, false) := by
    have := next_word (r := []) hw hne (.inr rfl)
    rwa [List.append_nil] at this
  have hl : lettersL w 0 = -1 := by
    cases w with
    | nil => exact absurd rfl hne
    | cons c t => have := low_letters (r := []) hw (.inr rfl); rwa [List.append_nil] at this
  obtain ⟨c, t, rfl⟩ : ∃ c t, w = c :: t := by cases w with | nil => exact absurd rfl hne | cons c t => exact ⟨c, t, rfl⟩
  have hc := hw c (by simp)
  have h0 : chAt (c :: t) 0 = c := rfl
  unfold oneK
  rw [hn, if_neg]
  rintro (h | h | h | h | h | h)
  · simp at h
  · rw [h0] at h; exact low_ne hc (by decide) h
  · rw [h0] at h
    unfold whiteB at h
    rw [decide_eq_true_eq] at h
    rcases h with h | h | h
    · exact low_ne hc (by decide) h
    · exact low_ne hc (by decide) h
    · have h1 := UInt8.le_iff_toNat_le.1 hc.1
      have h2 := UInt8.le_iff_toNat_le.1 h.2
      simp at h1 h2
      omega
  · rw [com_no (by rw [h0]; intro e; exact absurd e (low_ne hc (by decide)))] at h
    exact absurd h (Nat.lt_irrefl _)
  · exact absurd h (Nat.lt_irrefl _)
  · unfold tellB at h
    rw [hl] at h
    simp at h

theorem oneK_plus {w : List UInt8} (hw : Low w) (hne : w ≠ []) : oneK (43 :: w) = none := by
  obtain ⟨c, t, rfl⟩ : ∃ c t, w = c :: t := by cases w with | nil => exact absurd rfl hne | cons c t => exact ⟨c, t, rfl⟩
  have hc := hw c (by simp)
  have e3 : ((43 : UInt8) == c) = false := beq_false_of_ne (fun e => low_ne hc (by decide) e.symm)
  have e4 : ((61 : UInt8) == c) = false := beq_false_of_ne (fun e => low_ne hc (by decide) e.symm)
  have h0 : chAt (43 :: c :: t) 0 = 43 := rfl
  have hl : lettersL (43 :: c :: t) 0 = -1 := letters_neg (by rw [h0]; decide)
  have hp : punctL (43 :: c :: t) 0 = 1 := by
    unfold punctL
    rw [List.drop_zero]
    simp [punctsL, List.find?, List.isPrefixOf, e3, e4]
  have hn : nextL (43 :: c :: t) 0 = (5, 1, false) := by
    unfold nextL
    rw [hl, hp, h0]
    have hnum : numL (43 :: c :: t) 0 = 0 := by
      unfold numL
      rw [h0, if_neg]
      simp [digitB]
    rw [hnum]
    simp [letterB]
  unfold oneK
  rw [hn]
  exact if_pos (.inr (.inr (.inr (.inr (.inl (by simp))))))

/-- the tokens of a word -/
theorem toks_word {w : List UInt8} (hw : Low w) : (w = [] ∧ toksL w = []) ∨ (w ≠ [] ∧ ∃ t, toksL w = [t] ∧ t.kind = 1 ∧ t.text = bs w ∧ t.made = false) := by
  by_cases hne : w = []
  · exact .inl ⟨hne, by rw [hne]; rfl⟩
  · right
    obtain ⟨c, t, rfl⟩ : ∃ c t, w = c :: t := by cases w with | nil => exact absurd rfl hne | cons c t => exact ⟨c, t, rfl⟩
    have hc := hw c (by simp)
    have h0 : chAt (c :: t) 0 = c := rfl
    have hwh : whiteB c = false := by
      unfold whiteB
      rw [decide_eq_false_iff_not]
      rintro (h | h | h)
      · exact low_ne hc (by decide) h
      · exact low_ne hc (by decide) h
      · have h1 := UInt8.le_iff_toNat_le.1 hc.1
        have h2 := UInt8.le_iff_toNat_le.1 h.2
        simp at h1 h2
        omega
    have hf : flatP [some (1, c :: t)] = c :: t := by simp [flatP]
    have hG : GoodP [some (1, c :: t)] := by
      refine ⟨⟨hne, ?_, ?_, ?_, ?_⟩, trivial⟩
      · rw [h0]; exact low_ne hc (by decide)
      · rw [h0]; exact low_ne hc (by decide)
      · rw [h0]; exact hwh
      · exact next_word hw hne (.inl rfl)
    obtain ⟨h1, h2, h3⟩ := toks_pieces hG (by
      rw [hf]
      intro d hd
      have hd' := hw d hd
      exact ⟨low_ne hd' (by decide), low_ne hd' (by decide), low_ne hd' (by decide)⟩)
    rw [hf] at h1 h2 h3
    have hl : (toksL (c :: t)).length = 1 := by
      have := congrArg List.length h1
      simpa [tokP] using this
    obtain ⟨tk, htk⟩ : ∃ tk, toksL (c :: t) = [tk] := by
      match h : toksL (c :: t), hl with
      | [tk], _ => exact ⟨tk, rfl⟩
    rw [htk] at h1 h3
    simp [tokP] at h1
    exact ⟨hne, tk, htk, h1.1, h1.2, h3 tk (by simp)⟩

/-! ## the definition -/

def rowL (sep : List UInt8) : Nat → List UInt8
  | 0 => []
  | n + 1 => rowL sep n ++ (if 0 < n then sep else []) ++ [112, UInt8.ofNat (97 + n)]
def rowText (n : Nat) : List UInt8 := [70, 40] ++ rowL [44] n ++ [41, 32] ++ rowL [35, 35] n
def rowChk (n : Nat) (m : Mac) : Bool := decide (m.params.length = n) && decide (m.body.length + 1 = 2 * n) &&
  (List.range n).all (fun i => match m.body[2 * i]? with | some t => !pasteP t && !hashedP m (2 * i) && decide (ofP m.fn m.params t = (i : Int)) && rawP m.body (2 * i) | none => false) &&
  (List.range (n - 1)).all (fun i => match m.body[2 * i + 1]? with | some t => pasteP t | none => false)
theorem row_all : (List.range 11).all (fun k => chkM (rowChk (k + 2)) (parseL (toksL (rowText (k + 2))))) = true := by kernel_rfl

structure RowM (m : Mac) (n : Nat) : Prop where
  pl : m.params.length = n
  bl : m.body.length + 1 = 2 * n
  at_ : ∀ i, i < n → ∃ t, m.body[2 * i]? = some t ∧ pasteP t = false ∧ hashedP m (2 * i) = false ∧ ofP m.fn m.params t = (i : Int) ∧ rawP m.body (2 * i) = true
  mid : ∀ i, i + 1 < n → ∃ t, m.body[2 * i + 1]? = some t ∧ pasteP t = true

theorem rowM_of {n : Nat} (h2 : 2 ≤ n) (hn : n ≤ 12) : ∃ m, parseL (toksL (rowText n)) = .inl m ∧ m.fn = true ∧ m.va = false ∧ m.body ≠ [] ∧ RowM m n := by
  have h := row_all
  rw [List.all_eq_true] at h
  have hk := h (n - 2) (by simp; omega)
  rw [show n - 2 + 2 = n by omega] at hk
  obtain ⟨m, h1, h2, h3, h4, h5⟩ := chkM_get hk
  refine ⟨m, h1, h2, h3, h4, ?_⟩
  unfold rowChk at h5
  simp only [Bool.and_eq_true, decide_eq_true_eq, List.all_eq_true, List.mem_range] at h5
  obtain ⟨⟨⟨h6, h7⟩, h8⟩, h9⟩ := h5
  refine ⟨h6, h7, fun i hi => ?_, fun i hi => ?_⟩
  · have := h8 i hi
    cases ht : m.body[2 * i]? with
    | none => rw [ht] at this; cases this
    | some t =>
      rw [ht] at this
      simp only [Bool.and_eq_true, Bool.not_eq_true', decide_eq_true_eq] at this
      exact ⟨t, rfl, this.1.1.1, this.1.1.2, this.1.2, this.2⟩
  · have := h9 i (by omega)
    cases ht : m.body[2 * i + 1]? with
    | none => rw [ht] at this; cases this
    | some t => rw [ht] at this; exact ⟨t, rfl, this⟩
end Go.Proofs.YtfaoamdlknlgpaaGreat

/- SubstRow: plain: what a row of pastes becomes. -/
namespace Go.Proofs.YtfaoamdlknlgpaaGreat
open Go.RowKit
set_option linter.unusedVariables false

/-- what stands ahead, and a word behind it, if there is one -/
def TailZ (Pre : List Pz) (w : List UInt8) (A : List Pz) : Prop := (w = [] ∧ A = Pre) ∨ (w ≠ [] ∧ ∃ z, A = Pre ++ [z] ∧ z.t.text = bs w)
def PreOk (Pre : List Pz) : Prop := Pre = [] ∨ ∃ p, Pre = [p] ∧ p.t.text = bs [43]

theorem bs_cat (a b : List UInt8) : bs a ++ bs b = bs (a ++ b) := by
  apply ByteArray.ext
  simp [bs]
theorem bs_list (a : List UInt8) : (bs a).data.toList = a := by simp
theorem bs_size (a : List UInt8) : (bs a).size = a.length := by simp [ByteArray.size]

theorem row_glue {Pre A l : List Pz} {w v : List UInt8} (hPre : PreOk Pre) (hA : TailZ Pre w A) (hl : TailZ [] v l) (hw : Low w) (hv : Low v) (hs : w.length + v.length ≤ 900) :
    ∃ A' told, glueZ A l = some (A', told) ∧ TailZ Pre (w ++ v) A' ∧ told = (!Pre.isEmpty && w.isEmpty && !v.isEmpty) := by
  rcases hl with ⟨rfl, rfl⟩ | ⟨hvn, z, rfl, hz⟩
  · refine ⟨A, false, ?_, by simpa using hA, by simp⟩
    unfold glueZ
    cases A.getLast? <;> simp
  · rw [List.nil_append]
    rcases hA with ⟨rfl, rfl⟩ | ⟨hwn, y, rfl, hy⟩
    · rcases hPre with rfl | ⟨p, rfl, hp⟩
      · exact ⟨[z], false, by simp [glueZ], .inr ⟨by simpa using hvn, z, rfl, by simpa using hz⟩, by simp⟩
      · have h1 : oneK (p.t.text ++ z.t.text).data.toList = none := by
          rw [hp, hz, bs_cat, bs_list]
          exact oneK_plus hv hvn
        have h2 : ¬ 1000 < p.t.text.size + z.t.text.size := by
          rw [hp, hz, bs_size, bs_size]
          simp
          omega
        refine ⟨[p] ++ [z], true, ?_, .inr ⟨by simpa using hvn, z, rfl, by simpa using hz⟩, ?_⟩
        · simp only [glueZ, List.getLast?_singleton]
          rw [if_neg h2, h1]
        · cases v with
          | nil => exact absurd rfl hvn
          | cons c t => rfl
    · have h1 : oneK (y.t.text ++ z.t.text).data.toList = some 1 := by
        rw [hy, hz, bs_cat, bs_list]
        refine oneK_word ?_ (by simp [hwn])
        intro c hc
        rcases List.mem_append.1 hc with hc | hc
        · exact hw c hc
        · exact hv c hc
      have h2 : ¬ 1000 < y.t.text.size + z.t.text.size := by
        rw [hy, hz, bs_size, bs_size]
        omega
      refine ⟨Pre ++ [⟨⟨1, y.t.text ++ z.t.text, y.t.sp, y.t.file, y.t.f, y.t.t, true⟩, y.css, -1, 0, false⟩], false, ?_, .inr ⟨by simp [hwn], _, rfl, by rw [← bs_cat, ← hy, ← hz]⟩, ?_⟩
      · simp only [glueZ, List.getLast?_append, List.getLast?_singleton, Option.some_or]
        rw [if_neg h2, h1]
        simp
      · cases w with
        | nil => exact absurd rfl hwn
        | cons c t => simp

theorem pieces_eq {m : Mac} {RR FF : List (List Tf)} {S : List (List Value)} {f i k : Nat} {s s' : ZS} {t : Tm} {th : Thg} (hi : m.body[i]? = some t) (ht : thingZ m RR FF S i t = (th, k)) (hs : stepZ s th = some s') (ho : s'.out.length + s'.ahead.length + s'.ds.length ≤ 900000) : piecesZ m RR FF S (f + 1) i s = piecesZ m RR FF S f (i + k) s' := by
  have ho' : s'.ok = true := by unfold ZS.ok; exact decide_eq_true ho
  simp only [piecesZ, hi, ht, hs, ho', if_true]

theorem row_thing {m : Mac} {n : Nat} (hm : RowM m n) (RR FF : List (List Tf)) (S : List (List Value)) {i : Nat} (hi : i < n) : ∃ t, m.body[2 * i]? = some t ∧ thingZ m RR FF S (2 * i) t = (.body (argZ t.sp i false 0 (RR[i]?.getD [])), 1) := by
  obtain ⟨t, h1, h2, h3, h4, h5⟩ := hm.at_ i hi
  refine ⟨t, h1, ?_⟩
  unfold thingZ
  rw [h2, h3, h4, h5]
  simp only [Bool.false_eq_true, if_false, if_true, Bool.not_true, Int.toNat_natCast, argOf]
  rw [if_neg (by omega)]

theorem row_paste {m : Mac} {n : Nat} (hm : RowM m n) (RR FF : List (List Tf)) (S : List (List Value)) {i : Nat} (hi : i + 1 < n) : ∃ t, m.body[2 * i + 1]? = some t ∧ thingZ m RR FF S (2 * i + 1) t = (.paste t.file t.f t.t, 1) := by
  obtain ⟨t, h1, h2⟩ := hm.mid i hi
  refine ⟨t, h1, ?_⟩
  unfold thingZ
  rw [h2, if_pos rfl]

theorem word_arg {RR : List (List Tf)} {i : Nat} {w : List UInt8} (hw : Low w) (hR : RR[i]? = some ((toksL w).map nilTf)) (sp : Bool) (p : Nat) (fl : Bool) : TailZ [] w (argZ sp p fl 0 (RR[i]?.getD [])) := by
  rw [hR]
  rcases toks_word hw with ⟨h1, h2⟩ | ⟨h1, t, h2, h3, h4, h5⟩
  · exact .inl ⟨h1, by rw [Option.getD_some, h2]; rfl⟩
  · refine .inr ⟨h1, ⟨{ t with sp := sp }, [], p, 0, fl⟩, ?_, ?_⟩
    · rw [Option.getD_some, h2]; rfl
    · exact h4

def AllTen (D : List Bad) : Prop := ∀ d ∈ D, d.code = 10

theorem row_run {m : Mac} {n : Nat} (hm : RowM m n) (hn : n ≤ 12) (RR FF : List (List Tf)) (S : List (List Value)) (ws : List (List UInt8)) (hlow : ∀ w ∈ ws, Low w) (hwl : ws.length = n) (hR : ∀ i w, 0 < i → ws[i]? = some w → RR[i]? = some ((toksL w).map nilTf)) (Pre : List Pz) (hPre : PreOk Pre) :
    ∀ (rem k : Nat) (w : List UInt8) (A : List Pz) (D : List Bad), k + 1 + rem = n → TailZ Pre w A → Low w → w.length + (ws.drop (k + 1)).flatten.length ≤ 900 → D.length ≤ k → AllTen D →
      ∃ A' D', piecesZ m RR FF S (2 * rem) (2 * k + 1) ⟨[], A, none, D⟩ = some ⟨[], A', none, D'⟩ ∧ TailZ Pre (w ++ (ws.drop (k + 1)).flatten) A' ∧ D'.length = D.length + (if Pre ≠ [] ∧ w = [] ∧ (ws.drop (k + 1)).flatten ≠ [] then 1 else 0) ∧ AllTen D' := by
  intro rem
  induction rem with
  | zero =>
    intro k w A D hk hA hw hs hD hT
    have hd : ws.drop (k + 1) = [] := List.drop_eq_nil_of_le (by omega)
    rw [hd]
    exact ⟨A, D, rfl, by simpa using hA, by simp, hT⟩
  | succ rem ih =>
    intro k w A D hk hA hw hs hD hT
    obtain ⟨v, hv⟩ : ∃ v, ws[k + 1]? = some v := ⟨_, List.getElem?_eq_getElem (by omega)⟩
    have hlv := hlow v (List.mem_of_getElem? hv)
    have hdr : ws.drop (k + 1) = v :: ws.drop (k + 1 + 1) := by
      rw [List.drop_eq_getElem_cons (by omega), (List.getElem?_eq_some_iff.1 hv).2]
    rw [hdr, List.flatten_cons] at hs ⊢
    rw [List.length_append] at hs
    obtain ⟨t1, hb1, ht1⟩ := row_paste hm RR FF S (i := k) (by omega)
    obtain ⟨t2, hb2, ht2⟩ := row_thing hm RR FF S (i := k + 1) (by omega)
    have hl := word_arg hlv (hR (k + 1) v (by omega) hv) t2.sp (k + 1) false
    obtain ⟨A', told, hg, hA', htold⟩ := row_glue hPre hA hl hw hlv (by omega)
    have hAl : ∀ {u : List UInt8} {B : List Pz}, TailZ Pre u B → B.length ≤ 2 := by
      intro u B hB
      have hp : Pre.length ≤ 1 := by rcases hPre with rfl | ⟨p, rfl, _⟩ <;> simp
      rcases hB with ⟨_, rfl⟩ | ⟨_, z, rfl, _⟩
      · omega
      · simp; omega
    have hA1 := hAl hA
    have hA2 := hAl hA'
    obtain ⟨D2, hD2⟩ : ∃ D2, D2 = if told then D ++ [⟨10, t1.file, t1.f, t1.t⟩] else D := ⟨_, rfl⟩
    have hD2l : D2.length = D.length + (if told then 1 else 0) := by rw [hD2]; cases told <;> simp
    have hD2k : D2.length ≤ k + 1 := by rw [hD2l]; cases told <;> simp <;> omega
    have hT2 : AllTen D2 := by
      rw [hD2]
      cases told with
      | false => exact hT
      | true =>
        intro d hd
        rcases List.mem_append.1 hd with hd | hd
        · exact hT d hd
        · simp only [List.mem_singleton] at hd
          subst hd
          rfl
    have e1 : piecesZ m RR FF S (2 * (rem + 1)) (2 * k + 1) ⟨[], A, none, D⟩ = piecesZ m RR FF S (2 * rem) (2 * (k + 1) + 1) ⟨[], A', none, D2⟩ := by
      rw [show 2 * (rem + 1) = 2 * rem + 1 + 1 by omega]
      rw [pieces_eq (s' := ⟨[], A, some (t1.file, t1.f, t1.t), D⟩) hb1 ht1 rfl (by simp; omega)]
      rw [show 2 * k + 1 + 1 = 2 * (k + 1) by omega]
      rw [pieces_eq (s' := ⟨[], A', none, D2⟩) hb2 ht2 (by simp only [stepZ, hg, Option.map_some, hD2]) (by simp; omega)]
    have hw2 : Low (w ++ v) := by
      intro c hc
      rcases List.mem_append.1 hc with hc | hc
      · exact hw c hc
      · exact hlv c hc
    obtain ⟨A3, D3, e2, hA3, hD3, hT3⟩ := ih (k + 1) (w ++ v) A' D2 (by omega) hA' hw2 (by rw [List.length_append]; omega) hD2k hT2
    refine ⟨A3, D3, by rw [e1, e2], by rw [← List.append_assoc]; exact hA3, ?_, hT3⟩
    rw [hD3, hD2l, htold]
    cases w with
    | cons c u => simp
    | nil =>
      rcases hPre with rfl | ⟨p, rfl, _⟩
      · simp
      · cases v with
        | nil => simp
        | cons c u => simp
end Go.Proofs.YtfaoamdlknlgpaaGreat

/- SubstRow: plain: both bodies whole. -/
namespace Go.Proofs.YtfaoamdlknlgpaaGreat
open Go.RowKit
set_option linter.unusedVariables false

def tkW (w : List UInt8) : List Tf := (toksL w).map nilTf
def rowRR (ws : List (List UInt8)) : List (List Tf) := ws.map tkW
def rowRP (ws : List (List UInt8)) : List (List Tf) := tkW [43] :: (ws.drop 1).map tkW

theorem toks_plus : (match toksL [43] with | [t] => decide (t.text = bs [43]) | _ => false) = true := by kernel_rfl

theorem tk_plus : ∃ t, toksL [43] = [t] ∧ t.text = bs [43] := by
  have h := toks_plus
  match hx : toksL [43] with
  | [] => rw [hx] at h; cases h
  | [t] => rw [hx] at h; exact ⟨t, rfl, of_decide_eq_true h⟩
  | _ :: _ :: _ => rw [hx] at h; cases h

theorem tkW_ok {w : List UInt8} (hw : Low w) (hs : w.length ≤ 20) : (tkW w).length ≤ 1000 ∧ ∀ x ∈ tkW w, x.1.text.size ≤ 1000 ∧ SitesOk x.2 := by
  rcases toks_word hw with ⟨_, h⟩ | ⟨_, t, h, _, ht, _⟩
  · unfold tkW; rw [h]; simp
  · unfold tkW
    rw [h]
    refine ⟨by simp, ?_⟩
    intro x hx
    simp only [List.map_cons, List.map_nil, List.mem_singleton] at hx
    subst hx
    refine ⟨?_, by simp [nilTf, SitesOk]⟩
    show t.text.size ≤ 1000
    rw [ht, bs_size]
    omega

theorem tkP_ok : (tkW [43]).length ≤ 1000 ∧ ∀ x ∈ tkW [43], x.1.text.size ≤ 1000 ∧ SitesOk x.2 := by
  obtain ⟨t, h, ht⟩ := tk_plus
  unfold tkW
  rw [h]
  refine ⟨by simp, ?_⟩
  intro x hx
  simp only [List.map_cons, List.map_nil, List.mem_singleton] at hx
  subst hx
  refine ⟨?_, by simp [nilTf, SitesOk]⟩
  show t.text.size ≤ 1000
  rw [ht, bs_size]
  decide

theorem rowRR_ok {ws : List (List UInt8)} (hlow : ∀ w ∈ ws, Low w) (hs : ∀ w ∈ ws, w.length ≤ 20) (hn : ws.length ≤ 12) : ArgsOk (rowRR ws) := by
  refine ⟨by simp [rowRR]; omega, fun X hX => ?_⟩
  obtain ⟨w, hw, rfl⟩ := List.mem_map.1 hX
  exact tkW_ok (hlow w hw) (hs w hw)

theorem rowRP_ok {ws : List (List UInt8)} (hlow : ∀ w ∈ ws, Low w) (hs : ∀ w ∈ ws, w.length ≤ 20) (hn : ws.length ≤ 12) : ArgsOk (rowRP ws) := by
  refine ⟨by simp [rowRP]; omega, fun X hX => ?_⟩
  rcases List.mem_cons.1 hX with rfl | hX
  · exact tkP_ok
  · obtain ⟨w, hw, rfl⟩ := List.mem_map.1 hX
    exact tkW_ok (hlow w (List.mem_of_mem_drop hw)) (hs w (List.mem_of_mem_drop hw))

theorem flat_len {ws : List (List UInt8)} (hs : ∀ w ∈ ws, w.length ≤ 20) : ws.flatten.length ≤ 20 * ws.length := by
  induction ws with
  | nil => simp
  | cons w ws ih =>
    have h1 := hs w (by simp)
    have h2 := ih (fun v hv => hs v (by simp [hv]))
    rw [List.flatten_cons, List.length_append, List.length_cons]
    omega

structure RowFin (m : Mac) (ws : List (List UInt8)) (S : List (List Value)) (A : List Pz) (p : Pz) (A' : List Pz) (D : List Bad) : Prop where
  one : piecesZ m (rowRR ws) [] S m.body.length 0 ⟨[], [], none, []⟩ = some ⟨[], A, none, []⟩
  tail : TailZ [] ws.flatten A
  two : piecesZ m (rowRP ws) [] S m.body.length 0 ⟨[], [], none, []⟩ = some ⟨[], A', none, D⟩
  plus : p.t.text = bs [43]
  tail2 : TailZ [p] (ws.drop 1).flatten A'
  ds : D.length = if (ws.drop 1).flatten ≠ [] then 1 else 0
  ten : AllTen D

theorem row_whole {m : Mac} {n : Nat} (hm : RowM m n) (ws : List (List UInt8)) (hwl : ws.length = n) (h2 : 2 ≤ n) (hn : n ≤ 12) (hlow : ∀ w ∈ ws, Low w) (hs : ∀ w ∈ ws, w.length ≤ 20) (S : List (List Value)) : ∃ A p A' D, RowFin m ws S A p A' D := by
  obtain ⟨w0, hw0⟩ : ∃ w0, ws[0]? = some w0 := ⟨_, List.getElem?_eq_getElem (by omega)⟩
  have hl0 := hlow w0 (List.mem_of_getElem? hw0)
  have hfl := flat_len hs
  have hcons : ws = w0 :: ws.drop 1 := by
    cases ws with
    | nil => simp at hw0
    | cons a t => simp at hw0; subst hw0; rfl
  have hfc : ws.flatten = w0 ++ (ws.drop 1).flatten := (congrArg List.flatten hcons).trans List.flatten_cons
  have hbl : m.body.length = 2 * (n - 1) + 1 := by have := hm.bl; omega
  have hfl2 : w0.length + (ws.drop 1).flatten.length ≤ 240 := by
    have := congrArg List.length hfc
    rw [List.length_append] at this
    omega
  -- the first
  obtain ⟨t, hb, ht⟩ := row_thing hm (rowRR ws) [] S (i := 0) (by omega)
  have hT := word_arg (RR := rowRR ws) (i := 0) hl0 (by unfold rowRR; rw [List.getElem?_map, hw0]; rfl) t.sp 0 false
  have hlen : ∀ {u : List UInt8} {B : List Pz}, TailZ [] u B → B.length ≤ 1 := by
    intro u B hB
    rcases hB with ⟨_, rfl⟩ | ⟨_, z, rfl, _⟩ <;> simp
  have hT1 := hlen hT
  obtain ⟨A, D0, e1, hA, hD0, _⟩ := row_run hm hn (rowRR ws) [] S ws hlow hwl (fun i w _ hw => by unfold rowRR; rw [List.getElem?_map, hw]; rfl) [] (.inl rfl) (n - 1) 0 w0 _ [] (by omega) hT hl0 (by simpa using (by omega : w0.length + (ws.drop 1).flatten.length ≤ 900)) (Nat.le_refl _) (fun d hd => by cases hd)
  have hD0' : D0 = [] := by
    rw [if_neg (by simp)] at hD0
    exact List.length_eq_zero_iff.1 (by simpa using hD0)
  subst hD0'
  -- the second
  obtain ⟨t', hb', ht'⟩ := row_thing hm (rowRP ws) [] S (i := 0) (by omega)
  obtain ⟨tp, hp1, hp2⟩ := tk_plus
  obtain ⟨p, hp, hpt⟩ : ∃ p, argZ t'.sp 0 false 0 ((rowRP ws)[0]?.getD []) = [p] ∧ p.t.text = bs [43] := by
    refine ⟨⟨{ tp with sp := t'.sp }, [], 0, 0, false⟩, ?_, hp2⟩
    unfold rowRP tkW
    rw [hp1]
    rfl
  obtain ⟨A', D, e2, hA', hD, hten⟩ := row_run hm hn (rowRP ws) [] S ws hlow hwl (fun i w hi hw => by
    unfold rowRP
    obtain ⟨j, rfl⟩ : ∃ j, i = j + 1 := ⟨i - 1, by omega⟩
    rw [List.getElem?_cons_succ, List.getElem?_map, List.getElem?_drop, Nat.add_comm 1 j, hw]
    rfl) [p] (.inr ⟨p, rfl, hpt⟩) (n - 1) 0 [] [p] [] (by omega) (.inl ⟨rfl, rfl⟩) (fun c hc => by cases hc) (by simpa using (by omega : (ws.drop 1).flatten.length ≤ 900)) (Nat.le_refl _) (fun d hd => by cases hd)
  refine ⟨A, p, A', D, ?_, ?_, ?_, hpt, by simpa using hA', ?_, hten⟩
  · rw [hbl, pieces_eq (s' := ⟨[], argZ t.sp 0 false 0 ((rowRR ws)[0]?.getD []), none, []⟩) hb ht rfl (by simp; omega)]
    exact e1
  · rw [hfc]; exact hA
  · rw [hbl, pieces_eq (s' := ⟨[], [p], none, []⟩) hb' ht' (by rw [← hp]; rfl) (by simp)]
    exact e2
  · rw [hD]
    simp
end Go.Proofs.YtfaoamdlknlgpaaGreat

/- SubstRow: a text's tokens, in a row of tokens; a list of such rows that the call appends to. -/
namespace Go.Proofs.YtfaoamdlknlgpaaGreat
open Go.RowKit
set_option linter.unusedVariables false

/-- tokens without sites, in a row of tokens -/
def TkR (w : World) (ao : Option Addr) (l : List Tm) : Prop :=
  l ≠ [] → ∃ b o x fz, ao = some ⟨b, o, none⟩ ∧ w.heap[b]? = some (.cells x 34 fz) ∧ RowAt w 8 b o ((l.map nilTv).map tvC)

theorem TkR.moved {w w' : World} {ao : Option Addr} {l : List Tm} (h : TkR w ao l) (hk : ∀ (b : Nat) x fz, w.heap[b]? = some (.cells x 34 fz) → w'.heap[b]? = some (.cells x 34 fz)) : TkR w' ao l := by
  intro hne
  obtain ⟨b, o, x, fz, rfl, hx, hr⟩ := h hne
  refine ⟨b, o, x, fz, rfl, hk _ _ _ hx, fun i cs hi j u hj => ?_⟩
  exact (World.cell?_of_block (a := ⟨b, o + i * 8 + j, none⟩) ((hk _ _ _ hx).trans hx.symm)).trans (hr i cs hi j u hj)

theorem TkR.below {w w' : World} {ao : Option Addr} {l : List Tm} (h : TkR w ao l) (hb : Below w.heap.size w w') : TkR w' ao l :=
  h.moved fun b x fz hx => (hb.block b (lt_of_block hx)).trans hx

theorem TkR.kept {w w' : World} {ao : Option Addr} {l : List Tm} {e : TypeId} (h : TkR w ao l) (hk : Lib.OthersKept e none w w') (he : e ≠ 34) : TkR w' ao l :=
  h.moved fun b x fz hx => (KeptTok.others (S := b + 1) hk he (by simp)) b (Nat.lt_succ_self b) x fz hx

theorem TkR.row {w : World} {ao : Option Addr} {l : List Tm} (h : TkR w ao l) : Row w 8 ao ((l.map nilTv).map tvC) := by
  intro hne
  obtain ⟨b, o, _, _, rfl, _, hr⟩ := h (by intro e; rw [e] at hne; simp at hne)
  exact ⟨b, o, rfl, hr⟩

set_option maxRecDepth 100000 in
theorem rToksT_any (s : ByteArray) (hs : s.size ≤ 1000000) (w : World) :
    Calls Tryz.prog 35 #[.string s] w fun e w' => ∃ ao cap, e = .returned (.slice ao (toksL s.data.toList).length cap) ∧ (toksL s.data.toList).length ≤ cap ∧ TkR w' ao (toksL s.data.toList) ∧ Below w.heap.size w w' := by
  have HLi := rLines_any (bs [102]) s hs w
  unfold toksL
  obtain ⟨ls, hls⟩ : ∃ ls, ls = (linesL s.data.toList).1 := ⟨_, rfl⟩
  rw [← hls] at HLi ⊢
  clear hls
  replace HLi := Lib.hid HLi
  go_enter Tryz.func35, Tryz.ntmps35
  go_wp2_with fail
  refine HLi.out.mono ?_
  rintro e w1 ⟨vo, vd, lcs, rfl, hown, hlns, hd, hb⟩
  cases hlns with
  | nil =>
    obtain ⟨ao, cap, rfl, _, _, _, _⟩ := hown.rown (n := 0) rfl
    obtain ⟨M, hM⟩ : ∃ M, M = (linesL s.data.toList).2 := ⟨_, rfl⟩
    rw [← hM] at hd
    obtain ⟨ad, cd, rfl, _, _, _, _⟩ := hd.rown (n := M.length) (by simp)
    replace hd := Lib.hid hd
    replace hM := Lib.hid hM
    go_wp2
    go_ret
    exact ⟨none, 0, rfl, Nat.le_refl _, fun h => absurd rfl h, hb⟩
  | @cons l c ls css h r =>
    obtain ⟨n, hn⟩ : ∃ n, n = css.length := ⟨_, rfl⟩
    obtain ⟨g, cap, rfl, hcap⟩ := hown.cons_at (by simp)
    have hown' := hown
    rw [List.length_cons, ← hn] at hown' ⊢
    obtain ⟨M, hM⟩ : ∃ M, M = (linesL s.data.toList).2 := ⟨_, rfl⟩
    rw [← hM] at hd
    obtain ⟨ad, cd, rfl, _, _, _, _⟩ := hd.rown (n := M.length) (by simp)
    obtain ⟨ao, tc, rfl, htc, hrow⟩ := h
    obtain ⟨b', o', e', hat⟩ := hown.here (by simp)
    simp at e'
    obtain ⟨rfl, rfl⟩ := e'
    have c0 := hat.cell (i := 0) rfl (j := 0) (u := .slice ao l.toks.length tc) rfl
    simp only [Nat.zero_mul, Nat.add_zero] at c0
    have hn0 : (0 : Int) < ((n + 1 : Nat) : Int) := by omega
    have hne : (((n + 1 : Nat) : Int) == 0) = false := by simp; omega
    have HR : Hid (TkR w1 ao (l.toks.map (Tk.tm (bs [102])))) := Lib.hid (fun hne => by
      obtain ⟨b, o, x, fz, rfl, _, hx, h⟩ := hrow (by intro e; rw [e] at hne; simp at hne)
      refine ⟨b, o, x, fz, rfl, hx, ?_⟩
      rw [List.map_map, List.map_map]
      exact h)
    replace hd := Lib.hid hd
    replace hM := Lib.hid hM
    replace hat := Lib.hid hat
    replace hown := Lib.hid hown
    replace hown' := Lib.hid hown'
    replace hn := Lib.hid hn
    replace hrow := Lib.hid hrow
    clear hcap r
    go_wp2
    go_ret
    refine ⟨ao, tc, by simp [toksOf], by simp [toksOf]; exact htc, HR.out, hb⟩

/-- rows of tokens, appended one by one -/
def RawAt (w : World) (B : Nat) (v : Value) (LL : List (List Tm)) : Prop :=
  ∃ vs : List Value, Own w B 22 1 v (vs.map fun u => [u]) ∧ vs.length = LL.length ∧ ∀ (i : Nat) u l, vs[i]? = some u → LL[i]? = some l → ∃ ao cap, u = .slice ao l.length cap ∧ l.length ≤ cap ∧ TkR w ao l

theorem RawAt.below {w w' : World} {B : Nat} {v : Value} {LL : List (List Tm)} (h : RawAt w B v LL) (hb : Below w.heap.size w w') : RawAt w' B v LL := by
  obtain ⟨vs, h1, h2, h3⟩ := h
  refine ⟨vs, h1.below hb, h2, fun i u l hu hl => ?_⟩
  obtain ⟨ao, cap, e, hc, ht⟩ := h3 i u l hu hl
  exact ⟨ao, cap, e, hc, ht.below hb⟩

theorem RawAt.snoc {w w' : World} {B : Nat} {v v' : Value} {LL : List (List Tm)} {vs : List Value} (h1 : Own w B 22 1 v (vs.map fun u => [u])) (h2 : vs.length = LL.length) (h3 : ∀ (i : Nat) u l, vs[i]? = some u → LL[i]? = some l → ∃ ao cap, u = .slice ao l.length cap ∧ l.length ≤ cap ∧ TkR w ao l)
    {l : List Tm} {ao : Option Addr} {cap : Nat} (hc : l.length ≤ cap) (ht : TkR w ao l) (ho : Own w' B 22 1 v' (vs.map (fun u => [u]) ++ [[.slice ao l.length cap]])) (hg : w.grownBy w' v.ownBlock) : RawAt w' B v' (LL ++ [l]) := by
  refine ⟨vs ++ [.slice ao l.length cap], by rw [List.map_append]; exact ho, by simp [h2], fun i u l' hu hl => ?_⟩
  have hk := others_app h1 hg
  by_cases hi : i < vs.length
  · rw [List.getElem?_append_left hi] at hu
    rw [List.getElem?_append_left (by omega)] at hl
    obtain ⟨ao', cap', e, hc', ht'⟩ := h3 i u l' hu hl
    exact ⟨ao', cap', e, hc', ht'.kept hk (by decide)⟩
  · have hi' : i = vs.length := by
      have := (List.getElem?_eq_some_iff.1 hu).1
      rw [List.length_append, List.length_singleton] at this
      omega
    subst hi'
    rw [List.getElem?_concat_length] at hu
    rw [h2, List.getElem?_concat_length] at hl
    injection hu with hu
    injection hl with hl
    subst hu hl
    exact ⟨ao, cap, rfl, hc, ht.kept hk (by decide)⟩

theorem RawAt.ls {w : World} {B : Nat} {v : Value} {LL : List (List Tm)} (h : RawAt w B v LL) : LsRd w v (LL.map fun l => l.map nilTf) := by
  obtain ⟨vs, h1, h2, h3⟩ := h
  obtain ⟨ao, cap, rfl, hc, _, hr, _⟩ := h1.rown (n := LL.length) (by simp [h2])
  refine ⟨ao, cap, vs, by simp, by simpa using hc, hr, by simp [h2], fun i u X hu hX => ?_⟩
  rw [List.getElem?_map] at hX
  cases hl : LL[i]? with
  | none => rw [hl] at hX; cases hX
  | some l =>
    rw [hl] at hX
    injection hX with hX
    subst hX
    obtain ⟨ao', cap', rfl, hc', ht⟩ := h3 i u l hu hl
    exact toksRd_nil rfl hc' ht.row

/-- a literal of one row, and rows behind it -/
theorem RawAt.cat {w w' : World} {B : Nat} {v v' : Value} {l : List Tm} {ao : Option Addr} {cap : Nat} {vs : List Value} {LL : List (List Tm)} (h1 : Own w B 22 1 v [[.slice ao l.length cap]]) (hc : l.length ≤ cap) (ht : TkR w ao l)
    (h2 : vs.length = LL.length) (h3 : ∀ (i : Nat) u l, vs[i]? = some u → LL[i]? = some l → ∃ ao cap, u = .slice ao l.length cap ∧ l.length ≤ cap ∧ TkR w ao l)
    (ho : Own w' B 22 1 v' ([[.slice ao l.length cap]] ++ vs.map fun u => [u])) (hg : w.grownBy w' v.ownBlock) : RawAt w' B v' (l :: LL) := by
  have hk := others_app h1 hg
  refine ⟨.slice ao l.length cap :: vs, by rw [List.map_cons]; exact ho, by simp [h2], fun i u l' hu hl => ?_⟩
  cases i with
  | zero =>
    rw [List.getElem?_cons_zero] at hu hl
    injection hu with hu
    injection hl with hl
    subst hu hl
    exact ⟨ao, cap, rfl, hc, ht.kept hk (by decide)⟩
  | succ i =>
    rw [List.getElem?_cons_succ] at hu hl
    obtain ⟨ao', cap', e, hc', ht'⟩ := h3 i u l' hu hl
    exact ⟨ao', cap', e, hc', ht'.kept hk (by decide)⟩

/-- what stands behind the first row -/
theorem RawAt.rest {w : World} {B n cap ga : Nat} {LL : List (List Tm)} (h : RawAt w B (.slice (some ⟨ga, 0, none⟩) n cap) LL) : ∃ vs : List Value, vs.length = (LL.drop 1).length ∧ Row w 1 (some ⟨ga, 1, none⟩) (vs.map fun u => [u]) ∧ ∀ (i : Nat) u l, vs[i]? = some u → (LL.drop 1)[i]? = some l → ∃ ao cap, u = .slice ao l.length cap ∧ l.length ≤ cap ∧ TkR w ao l := by
  obtain ⟨vs, h1, h2, h3⟩ := h
  refine ⟨vs.drop 1, by simp [h2], ?_, fun i u l hu hl => ?_⟩
  · have := h1.here.drop1 1
    rw [Nat.zero_add, ← List.map_drop] at this
    exact this
  · rw [List.getElem?_drop] at hu hl
    exact h3 (1 + i) u l hu hl

/-- a literal of one row, the rows of another list appended to it -/
theorem raw_plus {wc w7 w8 : World} {PL : List Tm} {pl tc : Nat} {ta : Option Addr} {vr : List Value} {LL : List (List Tm)} {v8 : Value} (hpl : pl = PL.length) (htc : pl ≤ tc) (htk : TkR w7 ta PL) (q1 : vr.length = LL.length) (q3 : ∀ (i : Nat) u l, vr[i]? = some u → LL[i]? = some l → ∃ ao cap, u = .slice ao l.length cap ∧ l.length ≤ cap ∧ TkR wc ao l) (hb : Below wc.heap.size wc w7)
    (hown : Own w8 w7.heap.size 22 1 v8 ([[.slice ta pl tc]] ++ vr.map fun u => [u])) (hg : (w7.alloc (.cells #[.slice ta pl tc] 22)).grownBy w8 (Value.slice (some ⟨w7.heap.size, 0, none⟩) 1 1).ownBlock) :
    LsRd w8 v8 (PL.map nilTf :: LL.map fun l => l.map nilTf) ∧ Below wc.heap.size wc w8 := by
  subst hpl
  have ho := own_lit1 w7 22 1 [.slice ta PL.length tc] rfl
  have hb7 : Below w7.heap.size w7 (w7.alloc (.cells #[.slice ta PL.length tc] 22)) := (Below.refl _ w7).alloc (Nat.le_refl _) _
  have hb7' := hb.trans (hb7.mono hb.size)
  refine ⟨?_, bapp hb7' (ho.mono hb.size) hg hb7'.size⟩
  exact (RawAt.cat ho htc (htk.below hb7) q1 (fun i u l hu hl => by
    obtain ⟨ao, cap, e, hc, ht⟩ := q3 i u l hu hl
    exact ⟨ao, cap, e, hc, ht.below hb7'⟩) hown hg).ls

theorem raw_one {wc : World} {vr : List Value} {LL : List (List Tm)} (q1 : vr.length = LL.length) (q3 : ∀ (i : Nat) u l, vr[i]? = some u → LL[i]? = some l → ∃ ao cap, u = .slice ao l.length cap ∧ l.length ≤ cap ∧ TkR wc ao l) : ∀ cs ∈ vr.map (fun u => [u]), ∀ u ∈ cs, u.oneCell' = true := by
  intro cs hcs u hu
  obtain ⟨a, ha, rfl⟩ := List.mem_map.1 hcs
  simp only [List.mem_singleton] at hu
  subst hu
  obtain ⟨i, hi⟩ := List.getElem?_of_mem ha
  obtain ⟨l, hl⟩ : ∃ l, LL[i]? = some l := ⟨_, List.getElem?_eq_getElem (by rw [← q1]; exact (List.getElem?_eq_some_iff.1 hi).1)⟩
  obtain ⟨ao, cap, rfl, _⟩ := q3 i u l hi hl
  rfl
end Go.Proofs.YtfaoamdlknlgpaaGreat
