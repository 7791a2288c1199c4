/- Texts of this seat's proofs, laid into one file. -/
import Derived.Test.YtfaoamdlknlgpaaGreatSubstHashDoneG18
import Derived.Test.YtfaoamdlknlgpaaGreatSubstHashDoneG6
import Derived.Test.YtfaoamdlknlgpaaGreatSubstHashDoneG10
import Derived.Test.YtfaoamdlknlgpaaGreatSubstHashDoneG4
/- lex's punct. -/
namespace Go.Proofs.YtfaoamdlknlgpaaGreat
open Go.RowKit
set_option linter.unusedVariables false

def words29 : List (List UInt8) := [[37, 58, 37, 58], [46, 46, 46], [60, 60, 61], [62, 62, 61], [45, 62], [43, 43], [45, 45], [60, 60], [62, 62], [60, 61], [62, 61], [61, 61], [33, 61], [38, 38], [124, 124], [42, 61], [47, 61], [37, 61], [43, 61], [45, 61], [38, 61], [94, 61], [124, 61], [35, 35], [60, 58], [58, 62], [60, 37], [37, 62], [37, 58]]
def signs25 : List UInt8 := [91, 93, 40, 41, 123, 125, 46, 38, 42, 43, 45, 126, 33, 47, 37, 60, 62, 94, 124, 63, 58, 59, 61, 44, 35]
def signB (c : UInt8) : Nat := if c ∈ signs25 then 1 else 0
def punFrom29 (A : List UInt8) (i k : Nat) : Nat := match (words29.drop k).find? (hasL A i) with | some p => p.length | none => signB (chAt A i)

theorem hasL_prefix {A : List UInt8} {i : Nat} {p : List UInt8} (hp : p ≠ []) : hasL A i p = p.isPrefixOf (A.drop i) := by
  have hpos : 0 < p.length := List.length_pos_iff.2 hp
  rw [Bool.eq_iff_iff, List.isPrefixOf_iff_prefix, List.prefix_iff_getElem?]
  unfold hasL
  simp only [Bool.and_eq_true, decide_eq_true_eq, List.all_eq_true, List.mem_range, beq_iff_eq, List.getElem?_drop]
  constructor
  · rintro ⟨h1, h2⟩ j hj
    have := h2 j hj
    rw [List.getElem?_eq_getElem (by omega)]
    unfold chAt at this
    rw [List.getD_eq_getElem?_getD, List.getElem?_eq_getElem (by omega), List.getD_eq_getElem?_getD, List.getElem?_eq_getElem hj] at this
    simp only [Option.getD_some] at this
    rw [this]
  · intro h
    refine ⟨?_, fun j hj => ?_⟩
    · have := (List.getElem?_eq_some_iff.1 (h (p.length - 1) (by omega))).1
      omega
    · rw [chAt_lt (h j hj), List.getD_eq_getElem?_getD, List.getElem?_eq_getElem hj]
      rfl

theorem find_signs (A : List UInt8) (i : Nat) : ∀ l : List UInt8, (∀ c ∈ l, c ≠ 0) → ((((l.map fun c => [c]).find? fun p => p.isPrefixOf (A.drop i)).map List.length).getD 0) = if chAt A i ∈ l then 1 else 0
  | [], _ => by simp
  | c :: l, h => by
    rw [List.map_cons, List.find?_cons, ← hasL_prefix (by simp), hasL1 (h c (by simp))]
    by_cases hc : chAt A i = c
    · simp [hc]
    · simp only [List.mem_cons, hc, false_or]
      exact find_signs A i l (fun c hc => h c (List.mem_cons_of_mem _ hc))

theorem pun_all (A : List UInt8) (i : Nat) : punFrom29 A i 0 = punctL A i := by
  unfold punFrom29 punctL
  have e : punctsL = words29 ++ signs25.map (fun c => [c]) := rfl
  rw [e, List.find?_append, List.drop_zero]
  have hw : words29.find? (hasL A i) = words29.find? (fun p => p.isPrefixOf (A.drop i)) := by
    have : ∀ l : List (List UInt8), (∀ p ∈ l, p ≠ []) → l.find? (hasL A i) = l.find? (fun p => p.isPrefixOf (A.drop i)) := by
      intro l
      induction l with
      | nil => intro _; rfl
      | cons p l ih =>
        intro h
        rw [List.find?_cons, List.find?_cons, hasL_prefix (h p (by simp)), ih (fun p hp => h p (by simp [hp]))]
    exact this _ (by decide)
  rw [hw]
  cases h : words29.find? (fun p => p.isPrefixOf (A.drop i)) with
  | some p => rfl
  | none =>
    have := find_signs A i signs25 (by decide)
    simp only [Option.none_or]
    rw [this]
    rfl

theorem pun_step {A : List UInt8} {i k : Nat} {s : List UInt8} (h : words29[k]? = some s) : punFrom29 A i k = if hasL A i s then s.length else punFrom29 A i (k + 1) := by
  unfold punFrom29
  rw [List.drop_eq_getElem_cons (List.getElem?_eq_some_iff.1 h).1, (List.getElem?_eq_some_iff.1 h).2, List.find?_cons]
  cases hasL A i s <;> rfl

theorem idx_signB (c : UInt8) : decide (0 ≤ Lib.indexByte signs25 c) = decide (c ∈ signs25) := by
  have := idx_sign ⟨c.toNat, c.toNat_lt⟩
  simp only [UInt8.ofNat_toNat] at this
  exact this

def PunPost (A : List UInt8) (i : Nat) (w : World) (e : Ending) (w' : World) : Prop := e = .returned (.int .i64 (punctL A i)) ∧ Below w.heap.size w w'

set_option maxHeartbeats 2000000 in
set_option maxRecDepth 100000 in
theorem ppunct_any (b : Nat) (R : List Rn) (lo : Option Addr) (cap at_ : Nat) (hl : R.length ≤ 1000001) (ha : at_ ≤ R.length) (w : World) (h : WkAt w b R lo cap at_) :
    Calls Tryz.prog 109 #[.pointer (some ⟨b, 0, none⟩)] w fun e w' => PunPost (cs R) at_ w e w' := by
  have HP := fun (w' : World) (hb : Below w.heap.size w w') => peek_any b R lo cap at_ 0 (by omega) w' (h.below hb)
  have HH := fun (s : ByteArray) (hs : s.size ≤ 10) (w' : World) (hb : Below w.heap.size w w') => has_any b R lo cap at_ s hs w' (h.below hb)
  obtain ⟨P, hP⟩ : ∃ P, P = punctL (cs R) at_ := ⟨_, rfl⟩
  obtain ⟨c, hc⟩ : ∃ c, c = chAt (cs R) at_ := ⟨_, rfl⟩
  have HE : Hid (P = punFrom29 (cs R) at_ 0) := Lib.hid (by rw [hP]; exact (pun_all (cs R) at_).symm)
  have HPost : Hid (∀ e w', e = .returned (.int .i64 P) → Below w.heap.size w w' → PunPost (cs R) at_ w e w') := Lib.hid (by
    intro e w' he hb
    subst he
    exact ⟨by rw [hP], hb⟩)
  rw [Nat.add_zero, ← hc] at HP
  replace HP := Lib.hid HP
  replace HH := Lib.hid HH
  replace hP := Lib.hid hP
  clear h
  go_enter Tryz.func109, Tryz.ntmps109
  go_wp2_with fail
  obtain ⟨W1, hW1⟩ : ∃ W1, W1 = w.alloc (.cells (words29.map fun p => Value.string (bs p)).toArray 9) := ⟨_, rfl⟩
  have hB1 : Below w.heap.size w W1 := by rw [hW1]; exact (Below.refl _ w).alloc (Nat.le_refl _) _
  have hg : W1.heap[w.heap.size]? = some (.cells (words29.map fun p => Value.string (bs p)).toArray 9 (0, 0)) := by rw [hW1]; exact heap_alloc_new w _
  have HC : Hid (∀ k s, words29[k]? = some s → ∀ w', Below W1.heap.size W1 w' → w'.cell? ⟨w.heap.size, k, none⟩ = some (.string (bs s))) := Lib.hid (by
    intro k s hk w' hb
    refine kept_cell hb ?_
    rw [Lib.cell_of_heap hg k]
    simp [hk])
  go_loopg [10] 29 (fun u v wr => ∃ k : Nat, u = 29 - k ∧ k ≤ 29 ∧ v = .int .i64 k ∧ Below W1.heap.size W1 wr ∧ Hid (P = punFrom29 (cs R) at_ k))
  case atStart => exact ⟨0, rfl, by omega, rfl, by rw [hW1]; exact Below.refl _ _, HE⟩
  case round =>
    obtain ⟨k, rfl, hk, rfl, hbr, HT⟩ := hrel
    by_cases hlt : k < 29
    · obtain ⟨s, hs⟩ : ∃ s, words29[k]? = some s := ⟨words29[k]'hlt, List.getElem?_eq_getElem hlt⟩
      have hs4 : s.length ≤ 4 := (show ∀ s ∈ words29, s.length ≤ 4 by decide) s (List.mem_of_getElem? hs)
      have hst := pun_step (A := cs R) (i := at_) hs
      obtain ⟨sb, hsb⟩ : ∃ sb, sb = bs s := ⟨_, rfl⟩
      have hsz : sb.size = s.length := by rw [hsb]; rfl
      have hsd : sb.data.toList = s := by rw [hsb]
      have c0 := HC.out k s hs wr hbr
      rw [← hsb] at c0
      have hbw : Below w.heap.size w wr := hB1.trans (hbr.mono hB1.size)
      obtain ⟨y, hy⟩ : ∃ y, y = hasL (cs R) at_ s := ⟨_, rfl⟩
      have HHk := HH.out sb (by omega) wr hbw
      rw [hsd, ← hy] at HHk
      rw [← hy, ← hsz] at hst
      replace HHk := Lib.hid HHk
      replace hs := Lib.hid hs
      replace hst := Lib.hid hst
      replace hsb := Lib.hid hsb
      replace hsd := Lib.hid hsd
      replace hsz := Lib.hid hsz
      replace hy := Lib.hid hy
      replace hc := Lib.hid hc
      go_wp2_with fail
      refine HHk.out.mono ?_
      rintro e w6 ⟨rfl, k6, hw6⟩
      have hb6 : Below wr.heap.size wr w6 := by rw [hw6]; exact drewN_below _ _
      replace hw6 := Lib.hid hw6
      have hbr6 : Below W1.heap.size W1 w6 := hbr.trans (hb6.mono hbr.size)
      have hbw6 : Below w.heap.size w w6 := hB1.trans (hbr6.mono hB1.size)
      cases y with
      | true =>
        have hres : Hid (P = sb.size) := Lib.hid (by rw [HT.out, hst.out, if_pos rfl])
        go_wp2
        go_ret
        exact HPost.out _ _ (by rw [hres.out]; rfl) hbw6
      | false =>
        have HT2 : Hid (P = punFrom29 (cs R) at_ (k + 1)) := Lib.hid (by rw [HT.out, hst.out, if_neg (by decide)])
        go_wp2_with fail
        go_roundg (29 - (k + 1))
        case measure => omega
        case rel => exact ⟨k + 1, rfl, by omega, by go_num, hbr6, HT2⟩
    · have hk29 : k = 29 := by omega
      have hres : Hid (P = signB c) := Lib.hid (by rw [HT.out, hk29, hc]; rfl)
      have hbw : Below w.heap.size w wr := hB1.trans (hbr.mono hB1.size)
      replace hk29 := Lib.hid hk29
      have HPr := HP.out wr hbw
      replace HPr := Lib.hid HPr
      replace hc := Lib.hid hc
      go_wp2_with fail
      refine HPr.out.mono ?_
      rintro e w5 ⟨rfl, k5, hw5⟩
      have hb5 : Below w.heap.size w w5 := by rw [hw5]; exact below_drewN hbw k5
      replace hw5 := Lib.hid hw5
      have HI := Tryz.strings_IndexByte ⟨#[91, 93, 40, 41, 123, 125, 46, 38, 42, 43, 45, 126, 33, 47, 37, 60, 62, 94, 124, 63, 58, 59, 61, 44, 35]⟩ (c.toNat : Int) w5
      obtain ⟨ix, hix⟩ : ∃ ix, ix = Lib.indexByte signs25 c := ⟨_, rfl⟩
      rw [show ((c.toNat : Int).toNat.toUInt8) = c by simp, show (⟨#[91, 93, 40, 41, 123, 125, 46, 38, 42, 43, 45, 126, 33, 47, 37, 60, 62, 94, 124, 63, 58, 59, 61, 44, 35]⟩ : ByteArray).data.toList = signs25 from rfl, ← hix] at HI
      have hie := idx_signB c
      rw [← hix] at hie
      replace HI := Lib.hid HI
      replace hix := Lib.hid hix
      by_cases h0 : c = 0
      · have b0 : c.toNat = 0 := by rw [h0]; rfl
        have hres2 : Hid (P = 0) := Lib.hid (by rw [hres.out, h0]; decide)
        replace h0 := Lib.hid h0
        replace hie := Lib.hid hie
        go_wp2
        go_ret
        exact HPost.out _ _ (by rw [hres2.out]; rfl) hb5
      · have b0 : ¬ (c.toNat : Int) = 0 := fun e => h0 (UInt8.toNat_inj.1 (by simpa using e))
        have b1 : ((c.toNat : Int) == 0) = false := beq_false_of_ne b0
        replace h0 := Lib.hid h0
        by_cases hix0 : 0 ≤ ix
        · have hres2 : Hid (P = 1) := Lib.hid (by
            rw [decide_eq_true hix0] at hie
            rw [hres.out]
            unfold signB
            rw [if_pos (of_decide_eq_true hie.symm)])
          replace hie := Lib.hid hie
          go_wp2_with fail
          refine HI.out.mono ?_
          rintro e w6 ⟨rfl, hw6⟩
          replace hw6 := hw6.symm
          subst hw6
          go_wp2
          go_ret
          exact HPost.out _ _ (by rw [hres2.out]; rfl) hb5
        · have hres2 : Hid (P = 0) := Lib.hid (by
            rw [decide_eq_false hix0] at hie
            rw [hres.out]
            unfold signB
            rw [if_neg (of_decide_eq_false hie.symm)])
          replace hie := Lib.hid hie
          go_wp2_with fail
          refine HI.out.mono ?_
          rintro e w6 ⟨rfl, hw6⟩
          replace hw6 := hw6.symm
          subst hw6
          go_wp2
          go_ret
          exact HPost.out _ _ (by rw [hres2.out]; rfl) hb5
end Go.Proofs.YtfaoamdlknlgpaaGreat

/- lex's token. -/
namespace Go.Proofs.YtfaoamdlknlgpaaGreat
open Go.RowKit
set_option linter.unusedVariables false

def tokL (A : List UInt8) (i : Nat) : Int × Nat :=
  if 0 < (constL A i).2 then constL A i
  else if letterB (chAt A i) then (1, 1 + ((A.drop (i + 1)).takeWhile idB).length)
  else if 0 < pnumL A i then (2, pnumL A i)
  else if 0 < punctL A i then (5, punctL A i)
  else (6, 1)

theorem quote_no {c : UInt8} (h : c = 34 ∨ c = 39) : letterB c = false ∧ digitB c = false ∧ c ≠ 46 := by
  rcases h with rfl | rfl <;> decide

theorem punct_quote {A : List UInt8} {i : Nat} (h : chAt A i = 34 ∨ chAt A i = 39) : punctL A i = 0 := by
  unfold punctL
  rw [List.find?_eq_none.2]
  · rfl
  · intro p hp
    have hne : p ≠ [] := (show ∀ p ∈ punctsL, p ≠ [] by decide) p hp
    rw [← hasL_prefix hne]
    intro hh
    unfold hasL at hh
    simp only [Bool.and_eq_true, decide_eq_true_eq, List.all_eq_true, List.mem_range, beq_iff_eq] at hh
    have h0 := hh.2 0 (by cases p with | nil => simp at hne | cons => simp)
    rw [Nat.add_zero] at h0
    have : ∀ p ∈ punctsL, p.getD 0 0 ≠ 34 ∧ p.getD 0 0 ≠ 39 := by decide
    have := this p hp
    rcases h with h | h
    · exact this.1 (h0.symm.trans h)
    · exact this.2 (h0.symm.trans h)

theorem tok_next {A : List UInt8} {i : Nat} (hi : i < A.length) : tokL A i = (((nextL A i).1 : Int), (nextL A i).2.1 - i) := by
  have hq := fun h => quotedL_le A (i + (lettersL A i).toNat) h
  unfold tokL nextL constL closesL pnumL
  by_cases hneg : lettersL A i < 0
  · have h0 : ¬ 0 ≤ lettersL A i := by omega
    have h00 : ¬ lettersL A i = 0 := by omega
    simp only [hneg, if_true, h0, false_and, if_false, h00, Nat.lt_irrefl]
    by_cases hL : letterB (chAt A i) = true
    · simp only [hL, if_true]
      simp; omega
    · simp only [hL]
      by_cases hN : i < numL A i
      · have : 0 < numL A i - i := by omega
        simp [hN, this]
      · have : ¬ 0 < numL A i - i := by omega
        simp only [hN, this, if_false]
        by_cases hP : 0 < punctL A i
        · simp [hP]
        · simp [hP]
  · have h0 : 0 ≤ lettersL A i := by omega
    have hQ := letters_quote hneg
    by_cases hz : quotedL A (i + (lettersL A i).toNat) = 0
    · have hzp : ¬ 0 < quotedL A (i + (lettersL A i).toNat) := by omega
      simp only [hneg, if_false, hz, if_true, h0, true_and, Nat.lt_irrefl, false_and]
      by_cases hL0 : lettersL A i = 0
      · have hqc : chAt A i = 34 ∨ chAt A i = 39 := by
          have := hQ.2
          rw [hL0] at this
          simpa using this
        obtain ⟨a1, a2, a3⟩ := quote_no hqc
        have hN : numL A i = i := by unfold numL; rw [if_neg (by simp [a2, a3])]
        simp only [hL0, if_true, a1, hN, punct_quote hqc]
        simp
      · simp only [hL0, if_false]
        by_cases hL : letterB (chAt A i) = true
        · simp only [hL, if_true]
          simp; omega
        · simp only [hL]
          by_cases hN : i < numL A i
          · have : 0 < numL A i - i := by omega
            simp [hN, this]
          · have : ¬ 0 < numL A i - i := by omega
            simp only [hN, this, if_false]
            by_cases hP : 0 < punctL A i
            · simp [hP]
            · simp [hP]
    · have hzp : 0 < quotedL A (i + (lettersL A i).toNat) := by omega
      have := (hq hzp).1
      have hs : ¬ quotedL A (i + (lettersL A i).toNat) - i = 0 := by omega
      have hs2 : 0 < quotedL A (i + (lettersL A i).toNat) - i := by omega
      simp only [hneg, if_false, hz, hs, hs2, if_true, h0, true_and, hzp]
      by_cases h34 : chAt A (i + (lettersL A i).toNat) = 34
      · simp [h34]
      · simp [h34]
end Go.Proofs.YtfaoamdlknlgpaaGreat

/- lex's token: the walk. -/
namespace Go.Proofs.YtfaoamdlknlgpaaGreat
open Go.RowKit
set_option linter.unusedVariables false

def TokPost := ConstPost

set_option maxHeartbeats 2000000 in
set_option maxRecDepth 100000 in
theorem token_any (W0 : World) (b : Nat) (file : ByteArray) (R : List Rn) (lo : Option Addr) (cap at_ : Nat) (vd : Value) (ds : List Dg) (sp : Bool) (q : Int) (HR : ∀ w', Bel b W0 w' → Row w' 3 lo (R.map Rn.v)) (hcap : R.length ≤ cap) (hl : R.length ≤ 1000001) (ha : at_ ≤ R.length) (hd : ds.length ≤ 1000010) (w : World) (h : LwAt W0 w b file R.length lo cap at_ vd ds sp q) :
    Calls Tryz.prog 89 #[.pointer (some ⟨b, 0, none⟩)] w fun e w' => TokPost W0 b file R R.length lo cap at_ ds sp q (tokL (cs R) at_) (tellB (cs R) at_ q) (at_ + (lettersL (cs R) at_).toNat) w e w' := by
  have HC := constant_any W0 b file R lo cap at_ vd ds sp q HR hcap hl ha hd w h
  obtain ⟨K, hK⟩ : ∃ K, K = tokL (cs R) at_ := ⟨_, rfl⟩
  obtain ⟨kc, nc, hkc⟩ : ∃ kc nc, constL (cs R) at_ = (kc, nc) := ⟨_, _, rfl⟩
  obtain ⟨tb, htb⟩ : ∃ tb, tb = tellB (cs R) at_ q := ⟨_, rfl⟩
  obtain ⟨pos, hpos⟩ : ∃ pos, pos = at_ + (lettersL (cs R) at_).toNat := ⟨_, rfl⟩
  obtain ⟨c, hc⟩ : ∃ c, c = chAt (cs R) at_ := ⟨_, rfl⟩
  obtain ⟨m, hm⟩ : ∃ m, m = R.length := ⟨_, rfl⟩
  have HA : Hid ((cs R).length = m) := Lib.hid (by rw [cs_len, hm])
  rw [← hK, ← htb, ← hpos]
  rw [hkc, ← htb, ← hpos] at HC
  unfold tokL at hK
  rw [hkc, ← hc] at hK
  unfold ConstPost at HC
  have HPost : Hid (∀ w' vd', LwAt W0 w' b file R.length lo cap at_ vd' (ds ++ if tb then [⟨2, rF R pos, rT R pos⟩] else []) sp (if tb then (pos : Int) else q) → KeptX w w' → TokPost W0 b file R R.length lo cap at_ ds sp q K tb pos w (.returned (.tuple #[.int .i64 K.1, .int .i64 K.2])) w') := Lib.hid (by
    intro w' vd' h1 h2
    exact ⟨vd', rfl, h1, h2⟩)
  obtain ⟨ds1, hds1⟩ : ∃ d, d = (ds ++ if tb then [⟨2, rF R pos, rT R pos⟩] else [] : List Dg) := ⟨_, rfl⟩
  obtain ⟨q1, hq1⟩ : ∃ d, d = (if tb then (pos : Int) else q) := ⟨_, rfl⟩
  rw [← hds1, ← hq1] at HPost HC
  have HW := fun w' vd' (h' : LwAt W0 w' b file R.length lo cap at_ vd' ds1 sp q1) => h'.wk HR hcap (by omega) (by omega)
  have HPk := fun (k : Nat) (hk : k ≤ 4000000) w' (h' : WkAt w' b R lo cap at_) => peek_any b R lo cap at_ k hk w' h'
  have HNu := fun w' (h' : WkAt w' b R lo cap at_) => number_any b R lo cap at_ hl ha w' h'
  have HPu := fun w' (h' : WkAt w' b R lo cap at_) => ppunct_any b R lo cap at_ hl ha w' h'
  obtain ⟨pn, hpn⟩ : ∃ pn, pn = pnumL (cs R) at_ := ⟨_, rfl⟩
  obtain ⟨pu, hpu⟩ : ∃ pu, pu = punctL (cs R) at_ := ⟨_, rfl⟩
  unfold NumPost at HNu
  unfold PunPost at HPu
  rw [← hpn] at HNu
  rw [← hpu] at HPu
  rw [← hpn, ← hpu] at hK
  have hpnl : pn ≤ 1000002 := by rw [hpn]; unfold pnumL; have := numL_le (cs R) at_; rw [cs_len] at this; omega
  have hpul : pu ≤ 4 := by rw [hpu]; exact punctL_le (cs R) at_
  rw [← hm] at hl ha HC HPost HW ⊢
  replace HC := Lib.hid HC
  replace HPk := Lib.hid HPk
  replace HNu := Lib.hid HNu
  replace HPu := Lib.hid HPu
  replace HW := Lib.hid HW
  replace hpn := Lib.hid hpn
  replace hpu := Lib.hid hpu
  replace hkc := Lib.hid hkc
  replace hds1 := Lib.hid hds1
  replace hq1 := Lib.hid hq1
  replace hK := Lib.hid hK
  replace hc := Lib.hid hc
  clear hm HR hcap h hd htb hpos
  go_enter Tryz.func89, Tryz.ntmps89
  go_wp2_with fail
  refine HC.out.mono ?_
  rintro e w1 ⟨vd1, rfl, h1, hX1⟩
  have hW1 := HW.out w1 vd1 h1
  by_cases hnc : 0 < nc
  · have hci : (0 : Int) < nc := by omega
    have hKr : Hid (K = (kc, nc)) := Lib.hid (by rw [hK.out, if_pos hnc])
    go_wp2
    go_ret2
    have := HPost.out w1 vd1 h1 hX1
    rw [hKr.out] at this
    rw [hKr.out]
    exact this
  · have hci : ¬ (0 : Int) < nc := by omega
    have hK1 : Hid (K = if letterB c then (1, 1 + (((cs R).drop (at_ + 1)).takeWhile idB).length) else if 0 < pn then (2, pn) else if 0 < pu then (5, pu) else (6, 1)) := Lib.hid (by rw [hK.out, if_neg hnc])
    have HP0 := HPk.out 0 (by omega) w1 hW1
    rw [Nat.add_zero, ← hc.out] at HP0
    replace HP0 := Lib.hid HP0
    go_wp2_with fail
    refine HP0.out.mono ?_
    rintro e w2 ⟨rfl, k2, hw2⟩
    have hb2 : Below w1.heap.size w1 w2 := by rw [hw2]; exact drewN_below _ _
    replace hw2 := Lib.hid hw2
    go_wp2_with fail
    refine (pletter_any c w2).mono ?_
    rintro e w3 ⟨rfl, hw3⟩
    replace hw3 := hw3.symm
    subst hw3
    obtain ⟨lb, hlb⟩ : ∃ lb, lb = letterB c := ⟨_, rfl⟩
    rw [← hlb] at hK1 ⊢
    cases lb with
    | true =>
      have hKr : Hid (K = (1, 1 + (((cs R).drop (at_ + 1)).takeWhile idB).length)) := Lib.hid (by rw [hK1.out, if_pos rfl])
      replace hlb := Lib.hid hlb
      go_wp2_with fail
      go_loopg [3] (m + 20 - (at_ + 1)) (fun u v wr => ∃ k : Nat, u = m + 20 - (at_ + k) ∧ at_ + k ≤ m + 10 ∧ v = .int .i64 k ∧ (∃ q, wr = w2.drewN q) ∧ Hid (1 + (((cs R).drop (at_ + 1)).takeWhile idB).length = k + (((cs R).drop (at_ + k)).takeWhile idB).length))
      case atStart => exact ⟨1, rfl, by omega, rfl, ⟨0, rfl⟩, Lib.hid rfl⟩
      case round =>
        obtain ⟨k, rfl, hk, rfl, ⟨q2, hq2⟩, HT⟩ := hrel
        have hbr : Below w1.heap.size w1 wr := by rw [hq2]; exact below_drewN hb2 q2
        replace hq2 := Lib.hid hq2
        obtain ⟨x, hx⟩ : ∃ x, x = chAt (cs R) (at_ + k) := ⟨_, rfl⟩
        have hid := id_go (cs R) (at_ + k)
        have hidm : at_ + k < m ∨ (((cs R).drop (at_ + k)).takeWhile idB).length = 0 := by
          rcases Nat.lt_or_ge (at_ + k) m with h | h
          · exact .inl h
          · exact .inr (while_end (by rw [HA.out]; exact h))
        rw [← hx] at hid
        have HPx := fun w' (hb : Below w1.heap.size w1 w') => HPk.out k (by omega) w' (hW1.below hb)
        rw [← hx] at HPx
        replace HPx := Lib.hid HPx
        replace hx := Lib.hid hx
        obtain ⟨l2, hl2⟩ : ∃ lb, lb = letterB x := ⟨_, rfl⟩
        obtain ⟨d2, hd2⟩ : ∃ lb, lb = digitB x := ⟨_, rfl⟩
        have HLx := fun w' => pletter_any x w'
        have HDx := fun w' => pdigit_any x w'
        rw [← hl2, ← hd2] at hid
        rw [← hl2] at HLx
        rw [← hd2] at HDx
        replace HLx := Lib.hid HLx
        replace HDx := Lib.hid HDx
        replace hl2 := Lib.hid hl2
        replace hd2 := Lib.hid hd2
        replace hid := Lib.hid hid
        replace hidm := Lib.hid hidm
        go_wp2_with fail
        refine (HPx.out wr hbr).mono ?_
        rintro e w5 ⟨rfl, k5, hw5⟩
        obtain ⟨q5, hq5⟩ : ∃ q, w5 = w2.drewN q := ⟨_, by rw [hw5, hq2.out, drewN_add]⟩
        have hb5 : Below w1.heap.size w1 w5 := by rw [hq5]; exact below_drewN hb2 q5
        replace hq5 := Lib.hid hq5
        clear hw5
        go_wp2_with fail
        refine (HLx.out w5).mono ?_
        rintro e w6 ⟨rfl, hw6⟩
        replace hw6 := hw6.symm
        subst hw6
        cases l2 with
        | true =>
          have hmx : at_ + k < m := by
            rcases hidm.out with h | h
            · exact h
            · have := hid.out; simp at this; omega
          have HT2 : Hid (1 + (((cs R).drop (at_ + 1)).takeWhile idB).length = (k + 1) + (((cs R).drop (at_ + (k + 1))).takeWhile idB).length) := Lib.hid (by
            have := hid.out; simp only [Bool.true_or, if_true] at this; rw [HT.out, this, show at_ + (k + 1) = at_ + k + 1 by omega]; omega)
          go_wp2_with fail
          go_roundg (m + 20 - (at_ + (k + 1)))
          case measure => omega
          case rel => exact ⟨k + 1, rfl, by omega, by go_num, ⟨q5, hq5.out⟩, HT2⟩
        | false =>
          go_wp2_with fail
          refine (HPx.out w5 hb5).mono ?_
          rintro e w7 ⟨rfl, k7, hw7⟩
          obtain ⟨q7, hq7⟩ : ∃ q, w7 = w2.drewN q := ⟨_, by rw [hw7, hq5.out, drewN_add]⟩
          have hb7 : Below w1.heap.size w1 w7 := by rw [hq7]; exact below_drewN hb2 q7
          replace hq7 := Lib.hid hq7
          clear hw7
          go_wp2_with fail
          refine (HDx.out w7).mono ?_
          rintro e w8 ⟨rfl, hw8⟩
          replace hw8 := hw8.symm
          subst hw8
          cases d2 with
          | true =>
            have hmx : at_ + k < m := by
              rcases hidm.out with h | h
              · exact h
              · have := hid.out; simp at this; omega
            have HT2 : Hid (1 + (((cs R).drop (at_ + 1)).takeWhile idB).length = (k + 1) + (((cs R).drop (at_ + (k + 1))).takeWhile idB).length) := Lib.hid (by
              have := hid.out; simp only [Bool.or_true, if_true] at this; rw [HT.out, this, show at_ + (k + 1) = at_ + k + 1 by omega]; omega)
            go_wp2_with fail
            go_roundg (m + 20 - (at_ + (k + 1)))
            case measure => omega
            case rel => exact ⟨k + 1, rfl, by omega, by go_num, ⟨q7, hq7.out⟩, HT2⟩
          | false =>
            have hKk : Hid (K = (1, k)) := Lib.hid (by
              have := hid.out; simp only [Bool.or_self, Bool.false_eq_true, if_false] at this; rw [hKr.out, HT.out, this]; rfl)
            go_wp2
            go_ret2
            have := HPost.out w7 vd1 (h1.after hb7) (hX1.trans (KeptX.below hb7))
            rw [hKk.out] at this
            rw [hKk.out]
            exact this
    | false =>
      have hK2 : Hid (K = if 0 < pn then (2, pn) else if 0 < pu then (5, pu) else (6, 1)) := Lib.hid (by rw [hK1.out, if_neg (by simp)])
      replace hlb := Lib.hid hlb
      have HN2 := HNu.out w2 (hW1.below hb2)
      replace HN2 := Lib.hid HN2
      go_wp2_with fail
      refine HN2.out.mono ?_
      rintro e w5 ⟨rfl, k5, hw5⟩
      have hb5 : Below w1.heap.size w1 w5 := by rw [hw5]; exact below_drewN hb2 k5
      replace hw5 := Lib.hid hw5
      by_cases hp : 0 < pn
      · have hpi : (0 : Int) < pn := by omega
        have hKk : Hid (K = (2, pn)) := Lib.hid (by rw [hK2.out, if_pos hp])
        go_wp2
        go_ret2
        have := HPost.out w5 vd1 (h1.after hb5) (hX1.trans (KeptX.below hb5))
        rw [hKk.out] at this
        rw [hKk.out]
        exact this
      · have hpi : ¬ (0 : Int) < pn := by omega
        have hK3 : Hid (K = if 0 < pu then (5, pu) else (6, 1)) := Lib.hid (by rw [hK2.out, if_neg hp])
        have HU2 := HPu.out w5 (hW1.below hb5)
        replace HU2 := Lib.hid HU2
        go_wp2_with fail
        refine HU2.out.mono ?_
        rintro e w6 ⟨rfl, hb6⟩
        have hb7 : Below w1.heap.size w1 w6 := hb5.trans (hb6.mono hb5.size)
        by_cases hu : 0 < pu
        · have hui : (0 : Int) < pu := by omega
          have hKk : Hid (K = (5, pu)) := Lib.hid (by rw [hK3.out, if_pos hu])
          go_wp2
          go_ret2
          have := HPost.out w6 vd1 (h1.after hb7) (hX1.trans (KeptX.below hb7))
          rw [hKk.out] at this
          rw [hKk.out]
          exact this
        · have hui : ¬ (0 : Int) < pu := by omega
          have hKk : Hid (K = (6, 1)) := Lib.hid (by rw [hK3.out, if_neg hu])
          go_wp2
          go_ret2
          have := HPost.out w6 vd1 (h1.after hb7) (hX1.trans (KeptX.below hb7))
          rw [hKk.out] at this
          rw [hKk.out]
          exact this
end Go.Proofs.YtfaoamdlknlgpaaGreat

/- lex's next: two labels in a scope, what next gives. -/
namespace Go.Proofs.YtfaoamdlknlgpaaGreat
open Go.RowKit
set_option linter.unusedVariables false

/-- two labels: one that is jumped back to, one that is jumped on to -/
def _root_.Go.Exit.jump2 (l : Nat) (J : Act → World → Prop) (l0 : Nat) (J0 : Act → World → Prop) (Q : Exit → Act → World → Prop) : Exit → Act → World → Prop
  | .goto l', a, w => (l' = l ∧ J a w) ∨ (l' = l0 ∧ J0 a w)
  | e, a, w => Q e a w

theorem wp_scope_two {P : Program} {a : Act} {w : World} {Q : Exit → Act → World → Prop} {c rest rest0 : Code} (l l0 : Nat) (J : Nat → Act → World → Prop) (J0 : Act → World → Prop) (hf : findLabel c l = some rest) (hf0 : findLabel c l0 = some rest0)
    (first : (Hid (∀ n a w, J n a w → rest.wp P (Exit.jump2 l (fun a w => ∃ n, J n a w) l0 J0 Q) a w)) → c.wp P (Exit.jump2 l (fun a w => ∃ n, J n a w) l0 J0 Q) a w)
    (pass : ∀ n a w, J n a w → rest.wp P (Exit.jump2 l (fun a' w' => ∃ n', n' < n ∧ J n' a' w') l0 J0 Q) a w)
    (last : ∀ a w, J0 a w → rest0.wp P (Exit.noGoto Q) a w) : (Code.scope c).wp P Q a w := by
  intro b k cs
  have hg : gotoIn l (.inScope c :: k) = some (.code rest :: .inScope c :: k) := by simp [gotoIn, hf]
  have hg0 : gotoIn l0 (.inScope c :: k) = some (.code rest0 :: .inScope c :: k) := by simp [gotoIn, hf0]
  have key0 : ∀ a w, J0 a w → ∃ e a' w', Q e a' w' ∧ Arrives P (lone (b.at a (.code rest0 :: .inScope c :: k)) cs w) b k cs e a' w' := by
    intro a w hJ
    obtain ⟨e, a₁, w₁, hq, harr⟩ := last a w hJ b (.inScope c :: k) cs
    cases e with
    | normal => exact ⟨.normal, a₁, w₁, hq, Steps.trans harr (.one step_inScope)⟩
    | exit id => exact ⟨.exit id, a₁, w₁, hq, fun k' hk => harr k' (by simp [exitTo, hk])⟩
    | goto l' => exact hq.elim
    | ret => exact ⟨_, a₁, w₁, hq, harr⟩
    | panic ch => exact ⟨_, a₁, w₁, hq, harr⟩
    | outgrown => exact ⟨_, a₁, w₁, hq, harr⟩
  have key : ∀ n a w, J n a w → ∃ e a' w', Q e a' w' ∧ Arrives P (lone (b.at a (.code rest :: .inScope c :: k)) cs w) b k cs e a' w' := by
    intro n
    induction n using Nat.strongRecOn with
    | _ n ih =>
      intro a w hJ
      obtain ⟨e, a₁, w₁, hq, harr⟩ := pass n a w hJ b (.inScope c :: k) cs
      cases e with
      | normal => exact ⟨.normal, a₁, w₁, hq, Steps.trans harr (.one step_inScope)⟩
      | exit id => exact ⟨.exit id, a₁, w₁, hq, fun k' hk => harr k' (by simp [exitTo, hk])⟩
      | goto l' =>
        rcases hq with ⟨rfl, n', hlt, hJ'⟩ | ⟨rfl, hJ'⟩
        · obtain ⟨e₂, a₂, w₂, hq₂, harr₂⟩ := ih n' hlt a₁ w₁ hJ'
          exact ⟨e₂, a₂, w₂, hq₂, .of_steps (harr _ hg) harr₂⟩
        · obtain ⟨e₂, a₂, w₂, hq₂, harr₂⟩ := key0 a₁ w₁ hJ'
          exact ⟨e₂, a₂, w₂, hq₂, .of_steps (harr _ hg0) harr₂⟩
      | ret => exact ⟨_, a₁, w₁, hq, harr⟩
      | panic ch => exact ⟨_, a₁, w₁, hq, harr⟩
      | outgrown => exact ⟨_, a₁, w₁, hq, harr⟩
  have first' := first (Lib.hid fun n a w h => Code.wp_mono (fun e a' w' q => by
    cases e <;> first
      | exact q
      | (rcases q with ⟨q1, n', _, q2⟩ | q
         · exact .inl ⟨q1, n', q2⟩
         · exact .inr q)) (pass n a w h))
  obtain ⟨e, a₁, w₁, hq, harr⟩ := first' b (.inScope c :: k) cs
  cases e with
  | normal => exact ⟨.normal, a₁, w₁, hq, .head step_scope (Steps.trans harr (.one step_inScope))⟩
  | exit id => exact ⟨.exit id, a₁, w₁, hq, fun k' hk => .head step_scope (harr k' (by simp [exitTo, hk]))⟩
  | goto l' =>
    rcases hq with ⟨rfl, n', hJ'⟩ | ⟨rfl, hJ'⟩
    · obtain ⟨e₂, a₂, w₂, hq₂, harr₂⟩ := key n' a₁ w₁ hJ'
      exact ⟨e₂, a₂, w₂, hq₂, .of_steps (.head step_scope (harr _ hg)) harr₂⟩
    · obtain ⟨e₂, a₂, w₂, hq₂, harr₂⟩ := key0 a₁ w₁ hJ'
      exact ⟨e₂, a₂, w₂, hq₂, .of_steps (.head step_scope (harr _ hg0)) harr₂⟩
  | ret => exact ⟨_, a₁, w₁, hq, .of_steps (.one step_scope) harr⟩
  | panic ch => exact ⟨_, a₁, w₁, hq, .of_steps (.one step_scope) harr⟩
  | outgrown => exact ⟨_, a₁, w₁, hq, .of_steps (.one step_scope) harr⟩

theorem wp_scope_two' {P : Program} {a : Act} {w : World} {Q : Exit → Act → World → Prop} {c rest rest0 : Code} (l l0 : Nat) (J : Nat → Act → World → Prop) (J0 : Act → World → Prop) (hf : findLabel c l = some (.seq .skip rest)) (hf0 : findLabel c l0 = some (.seq .skip rest0))
    (first : (Hid (∀ n a w, J n a w → rest.wp P (Exit.jump2 l (fun a w => ∃ n, J n a w) l0 J0 Q) a w)) → c.wp P (Exit.jump2 l (fun a w => ∃ n, J n a w) l0 J0 Q) a w)
    (pass : ∀ n a w, J n a w → rest.wp P (Exit.jump2 l (fun a' w' => ∃ n', n' < n ∧ J n' a' w') l0 J0 Q) a w)
    (last : ∀ a w, J0 a w → rest0.wp P (Exit.noGoto Q) a w) : (Code.scope c).wp P Q a w :=
  wp_scope_two l l0 J J0 hf hf0 (fun _ => first (Lib.hid fun n a w h => Code.wp_mono (fun e a' w' q => by
    cases e <;> first
      | exact q
      | (rcases q with ⟨q1, n', _, q2⟩ | q
         · exact .inl ⟨q1, n', q2⟩
         · exact .inr q)) (pass n a w h))) (fun n a w h => wp_seq (wp_skip (pass n a w h))) (fun a w h => wp_seq (wp_skip (last a w h)))

theorem frame_eta : ∀ (xs : List Value), xs = (List.range xs.length).map (fun i => xs.getD i undef) := by
  intro xs
  apply List.ext_getElem
  · simp
  · intro i h1 h2
    simp [List.getD_eq_getElem?_getD, List.getElem?_eq_getElem h1]

theorem frame121 {xs : List Value} (h : xs.length = 121) : ∃ F : Nat → Value, xs = [F 0, F 1, F 2, F 3, F 4, F 5, F 6, F 7, F 8, F 9, F 10, F 11, F 12, F 13, F 14, F 15, F 16, F 17, F 18, F 19, F 20, F 21, F 22, F 23, F 24, F 25, F 26, F 27, F 28, F 29, F 30, F 31, F 32, F 33, F 34, F 35, F 36, F 37, F 38, F 39, F 40, F 41, F 42, F 43, F 44, F 45, F 46, F 47, F 48, F 49, F 50, F 51, F 52, F 53, F 54, F 55, F 56, F 57, F 58, F 59, F 60, F 61, F 62, F 63, F 64, F 65, F 66, F 67, F 68, F 69, F 70, F 71, F 72, F 73, F 74, F 75, F 76, F 77, F 78, F 79, F 80, F 81, F 82, F 83, F 84, F 85, F 86, F 87, F 88, F 89, F 90, F 91, F 92, F 93, F 94, F 95, F 96, F 97, F 98, F 99, F 100, F 101, F 102, F 103, F 104, F 105, F 106, F 107, F 108, F 109, F 110, F 111, F 112, F 113, F 114, F 115, F 116, F 117, F 118, F 119, F 120] := by
  refine ⟨fun i => xs.getD i undef, ?_⟩
  have := frame_eta xs
  rw [h] at this
  exact this

theorem frame125 {xs : List Value} (h : xs.length = 125) : ∃ F : Nat → Value, xs = [F 0, F 1, F 2, F 3, F 4, F 5, F 6, F 7, F 8, F 9, F 10, F 11, F 12, F 13, F 14, F 15, F 16, F 17, F 18, F 19, F 20, F 21, F 22, F 23, F 24, F 25, F 26, F 27, F 28, F 29, F 30, F 31, F 32, F 33, F 34, F 35, F 36, F 37, F 38, F 39, F 40, F 41, F 42, F 43, F 44, F 45, F 46, F 47, F 48, F 49, F 50, F 51, F 52, F 53, F 54, F 55, F 56, F 57, F 58, F 59, F 60, F 61, F 62, F 63, F 64, F 65, F 66, F 67, F 68, F 69, F 70, F 71, F 72, F 73, F 74, F 75, F 76, F 77, F 78, F 79, F 80, F 81, F 82, F 83, F 84, F 85, F 86, F 87, F 88, F 89, F 90, F 91, F 92, F 93, F 94, F 95, F 96, F 97, F 98, F 99, F 100, F 101, F 102, F 103, F 104, F 105, F 106, F 107, F 108, F 109, F 110, F 111, F 112, F 113, F 114, F 115, F 116, F 117, F 118, F 119, F 120, F 121, F 122, F 123, F 124] := by
  refine ⟨fun i => xs.getD i undef, ?_⟩
  have := frame_eta xs
  rw [h] at this
  exact this

/-- what next goes by -/
structure NS where
  (i : Nat) (ds : List Dg) (sp : Bool) (q : Int) (op : Bool)

def AtIn (R : List Rn) (s : NS) : Prop := s.i < R.length ∧ chAt (cs R) s.i ≠ 10

inductive Skips (R : List Rn) : NS → NS → Prop
  | refl (s : NS) : Skips R s s
  | white {s t : NS} (h : Skips R s t) (hi : AtIn R t) (hw : whiteB (chAt (cs R) t.i) = true) : Skips R s ⟨t.i + 1, t.ds, true, t.q, t.op⟩
  | com {s t : NS} (h : Skips R s t) (hi : AtIn R t) (hw : whiteB (chAt (cs R) t.i) = false) (hc : t.i < (commentL (cs R) t.i).1) : Skips R s ⟨(commentL (cs R) t.i).1, t.ds ++ if (commentL (cs R) t.i).2 then [⟨1, rF R t.i, rT R (t.i + 1)⟩] else [], true, t.q, (commentL (cs R) t.i).2⟩

def AtTok (R : List Rn) (s : NS) : Prop := AtIn R s ∧ whiteB (chAt (cs R) s.i) = false ∧ ¬ s.i < (commentL (cs R) s.i).1

def tokN (R : List Rn) (s : NS) : Tk := ⟨(nextL (cs R) s.i).1, ((cs R).drop s.i).take ((nextL (cs R) s.i).2.1 - s.i), s.sp, rF R s.i, rT R ((nextL (cs R) s.i).2.1 - 1)⟩
def posN (R : List Rn) (s : NS) : Nat := s.i + (lettersL (cs R) s.i).toNat
def afterTok (R : List Rn) (s : NS) : NS := ⟨(nextL (cs R) s.i).2.1, s.ds ++ (if tellB (cs R) s.i s.q then [⟨2, rF R (posN R s), rT R (posN R s)⟩] else []), false, if tellB (cs R) s.i s.q then (posN R s : Int) else s.q, false⟩

theorem Skips.bound {R : List Rn} {s t : NS} (h : Skips R s t) (hs : s.i ≤ R.length) : s.i ≤ t.i ∧ t.i ≤ R.length ∧ t.ds.length + s.i ≤ s.ds.length + t.i := by
  induction h with
  | refl => omega
  | white h hi hw ih =>
    have := hi.1
    have := ih
    simp only
    omega
  | com h hi hw hc ih =>
    have h1 := commentL_len (A := cs R) (by rw [cs_len]; exact hi.1)
    rw [cs_len] at h1
    have := ih
    simp only [List.length_append]
    split
    · simp only [List.length_cons, List.length_nil]; omega
    · simp only [List.length_nil]; omega

theorem KeptX.kb {w1 w3 wr : World} (h : KeptX w1 w3) (hb : Below w1.heap.size w3 wr) : KeptX w1 wr :=
  ⟨Nat.le_trans h.1 hb.size, fun k x e fz hx h1 h2 => (hb.block k (lt_of_block hx)).trans (h.2 k x e fz hx h1 h2)⟩

theorem cells8x {w : World} {b : Nat} {a0 a1 a2 a3 a4 a5 a6 a7 : Value} {e : TypeId} {fz : Nat × Nat} (h : w.heap[b]? = some (.cells #[a0, a1, a2, a3, a4, a5, a6, a7] e fz)) :
    w.cell? ⟨b, 0, none⟩ = some a0 ∧ w.cell? ⟨b, 1, none⟩ = some a1 ∧ w.cell? ⟨b, 2, none⟩ = some a2 ∧ w.cell? ⟨b, 3, none⟩ = some a3 ∧ w.cell? ⟨b, 4, none⟩ = some a4 ∧ w.cell? ⟨b, 5, none⟩ = some a5 ∧ w.cell? ⟨b, 6, none⟩ = some a6 ∧ w.cell? ⟨b, 7, none⟩ = some a7 :=
  ⟨by simpa using Lib.cell_of_heap h 0, by simpa using Lib.cell_of_heap h 1, by simpa using Lib.cell_of_heap h 2, by simpa using Lib.cell_of_heap h 3, by simpa using Lib.cell_of_heap h 4, by simpa using Lib.cell_of_heap h 5, by simpa using Lib.cell_of_heap h 6, by simpa using Lib.cell_of_heap h 7⟩

theorem com_open_end {A : List UInt8} {i : Nat} (h : (commentL A i).2 = true) : (commentL A i).1 = A.length := by
  revert h
  unfold commentL
  split
  · intro h; cases h
  · split
    · intro h; cases h
    · split
      · intro h; cases h
      · cases hc : comEnd (i + 2) (A.drop (i + 2)) with
        | none => intro _; rfl
        | some e => intro h; cases h

theorem set_at {w : World} {T : Nat} {xs : Array Value} {e : TypeId} {fz : Nat × Nat} (h : w.heap[T]? = some (.cells xs e fz)) (j : Nat) (u : Value) : (w.setCell ⟨T, j, none⟩ u).heap[T]? = some (.cells (xs.setIfInBounds j u) e fz) := by
  rw [setCell_eq_setRow _ _ _ _ _ _ _ h, setRow_heap _ _ _ _ _ _ h]

/-- all eight cells of a token are written -/
def set8 (w : World) (T : Nat) (b0 b1 b2 b3 b4 b5 b6 b7 : Value) : World := ((((((((w.setCell ⟨T, 0, none⟩ b0).setCell ⟨T, 1, none⟩ b1).setCell ⟨T, 2, none⟩ b2).setCell ⟨T, 3, none⟩ b3).setCell ⟨T, 4, none⟩ b4).setCell ⟨T, 5, none⟩ b5).setCell ⟨T, 6, none⟩ b6).setCell ⟨T, 7, none⟩ b7)

theorem set8_at {w : World} {T : Nat} {a0 a1 a2 a3 a4 a5 a6 a7 b0 b1 b2 b3 b4 b5 b6 b7 : Value} {e : TypeId} {fz : Nat × Nat} (h : w.heap[T]? = some (.cells #[a0, a1, a2, a3, a4, a5, a6, a7] e fz)) : (set8 w T b0 b1 b2 b3 b4 b5 b6 b7).heap[T]? = some (.cells #[b0, b1, b2, b3, b4, b5, b6, b7] e fz) := by
  have := (set_at (set_at (set_at (set_at (set_at (set_at (set_at (set_at h 0 b0) 1 b1) 2 b2) 3 b3) 4 b4) 5 b5) 6 b6) 7 b7)
  simpa [set8] using this

theorem set8_below {w W0 : World} {B T : Nat} {b0 b1 b2 b3 b4 b5 b6 b7 : Value} (h : Below B W0 w) (hB : B ≤ T) : Below B W0 (set8 w T b0 b1 b2 b3 b4 b5 b6 b7) :=
  ((((((((h.setCell (p := ⟨T, 0, none⟩) hB b0).setCell (p := ⟨T, 1, none⟩) hB b1).setCell (p := ⟨T, 2, none⟩) hB b2).setCell (p := ⟨T, 3, none⟩) hB b3).setCell (p := ⟨T, 4, none⟩) hB b4).setCell (p := ⟨T, 5, none⟩) hB b5).setCell (p := ⟨T, 6, none⟩) hB b6).setCell (p := ⟨T, 7, none⟩) hB b7)

theorem set8_other {w : World} {T k : Nat} {b0 b1 b2 b3 b4 b5 b6 b7 : Value} (h : k ≠ T) : (set8 w T b0 b1 b2 b3 b4 b5 b6 b7).heap[k]? = w.heap[k]? := by
  unfold set8
  rw [Below.heap_setCell _ _ _ _ h, Below.heap_setCell _ _ _ _ h, Below.heap_setCell _ _ _ _ h, Below.heap_setCell _ _ _ _ h, Below.heap_setCell _ _ _ _ h, Below.heap_setCell _ _ _ _ h, Below.heap_setCell _ _ _ _ h, Below.heap_setCell _ _ _ _ h]

theorem set8_eq {w : World} {T : Nat} {b0 b1 b2 b3 b4 b5 b6 b7 : Value} : ((((((((w.setCell ⟨T, 0, none⟩ b0).setCell ⟨T, 1, none⟩ b1).setCell ⟨T, 2, none⟩ b2).setCell ⟨T, 3, none⟩ b3).setCell ⟨T, 4, none⟩ b4).setCell ⟨T, 5, none⟩ b5).setCell ⟨T, 6, none⟩ b6).setCell ⟨T, 7, none⟩ b7) = set8 w T b0 b1 b2 b3 b4 b5 b6 b7 := rfl

theorem set8_cell {w : World} {T b j : Nat} {v b0 b1 b2 b3 b4 b5 b6 b7 : Value} (h : b ≠ T) (hc : w.cell? ⟨b, j, none⟩ = some v) : ((((((((w.setCell ⟨T, 0, none⟩ b0).setCell ⟨T, 1, none⟩ b1).setCell ⟨T, 2, none⟩ b2).setCell ⟨T, 3, none⟩ b3).setCell ⟨T, 4, none⟩ b4).setCell ⟨T, 5, none⟩ b5).setCell ⟨T, 6, none⟩ b6).setCell ⟨T, 7, none⟩ b7).cell? ⟨b, j, none⟩ = some v :=
  (World.cell?_of_block (set8_other h)).trans hc

theorem Own.swap {w w' : World} {B e sz T : Nat} {v : Value} {css : List (List Value)} (h : Own w B e sz v css) (hT : ∀ x fz, w.heap[T]? ≠ some (.cells x e fz)) (ho : ∀ k, k ≠ T → w'.heap[k]? = w.heap[k]?) : Own w' B e sz v css := by
  refine ⟨⟨h.1.1, ?_⟩, h.2⟩
  rcases h.1.2 with h0 | ⟨g, cap, cur, hv, hg1, hg, r⟩
  · exact .inl h0
  · refine .inr ⟨g, cap, cur, hv, hg1, (ho g ?_).trans hg, r⟩
    rintro rfl
    exact hT _ _ hg

theorem LwAt.swap {W0 w w' : World} {b T : Nat} {file : ByteArray} {n : Nat} {lo : Option Addr} {cap at_ : Nat} {vd : Value} {ds : List Dg} {sp : Bool} {q : Int} {y : Array Value} {fz : Nat × Nat} (h : LwAt W0 w b file n lo cap at_ vd ds sp q) (hT : w.heap[T]? = some (.cells y 34 fz)) (ho : ∀ k, k ≠ T → w'.heap[k]? = w.heap[k]?) (hB : Below T w w') (hbT : b < T) : LwAt W0 w' b file n lo cap at_ vd ds sp q :=
  ⟨(ho b (Nat.ne_of_lt hbT)).trans h.cells, h.below.swap hT (by decide) ho hB (Nat.le_of_lt hbT), h.diags.swap (fun x fz' e => by rw [hT] at e; simp only [Option.some.injEq, Obj.cells.injEq] at e; exact absurd e.2.1 (by decide)) ho⟩

theorem Bel.kb {b : Nat} {W0 w w' : World} {b1 B1 B2 : Nat} {l : List UInt8} (h : Bel b W0 w) (hb : Bld w B1 b1 l) (hk : Kb B2 b1 w w') (hbB : b ≤ B2) : Bel b W0 w' := by
  refine ⟨h.lo.trans (hk.below.mono hbB), fun k x fz hx => ?_⟩
  have hx2 := h.rn k x fz hx
  refine hk.others k _ hx2 ?_ ?_
  · intro e1
    obtain rfl := Option.some.inj e1
    obtain ⟨p, v', hbk⟩ : ∃ p v', w.heap[k]? = some (.cells #[p, v'] 74 (0, 0)) := by
      rcases hb with ⟨_, v', h1, _⟩ | ⟨_, v', h1, _⟩
      · exact ⟨_, v', h1⟩
      · exact ⟨_, v', h1⟩
    rw [hx2] at hbk
    simp only [Option.some.injEq, Obj.cells.injEq] at hbk
    exact absurd hbk.2.1 (by decide)
  · intro c fz' e1
    simp only [Obj.cells.injEq] at e1
    exact absurd e1.2.1 (by decide)

theorem LwAt.kb {W0 w w' : World} {b b1 B1 B2 : Nat} {file : ByteArray} {n : Nat} {lo : Option Addr} {cap at_ : Nat} {vd : Value} {ds : List Dg} {sp : Bool} {q : Int} {l : List UInt8} (h : LwAt W0 w b file n lo cap at_ vd ds sp q) (hb : Bld w B1 b1 l) (hk : Kb B2 b1 w w') (hbB : b < B2) : LwAt W0 w' b file n lo cap at_ vd ds sp q :=
  ⟨(hk.below.block b hbB).trans h.cells, h.below.kb hb hk (Nat.le_of_lt hbB), own_kb h.diags hb (by decide) (by decide) hk⟩

/-- ahead of a token's store -/
structure MidAt (W0 w7 x : World) (b : Nat) (file : ByteArray) (n : Nat) (lo : Option Addr) (cap at_ : Nat) (vd : Value) (ds : List Dg) (sp : Bool) (q : Int) (T : Nat) (l : List UInt8) (zt : Array Value) : Prop where
  lw : LwAt W0 x b file n lo cap at_ vd ds sp q
  bl : Bld x (T + 1) (T + 1) l
  be : Below (T + 1) w7 x
  tk : x.heap[T]? = some (.cells zt 34 (0, 0))
  sz : T + 2 ≤ x.heap.size

theorem MidAt.after {W0 w7 x x' : World} {b : Nat} {file : ByteArray} {n : Nat} {lo : Option Addr} {cap at_ : Nat} {vd : Value} {ds : List Dg} {sp : Bool} {q : Int} {T : Nat} {l : List UInt8} {zt : Array Value} (h : MidAt W0 w7 x b file n lo cap at_ vd ds sp q T l zt) (hb : Below x.heap.size x x') : MidAt W0 w7 x' b file n lo cap at_ vd ds sp q T l zt :=
  ⟨h.lw.after hb, h.bl.below hb, h.be.trans (hb.mono (by have := h.sz; omega)), (hb.block T (lt_of_block h.tk)).trans h.tk, Nat.le_trans h.sz hb.size⟩

theorem MidAt.kb {W0 w7 x x' : World} {b : Nat} {file : ByteArray} {n : Nat} {lo : Option Addr} {cap at_ : Nat} {vd : Value} {ds : List Dg} {sp : Bool} {q : Int} {T : Nat} {l l' : List UInt8} {zt : Array Value} (h : MidAt W0 w7 x b file n lo cap at_ vd ds sp q T l zt) (hbT : b < T) (hbl : Bld x' (T + 1) (T + 1) l') (hk : Kb (T + 1) (T + 1) x x') : MidAt W0 w7 x' b file n lo cap at_ vd ds sp q T l' zt :=
  ⟨h.lw.kb h.bl hk (by omega), hbl, h.be.trans hk.below, (hk.below.block T (by omega)).trans h.tk, Nat.le_trans h.sz hk.below.size⟩

theorem LwAt.space {W0 w : World} {b : Nat} {file : ByteArray} {n : Nat} {lo : Option Addr} {cap at_ : Nat} {vd : Value} {ds : List Dg} {sp : Bool} {q : Int} (h : LwAt W0 w b file n lo cap at_ vd ds sp q) (sp2 : Bool) :
    LwAt W0 (w.setCell ⟨b, 4, none⟩ (.bool sp2)) b file n lo cap at_ vd ds sp2 q :=
  ⟨lw_set4 h.cells _, h.below.set h.cells (by decide) (Nat.le_refl _) 4 _, h.diags.setBelow (Nat.lt_succ_self _) _⟩
end Go.Proofs.YtfaoamdlknlgpaaGreat
