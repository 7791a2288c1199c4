/- Texts of this seat's proofs, laid into one file. -/
import Derived.Test.YtfaoamdlknlgpaaGreatArgsCollectDoneG13
import Derived.Test.YtfaoamdlknlgpaaGreatArgsCollectDoneG14
import Derived.Test.YtfaoamdlknlgpaaGreatArgsCollectDoneG8
/- lex's token. -/
namespace Go.Proofs.YtfaoamdlknlgpaaGreat
open Go.RowKit
set_option linter.unusedVariables false

def tokL (A : List UInt8) (i : Nat) : Int × Nat :=
  if 0 < (constL A i).2 then constL A i
  else if letterB (chAt A i) then (1, 1 + ((A.drop (i + 1)).takeWhile idB).length)
  else if 0 < pnumL A i then (2, pnumL A i)
  else if 0 < punctL A i then (5, punctL A i)
  else (6, 1)

theorem quote_no {c : UInt8} (h : c = 34 ∨ c = 39) : letterB c = false ∧ digitB c = false ∧ c ≠ 46 := by
  rcases h with rfl | rfl <;> decide

theorem punct_quote {A : List UInt8} {i : Nat} (h : chAt A i = 34 ∨ chAt A i = 39) : punctL A i = 0 := by
  unfold punctL
  rw [List.find?_eq_none.2]
  · rfl
  · intro p hp
    have hne : p ≠ [] := (show ∀ p ∈ punctsL, p ≠ [] by decide) p hp
    rw [← hasL_prefix hne]
    intro hh
    unfold hasL at hh
    simp only [Bool.and_eq_true, decide_eq_true_eq, List.all_eq_true, List.mem_range, beq_iff_eq] at hh
    have h0 := hh.2 0 (by cases p with | nil => simp at hne | cons => simp)
    rw [Nat.add_zero] at h0
    have : ∀ p ∈ punctsL, p.getD 0 0 ≠ 34 ∧ p.getD 0 0 ≠ 39 := by decide
    have := this p hp
    rcases h with h | h
    · exact this.1 (h0.symm.trans h)
    · exact this.2 (h0.symm.trans h)

theorem tok_next {A : List UInt8} {i : Nat} (hi : i < A.length) : tokL A i = (((nextL A i).1 : Int), (nextL A i).2.1 - i) := by
  have hq := fun h => quotedL_le A (i + (lettersL A i).toNat) h
  unfold tokL nextL constL closesL pnumL
  by_cases hneg : lettersL A i < 0
  · have h0 : ¬ 0 ≤ lettersL A i := by omega
    have h00 : ¬ lettersL A i = 0 := by omega
    simp only [hneg, if_true, h0, false_and, if_false, h00, Nat.lt_irrefl]
    by_cases hL : letterB (chAt A i) = true
    · simp only [hL, if_true]
      simp; omega
    · simp only [hL]
      by_cases hN : i < numL A i
      · have : 0 < numL A i - i := by omega
        simp [hN, this]
      · have : ¬ 0 < numL A i - i := by omega
        simp only [hN, this, if_false]
        by_cases hP : 0 < punctL A i
        · simp [hP]
        · simp [hP]
  · have h0 : 0 ≤ lettersL A i := by omega
    have hQ := letters_quote hneg
    by_cases hz : quotedL A (i + (lettersL A i).toNat) = 0
    · have hzp : ¬ 0 < quotedL A (i + (lettersL A i).toNat) := by omega
      simp only [hneg, if_false, hz, if_true, h0, true_and, Nat.lt_irrefl, false_and]
      by_cases hL0 : lettersL A i = 0
      · have hqc : chAt A i = 34 ∨ chAt A i = 39 := by
          have := hQ.2
          rw [hL0] at this
          simpa using this
        obtain ⟨a1, a2, a3⟩ := quote_no hqc
        have hN : numL A i = i := by unfold numL; rw [if_neg (by simp [a2, a3])]
        simp only [hL0, if_true, a1, hN, punct_quote hqc]
        simp
      · simp only [hL0, if_false]
        by_cases hL : letterB (chAt A i) = true
        · simp only [hL, if_true]
          simp; omega
        · simp only [hL]
          by_cases hN : i < numL A i
          · have : 0 < numL A i - i := by omega
            simp [hN, this]
          · have : ¬ 0 < numL A i - i := by omega
            simp only [hN, this, if_false]
            by_cases hP : 0 < punctL A i
            · simp [hP]
            · simp [hP]
    · have hzp : 0 < quotedL A (i + (lettersL A i).toNat) := by omega
      have := (hq hzp).1
      have hs : ¬ quotedL A (i + (lettersL A i).toNat) - i = 0 := by omega
      have hs2 : 0 < quotedL A (i + (lettersL A i).toNat) - i := by omega
      simp only [hneg, if_false, hz, hs, hs2, if_true, h0, true_and, hzp]
      by_cases h34 : chAt A (i + (lettersL A i).toNat) = 34
      · simp [h34]
      · simp [h34]
end Go.Proofs.YtfaoamdlknlgpaaGreat

/- lex's token: the walk. -/
namespace Go.Proofs.YtfaoamdlknlgpaaGreat
open Go.RowKit
set_option linter.unusedVariables false

def TokPost := ConstPost

set_option maxHeartbeats 2000000 in
set_option maxRecDepth 100000 in
theorem token_any (W0 : World) (b : Nat) (file : ByteArray) (R : List Rn) (lo : Option Addr) (cap at_ : Nat) (vd : Value) (ds : List Dg) (sp : Bool) (q : Int) (HR : ∀ w', Bel b W0 w' → Row w' 3 lo (R.map Rn.v)) (hcap : R.length ≤ cap) (hl : R.length ≤ 1000001) (ha : at_ ≤ R.length) (hd : ds.length ≤ 1000010) (w : World) (h : LwAt W0 w b file R.length lo cap at_ vd ds sp q) :
    Calls Tryz.prog 89 #[.pointer (some ⟨b, 0, none⟩)] w fun e w' => TokPost W0 b file R R.length lo cap at_ ds sp q (tokL (cs R) at_) (tellB (cs R) at_ q) (at_ + (lettersL (cs R) at_).toNat) w e w' := by
  have HC := constant_any W0 b file R lo cap at_ vd ds sp q HR hcap hl ha hd w h
  obtain ⟨K, hK⟩ : ∃ K, K = tokL (cs R) at_ := ⟨_, rfl⟩
  obtain ⟨kc, nc, hkc⟩ : ∃ kc nc, constL (cs R) at_ = (kc, nc) := ⟨_, _, rfl⟩
  obtain ⟨tb, htb⟩ : ∃ tb, tb = tellB (cs R) at_ q := ⟨_, rfl⟩
  obtain ⟨pos, hpos⟩ : ∃ pos, pos = at_ + (lettersL (cs R) at_).toNat := ⟨_, rfl⟩
  obtain ⟨c, hc⟩ : ∃ c, c = chAt (cs R) at_ := ⟨_, rfl⟩
  obtain ⟨m, hm⟩ : ∃ m, m = R.length := ⟨_, rfl⟩
  have HA : Hid ((cs R).length = m) := Lib.hid (by rw [cs_len, hm])
  rw [← hK, ← htb, ← hpos]
  rw [hkc, ← htb, ← hpos] at HC
  unfold tokL at hK
  rw [hkc, ← hc] at hK
  unfold ConstPost at HC
  have HPost : Hid (∀ w' vd', LwAt W0 w' b file R.length lo cap at_ vd' (ds ++ if tb then [⟨2, rF R pos, rT R pos⟩] else []) sp (if tb then (pos : Int) else q) → KeptX w w' → TokPost W0 b file R R.length lo cap at_ ds sp q K tb pos w (.returned (.tuple #[.int .i64 K.1, .int .i64 K.2])) w') := Lib.hid (by
    intro w' vd' h1 h2
    exact ⟨vd', rfl, h1, h2⟩)
  obtain ⟨ds1, hds1⟩ : ∃ d, d = (ds ++ if tb then [⟨2, rF R pos, rT R pos⟩] else [] : List Dg) := ⟨_, rfl⟩
  obtain ⟨q1, hq1⟩ : ∃ d, d = (if tb then (pos : Int) else q) := ⟨_, rfl⟩
  rw [← hds1, ← hq1] at HPost HC
  have HW := fun w' vd' (h' : LwAt W0 w' b file R.length lo cap at_ vd' ds1 sp q1) => h'.wk HR hcap (by omega) (by omega)
  have HPk := fun (k : Nat) (hk : k ≤ 4000000) w' (h' : WkAt w' b R lo cap at_) => peek_any b R lo cap at_ k hk w' h'
  have HNu := fun w' (h' : WkAt w' b R lo cap at_) => number_any b R lo cap at_ hl ha w' h'
  have HPu := fun w' (h' : WkAt w' b R lo cap at_) => ppunct_any b R lo cap at_ hl ha w' h'
  obtain ⟨pn, hpn⟩ : ∃ pn, pn = pnumL (cs R) at_ := ⟨_, rfl⟩
  obtain ⟨pu, hpu⟩ : ∃ pu, pu = punctL (cs R) at_ := ⟨_, rfl⟩
  unfold NumPost at HNu
  unfold PunPost at HPu
  rw [← hpn] at HNu
  rw [← hpu] at HPu
  rw [← hpn, ← hpu] at hK
  have hpnl : pn ≤ 1000002 := by rw [hpn]; unfold pnumL; have := numL_le (cs R) at_; rw [cs_len] at this; omega
  have hpul : pu ≤ 4 := by rw [hpu]; exact punctL_le (cs R) at_
  rw [← hm] at hl ha HC HPost HW ⊢
  replace HC := Lib.hid HC
  replace HPk := Lib.hid HPk
  replace HNu := Lib.hid HNu
  replace HPu := Lib.hid HPu
  replace HW := Lib.hid HW
  replace hpn := Lib.hid hpn
  replace hpu := Lib.hid hpu
  replace hkc := Lib.hid hkc
  replace hds1 := Lib.hid hds1
  replace hq1 := Lib.hid hq1
  replace hK := Lib.hid hK
  replace hc := Lib.hid hc
  clear hm HR hcap h hd htb hpos
  go_enter Tryz.func89, Tryz.ntmps89
  go_wp2_with fail
  refine HC.out.mono ?_
  rintro e w1 ⟨vd1, rfl, h1, hX1⟩
  have hW1 := HW.out w1 vd1 h1
  by_cases hnc : 0 < nc
  · have hci : (0 : Int) < nc := by omega
    have hKr : Hid (K = (kc, nc)) := Lib.hid (by rw [hK.out, if_pos hnc])
    go_wp2
    go_ret2
    have := HPost.out w1 vd1 h1 hX1
    rw [hKr.out] at this
    rw [hKr.out]
    exact this
  · have hci : ¬ (0 : Int) < nc := by omega
    have hK1 : Hid (K = if letterB c then (1, 1 + (((cs R).drop (at_ + 1)).takeWhile idB).length) else if 0 < pn then (2, pn) else if 0 < pu then (5, pu) else (6, 1)) := Lib.hid (by rw [hK.out, if_neg hnc])
    have HP0 := HPk.out 0 (by omega) w1 hW1
    rw [Nat.add_zero, ← hc.out] at HP0
    replace HP0 := Lib.hid HP0
    go_wp2_with fail
    refine HP0.out.mono ?_
    rintro e w2 ⟨rfl, k2, hw2⟩
    have hb2 : Below w1.heap.size w1 w2 := by rw [hw2]; exact drewN_below _ _
    replace hw2 := Lib.hid hw2
    go_wp2_with fail
    refine (pletter_any c w2).mono ?_
    rintro e w3 ⟨rfl, hw3⟩
    replace hw3 := hw3.symm
    subst hw3
    obtain ⟨lb, hlb⟩ : ∃ lb, lb = letterB c := ⟨_, rfl⟩
    rw [← hlb] at hK1 ⊢
    cases lb with
    | true =>
      have hKr : Hid (K = (1, 1 + (((cs R).drop (at_ + 1)).takeWhile idB).length)) := Lib.hid (by rw [hK1.out, if_pos rfl])
      replace hlb := Lib.hid hlb
      go_wp2_with fail
      go_loopg [3] (m + 20 - (at_ + 1)) (fun u v wr => ∃ k : Nat, u = m + 20 - (at_ + k) ∧ at_ + k ≤ m + 10 ∧ v = .int .i64 k ∧ (∃ q, wr = w2.drewN q) ∧ Hid (1 + (((cs R).drop (at_ + 1)).takeWhile idB).length = k + (((cs R).drop (at_ + k)).takeWhile idB).length))
      case atStart => exact ⟨1, rfl, by omega, rfl, ⟨0, rfl⟩, Lib.hid rfl⟩
      case round =>
        obtain ⟨k, rfl, hk, rfl, ⟨q2, hq2⟩, HT⟩ := hrel
        have hbr : Below w1.heap.size w1 wr := by rw [hq2]; exact below_drewN hb2 q2
        replace hq2 := Lib.hid hq2
        obtain ⟨x, hx⟩ : ∃ x, x = chAt (cs R) (at_ + k) := ⟨_, rfl⟩
        have hid := id_go (cs R) (at_ + k)
        have hidm : at_ + k < m ∨ (((cs R).drop (at_ + k)).takeWhile idB).length = 0 := by
          rcases Nat.lt_or_ge (at_ + k) m with h | h
          · exact .inl h
          · exact .inr (while_end (by rw [HA.out]; exact h))
        rw [← hx] at hid
        have HPx := fun w' (hb : Below w1.heap.size w1 w') => HPk.out k (by omega) w' (hW1.below hb)
        rw [← hx] at HPx
        replace HPx := Lib.hid HPx
        replace hx := Lib.hid hx
        obtain ⟨l2, hl2⟩ : ∃ lb, lb = letterB x := ⟨_, rfl⟩
        obtain ⟨d2, hd2⟩ : ∃ lb, lb = digitB x := ⟨_, rfl⟩
        have HLx := fun w' => pletter_any x w'
        have HDx := fun w' => pdigit_any x w'
        rw [← hl2, ← hd2] at hid
        rw [← hl2] at HLx
        rw [← hd2] at HDx
        replace HLx := Lib.hid HLx
        replace HDx := Lib.hid HDx
        replace hl2 := Lib.hid hl2
        replace hd2 := Lib.hid hd2
        replace hid := Lib.hid hid
        replace hidm := Lib.hid hidm
        go_wp2_with fail
        refine (HPx.out wr hbr).mono ?_
        rintro e w5 ⟨rfl, k5, hw5⟩
        obtain ⟨q5, hq5⟩ : ∃ q, w5 = w2.drewN q := ⟨_, by rw [hw5, hq2.out, drewN_add]⟩
        have hb5 : Below w1.heap.size w1 w5 := by rw [hq5]; exact below_drewN hb2 q5
        replace hq5 := Lib.hid hq5
        clear hw5
        go_wp2_with fail
        refine (HLx.out w5).mono ?_
        rintro e w6 ⟨rfl, hw6⟩
        replace hw6 := hw6.symm
        subst hw6
        cases l2 with
        | true =>
          have hmx : at_ + k < m := by
            rcases hidm.out with h | h
            · exact h
            · have := hid.out; simp at this; omega
          have HT2 : Hid (1 + (((cs R).drop (at_ + 1)).takeWhile idB).length = (k + 1) + (((cs R).drop (at_ + (k + 1))).takeWhile idB).length) := Lib.hid (by
            have := hid.out; simp only [Bool.true_or, if_true] at this; rw [HT.out, this, show at_ + (k + 1) = at_ + k + 1 by omega]; omega)
          go_wp2_with fail
          go_roundg (m + 20 - (at_ + (k + 1)))
          case measure => omega
          case rel => exact ⟨k + 1, rfl, by omega, by go_num, ⟨q5, hq5.out⟩, HT2⟩
        | false =>
          go_wp2_with fail
          refine (HPx.out w5 hb5).mono ?_
          rintro e w7 ⟨rfl, k7, hw7⟩
          obtain ⟨q7, hq7⟩ : ∃ q, w7 = w2.drewN q := ⟨_, by rw [hw7, hq5.out, drewN_add]⟩
          have hb7 : Below w1.heap.size w1 w7 := by rw [hq7]; exact below_drewN hb2 q7
          replace hq7 := Lib.hid hq7
          clear hw7
          go_wp2_with fail
          refine (HDx.out w7).mono ?_
          rintro e w8 ⟨rfl, hw8⟩
          replace hw8 := hw8.symm
          subst hw8
          cases d2 with
          | true =>
            have hmx : at_ + k < m := by
              rcases hidm.out with h | h
              · exact h
              · have := hid.out; simp at this; omega
            have HT2 : Hid (1 + (((cs R).drop (at_ + 1)).takeWhile idB).length = (k + 1) + (((cs R).drop (at_ + (k + 1))).takeWhile idB).length) := Lib.hid (by
              have := hid.out; simp only [Bool.or_true, if_true] at this; rw [HT.out, this, show at_ + (k + 1) = at_ + k + 1 by omega]; omega)
            go_wp2_with fail
            go_roundg (m + 20 - (at_ + (k + 1)))
            case measure => omega
            case rel => exact ⟨k + 1, rfl, by omega, by go_num, ⟨q7, hq7.out⟩, HT2⟩
          | false =>
            have hKk : Hid (K = (1, k)) := Lib.hid (by
              have := hid.out; simp only [Bool.or_self, Bool.false_eq_true, if_false] at this; rw [hKr.out, HT.out, this]; rfl)
            go_wp2
            go_ret2
            have := HPost.out w7 vd1 (h1.after hb7) (hX1.trans (KeptX.below hb7))
            rw [hKk.out] at this
            rw [hKk.out]
            exact this
    | false =>
      have hK2 : Hid (K = if 0 < pn then (2, pn) else if 0 < pu then (5, pu) else (6, 1)) := Lib.hid (by rw [hK1.out, if_neg (by simp)])
      replace hlb := Lib.hid hlb
      have HN2 := HNu.out w2 (hW1.below hb2)
      replace HN2 := Lib.hid HN2
      go_wp2_with fail
      refine HN2.out.mono ?_
      rintro e w5 ⟨rfl, k5, hw5⟩
      have hb5 : Below w1.heap.size w1 w5 := by rw [hw5]; exact below_drewN hb2 k5
      replace hw5 := Lib.hid hw5
      by_cases hp : 0 < pn
      · have hpi : (0 : Int) < pn := by omega
        have hKk : Hid (K = (2, pn)) := Lib.hid (by rw [hK2.out, if_pos hp])
        go_wp2
        go_ret2
        have := HPost.out w5 vd1 (h1.after hb5) (hX1.trans (KeptX.below hb5))
        rw [hKk.out] at this
        rw [hKk.out]
        exact this
      · have hpi : ¬ (0 : Int) < pn := by omega
        have hK3 : Hid (K = if 0 < pu then (5, pu) else (6, 1)) := Lib.hid (by rw [hK2.out, if_neg hp])
        have HU2 := HPu.out w5 (hW1.below hb5)
        replace HU2 := Lib.hid HU2
        go_wp2_with fail
        refine HU2.out.mono ?_
        rintro e w6 ⟨rfl, hb6⟩
        have hb7 : Below w1.heap.size w1 w6 := hb5.trans (hb6.mono hb5.size)
        by_cases hu : 0 < pu
        · have hui : (0 : Int) < pu := by omega
          have hKk : Hid (K = (5, pu)) := Lib.hid (by rw [hK3.out, if_pos hu])
          go_wp2
          go_ret2
          have := HPost.out w6 vd1 (h1.after hb7) (hX1.trans (KeptX.below hb7))
          rw [hKk.out] at this
          rw [hKk.out]
          exact this
        · have hui : ¬ (0 : Int) < pu := by omega
          have hKk : Hid (K = (6, 1)) := Lib.hid (by rw [hK3.out, if_neg hu])
          go_wp2
          go_ret2
          have := HPost.out w6 vd1 (h1.after hb7) (hX1.trans (KeptX.below hb7))
          rw [hKk.out] at this
          rw [hKk.out]
          exact this
end Go.Proofs.YtfaoamdlknlgpaaGreat
