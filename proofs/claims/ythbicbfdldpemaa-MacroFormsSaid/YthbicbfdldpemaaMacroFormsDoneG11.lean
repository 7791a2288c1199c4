/- Texts of this seat's proofs, laid into one file. -/
import Derived.Test.YthbicbfdldpemaaMacroFormsDoneG10
import Derived.Test.YthbicbfdldpemaaMacroFormsDoneG6
import Derived.Test.YthbicbfdldpemaaMacroFormsDoneG8
import Derived.Test.YthbicbfdldpemaaMacroFormsDoneG4
import Derived.Test.YthbicbfdldpemaaMacroFormsDoneG1
/- lex's token: the walk. -/
namespace Go.Proofs.Ythbicbfdldpemaa
open Go.RowKit
set_option linter.unusedVariables false

def TokPost := ConstPost

set_option maxHeartbeats 2000000 in
set_option maxRecDepth 100000 in
theorem token_any (W0 : World) (b : Nat) (file : ByteArray) (R : List Rn) (lo : Option Addr) (cap at_ : Nat) (vd : Value) (ds : List Dg) (sp : Bool) (q : Int) (HR : ∀ w', Bel b W0 w' → Row w' 3 lo (R.map Rn.v)) (hcap : R.length ≤ cap) (hl : R.length ≤ 1000001) (ha : at_ ≤ R.length) (hd : ds.length ≤ 1000010) (w : World) (h : LwAt W0 w b file R.length lo cap at_ vd ds sp q) :
    Calls Try.prog 86 #[.pointer (some ⟨b, 0, none⟩)] w fun e w' => TokPost W0 b file R R.length lo cap at_ ds sp q (tokL (cs R) at_) (tellB (cs R) at_ q) (at_ + (lettersL (cs R) at_).toNat) w e w' := by
  have HC := constant_any W0 b file R lo cap at_ vd ds sp q HR hcap hl ha hd w h
  obtain ⟨K, hK⟩ : ∃ K, K = tokL (cs R) at_ := ⟨_, rfl⟩
  obtain ⟨kc, nc, hkc⟩ : ∃ kc nc, constL (cs R) at_ = (kc, nc) := ⟨_, _, rfl⟩
  obtain ⟨tb, htb⟩ : ∃ tb, tb = tellB (cs R) at_ q := ⟨_, rfl⟩
  obtain ⟨pos, hpos⟩ : ∃ pos, pos = at_ + (lettersL (cs R) at_).toNat := ⟨_, rfl⟩
  obtain ⟨c, hc⟩ : ∃ c, c = chAt (cs R) at_ := ⟨_, rfl⟩
  obtain ⟨m, hm⟩ : ∃ m, m = R.length := ⟨_, rfl⟩
  have HA : Hid ((cs R).length = m) := Lib.hid (by rw [cs_len, hm])
  rw [← hK, ← htb, ← hpos]
  rw [hkc, ← htb, ← hpos] at HC
  unfold tokL at hK
  rw [hkc, ← hc] at hK
  unfold ConstPost at HC
  have HPost : Hid (∀ w' vd', LwAt W0 w' b file R.length lo cap at_ vd' (ds ++ if tb then [⟨2, rF R pos, rT R pos⟩] else []) sp (if tb then (pos : Int) else q) → KeptX w w' → TokPost W0 b file R R.length lo cap at_ ds sp q K tb pos w (.returned (.tuple #[.int .i64 K.1, .int .i64 K.2])) w') := Lib.hid (by
    intro w' vd' h1 h2
    exact ⟨vd', rfl, h1, h2⟩)
  obtain ⟨ds1, hds1⟩ : ∃ d, d = (ds ++ if tb then [⟨2, rF R pos, rT R pos⟩] else [] : List Dg) := ⟨_, rfl⟩
  obtain ⟨q1, hq1⟩ : ∃ d, d = (if tb then (pos : Int) else q) := ⟨_, rfl⟩
  rw [← hds1, ← hq1] at HPost HC
  have HW := fun w' vd' (h' : LwAt W0 w' b file R.length lo cap at_ vd' ds1 sp q1) => h'.wk HR hcap (by omega) (by omega)
  have HPk := fun (k : Nat) (hk : k ≤ 4000000) w' (h' : WkAt w' b R lo cap at_) => peek_any b R lo cap at_ k hk w' h'
  have HNu := fun w' (h' : WkAt w' b R lo cap at_) => number_any b R lo cap at_ hl ha w' h'
  have HPu := fun w' (h' : WkAt w' b R lo cap at_) => ppunct_any b R lo cap at_ hl ha w' h'
  obtain ⟨pn, hpn⟩ : ∃ pn, pn = pnumL (cs R) at_ := ⟨_, rfl⟩
  obtain ⟨pu, hpu⟩ : ∃ pu, pu = punctL (cs R) at_ := ⟨_, rfl⟩
  unfold NumPost at HNu
  unfold PunPost at HPu
  rw [← hpn] at HNu
  rw [← hpu] at HPu
  rw [← hpn, ← hpu] at hK
  have hpnl : pn ≤ 1000002 := by rw [hpn]; unfold pnumL; have := numL_le (cs R) at_; rw [cs_len] at this; omega
  have hpul : pu ≤ 4 := by rw [hpu]; exact punctL_le (cs R) at_
  rw [← hm] at hl ha HC HPost HW ⊢
  replace HC := Lib.hid HC
  replace HPk := Lib.hid HPk
  replace HNu := Lib.hid HNu
  replace HPu := Lib.hid HPu
  replace HW := Lib.hid HW
  replace hpn := Lib.hid hpn
  replace hpu := Lib.hid hpu
  replace hkc := Lib.hid hkc
  replace hds1 := Lib.hid hds1
  replace hq1 := Lib.hid hq1
  replace hK := Lib.hid hK
  replace hc := Lib.hid hc
  clear hm HR hcap h hd htb hpos
  go_enter Try.func86, Try.ntmps86
  go_wp2_with fail
  refine HC.out.mono ?_
  rintro e w1 ⟨vd1, rfl, h1, hX1⟩
  have hW1 := HW.out w1 vd1 h1
  by_cases hnc : 0 < nc
  · have hci : (0 : Int) < nc := by omega
    have hKr : Hid (K = (kc, nc)) := Lib.hid (by rw [hK.out, if_pos hnc])
    go_wp2
    go_ret2
    have := HPost.out w1 vd1 h1 hX1
    rw [hKr.out] at this
    rw [hKr.out]
    exact this
  · have hci : ¬ (0 : Int) < nc := by omega
    have hK1 : Hid (K = if letterB c then (1, 1 + (((cs R).drop (at_ + 1)).takeWhile idB).length) else if 0 < pn then (2, pn) else if 0 < pu then (5, pu) else (6, 1)) := Lib.hid (by rw [hK.out, if_neg hnc])
    have HP0 := HPk.out 0 (by omega) w1 hW1
    rw [Nat.add_zero, ← hc.out] at HP0
    replace HP0 := Lib.hid HP0
    go_wp2_with fail
    refine HP0.out.mono ?_
    rintro e w2 ⟨rfl, k2, hw2⟩
    have hb2 : Below w1.heap.size w1 w2 := by rw [hw2]; exact drewN_below _ _
    replace hw2 := Lib.hid hw2
    go_wp2_with fail
    refine (pletter_any c w2).mono ?_
    rintro e w3 ⟨rfl, hw3⟩
    replace hw3 := hw3.symm
    subst hw3
    obtain ⟨lb, hlb⟩ : ∃ lb, lb = letterB c := ⟨_, rfl⟩
    rw [← hlb] at hK1 ⊢
    cases lb with
    | true =>
      have hKr : Hid (K = (1, 1 + (((cs R).drop (at_ + 1)).takeWhile idB).length)) := Lib.hid (by rw [hK1.out, if_pos rfl])
      replace hlb := Lib.hid hlb
      go_wp2_with fail
      go_loopg [3] (m + 20 - (at_ + 1)) (fun u v wr => ∃ k : Nat, u = m + 20 - (at_ + k) ∧ at_ + k ≤ m + 10 ∧ v = .int .i64 k ∧ (∃ q, wr = w2.drewN q) ∧ Hid (1 + (((cs R).drop (at_ + 1)).takeWhile idB).length = k + (((cs R).drop (at_ + k)).takeWhile idB).length))
      case atStart => exact ⟨1, rfl, by omega, rfl, ⟨0, rfl⟩, Lib.hid rfl⟩
      case round =>
        obtain ⟨k, rfl, hk, rfl, ⟨q2, hq2⟩, HT⟩ := hrel
        have hbr : Below w1.heap.size w1 wr := by rw [hq2]; exact below_drewN hb2 q2
        replace hq2 := Lib.hid hq2
        obtain ⟨x, hx⟩ : ∃ x, x = chAt (cs R) (at_ + k) := ⟨_, rfl⟩
        have hid := id_go (cs R) (at_ + k)
        have hidm : at_ + k < m ∨ (((cs R).drop (at_ + k)).takeWhile idB).length = 0 := by
          rcases Nat.lt_or_ge (at_ + k) m with h | h
          · exact .inl h
          · exact .inr (while_end (by rw [HA.out]; exact h))
        rw [← hx] at hid
        have HPx := fun w' (hb : Below w1.heap.size w1 w') => HPk.out k (by omega) w' (hW1.below hb)
        rw [← hx] at HPx
        replace HPx := Lib.hid HPx
        replace hx := Lib.hid hx
        obtain ⟨l2, hl2⟩ : ∃ lb, lb = letterB x := ⟨_, rfl⟩
        obtain ⟨d2, hd2⟩ : ∃ lb, lb = digitB x := ⟨_, rfl⟩
        have HLx := fun w' => pletter_any x w'
        have HDx := fun w' => pdigit_any x w'
        rw [← hl2, ← hd2] at hid
        rw [← hl2] at HLx
        rw [← hd2] at HDx
        replace HLx := Lib.hid HLx
        replace HDx := Lib.hid HDx
        replace hl2 := Lib.hid hl2
        replace hd2 := Lib.hid hd2
        replace hid := Lib.hid hid
        replace hidm := Lib.hid hidm
        go_wp2_with fail
        refine (HPx.out wr hbr).mono ?_
        rintro e w5 ⟨rfl, k5, hw5⟩
        obtain ⟨q5, hq5⟩ : ∃ q, w5 = w2.drewN q := ⟨_, by rw [hw5, hq2.out, drewN_add]⟩
        have hb5 : Below w1.heap.size w1 w5 := by rw [hq5]; exact below_drewN hb2 q5
        replace hq5 := Lib.hid hq5
        clear hw5
        go_wp2_with fail
        refine (HLx.out w5).mono ?_
        rintro e w6 ⟨rfl, hw6⟩
        replace hw6 := hw6.symm
        subst hw6
        cases l2 with
        | true =>
          have hmx : at_ + k < m := by
            rcases hidm.out with h | h
            · exact h
            · have := hid.out; simp at this; omega
          have HT2 : Hid (1 + (((cs R).drop (at_ + 1)).takeWhile idB).length = (k + 1) + (((cs R).drop (at_ + (k + 1))).takeWhile idB).length) := Lib.hid (by
            have := hid.out; simp only [Bool.true_or, if_true] at this; rw [HT.out, this, show at_ + (k + 1) = at_ + k + 1 by omega]; omega)
          go_wp2_with fail
          go_roundg (m + 20 - (at_ + (k + 1)))
          case measure => omega
          case rel => exact ⟨k + 1, rfl, by omega, by go_num, ⟨q5, hq5.out⟩, HT2⟩
        | false =>
          go_wp2_with fail
          refine (HPx.out w5 hb5).mono ?_
          rintro e w7 ⟨rfl, k7, hw7⟩
          obtain ⟨q7, hq7⟩ : ∃ q, w7 = w2.drewN q := ⟨_, by rw [hw7, hq5.out, drewN_add]⟩
          have hb7 : Below w1.heap.size w1 w7 := by rw [hq7]; exact below_drewN hb2 q7
          replace hq7 := Lib.hid hq7
          clear hw7
          go_wp2_with fail
          refine (HDx.out w7).mono ?_
          rintro e w8 ⟨rfl, hw8⟩
          replace hw8 := hw8.symm
          subst hw8
          cases d2 with
          | true =>
            have hmx : at_ + k < m := by
              rcases hidm.out with h | h
              · exact h
              · have := hid.out; simp at this; omega
            have HT2 : Hid (1 + (((cs R).drop (at_ + 1)).takeWhile idB).length = (k + 1) + (((cs R).drop (at_ + (k + 1))).takeWhile idB).length) := Lib.hid (by
              have := hid.out; simp only [Bool.or_true, if_true] at this; rw [HT.out, this, show at_ + (k + 1) = at_ + k + 1 by omega]; omega)
            go_wp2_with fail
            go_roundg (m + 20 - (at_ + (k + 1)))
            case measure => omega
            case rel => exact ⟨k + 1, rfl, by omega, by go_num, ⟨q7, hq7.out⟩, HT2⟩
          | false =>
            have hKk : Hid (K = (1, k)) := Lib.hid (by
              have := hid.out; simp only [Bool.or_self, Bool.false_eq_true, if_false] at this; rw [hKr.out, HT.out, this]; rfl)
            go_wp2
            go_ret2
            have := HPost.out w7 vd1 (h1.after hb7) (hX1.trans (KeptX.below hb7))
            rw [hKk.out] at this
            rw [hKk.out]
            exact this
    | false =>
      have hK2 : Hid (K = if 0 < pn then (2, pn) else if 0 < pu then (5, pu) else (6, 1)) := Lib.hid (by rw [hK1.out, if_neg (by simp)])
      replace hlb := Lib.hid hlb
      have HN2 := HNu.out w2 (hW1.below hb2)
      replace HN2 := Lib.hid HN2
      go_wp2_with fail
      refine HN2.out.mono ?_
      rintro e w5 ⟨rfl, k5, hw5⟩
      have hb5 : Below w1.heap.size w1 w5 := by rw [hw5]; exact below_drewN hb2 k5
      replace hw5 := Lib.hid hw5
      by_cases hp : 0 < pn
      · have hpi : (0 : Int) < pn := by omega
        have hKk : Hid (K = (2, pn)) := Lib.hid (by rw [hK2.out, if_pos hp])
        go_wp2
        go_ret2
        have := HPost.out w5 vd1 (h1.after hb5) (hX1.trans (KeptX.below hb5))
        rw [hKk.out] at this
        rw [hKk.out]
        exact this
      · have hpi : ¬ (0 : Int) < pn := by omega
        have hK3 : Hid (K = if 0 < pu then (5, pu) else (6, 1)) := Lib.hid (by rw [hK2.out, if_neg hp])
        have HU2 := HPu.out w5 (hW1.below hb5)
        replace HU2 := Lib.hid HU2
        go_wp2_with fail
        refine HU2.out.mono ?_
        rintro e w6 ⟨rfl, hb6⟩
        have hb7 : Below w1.heap.size w1 w6 := hb5.trans (hb6.mono hb5.size)
        by_cases hu : 0 < pu
        · have hui : (0 : Int) < pu := by omega
          have hKk : Hid (K = (5, pu)) := Lib.hid (by rw [hK3.out, if_pos hu])
          go_wp2
          go_ret2
          have := HPost.out w6 vd1 (h1.after hb7) (hX1.trans (KeptX.below hb7))
          rw [hKk.out] at this
          rw [hKk.out]
          exact this
        · have hui : ¬ (0 : Int) < pu := by omega
          have hKk : Hid (K = (6, 1)) := Lib.hid (by rw [hK3.out, if_neg hu])
          go_wp2
          go_ret2
          have := HPost.out w6 vd1 (h1.after hb7) (hX1.trans (KeptX.below hb7))
          rw [hKk.out] at this
          rw [hKk.out]
          exact this
end Go.Proofs.Ythbicbfdldpemaa

/- lex's next: two labels in a scope, what next gives. -/
namespace Go.Proofs.Ythbicbfdldpemaa
open Go.RowKit
set_option linter.unusedVariables false

/-- two labels: one that is jumped back to, one that is jumped on to -/
def _root_.Go.Exit.jump2 (l : Nat) (J : Act → World → Prop) (l0 : Nat) (J0 : Act → World → Prop) (Q : Exit → Act → World → Prop) : Exit → Act → World → Prop
  | .goto l', a, w => (l' = l ∧ J a w) ∨ (l' = l0 ∧ J0 a w)
  | e, a, w => Q e a w

theorem wp_scope_two {P : Program} {a : Act} {w : World} {Q : Exit → Act → World → Prop} {c rest rest0 : Code} (l l0 : Nat) (J : Nat → Act → World → Prop) (J0 : Act → World → Prop) (hf : findLabel c l = some rest) (hf0 : findLabel c l0 = some rest0)
    (first : (Hid (∀ n a w, J n a w → rest.wp P (Exit.jump2 l (fun a w => ∃ n, J n a w) l0 J0 Q) a w)) → c.wp P (Exit.jump2 l (fun a w => ∃ n, J n a w) l0 J0 Q) a w)
    (pass : ∀ n a w, J n a w → rest.wp P (Exit.jump2 l (fun a' w' => ∃ n', n' < n ∧ J n' a' w') l0 J0 Q) a w)
    (last : ∀ a w, J0 a w → rest0.wp P (Exit.noGoto Q) a w) : (Code.scope c).wp P Q a w := by
  intro b k cs
  have hg : gotoIn l (.inScope c :: k) = some (.code rest :: .inScope c :: k) := by simp [gotoIn, hf]
  have hg0 : gotoIn l0 (.inScope c :: k) = some (.code rest0 :: .inScope c :: k) := by simp [gotoIn, hf0]
  have key0 : ∀ a w, J0 a w → ∃ e a' w', Q e a' w' ∧ Arrives P (lone (b.at a (.code rest0 :: .inScope c :: k)) cs w) b k cs e a' w' := by
    intro a w hJ
    obtain ⟨e, a₁, w₁, hq, harr⟩ := last a w hJ b (.inScope c :: k) cs
    cases e with
    | normal => exact ⟨.normal, a₁, w₁, hq, Steps.trans harr (.one step_inScope)⟩
    | exit id => exact ⟨.exit id, a₁, w₁, hq, fun k' hk => harr k' (by simp [exitTo, hk])⟩
    | goto l' => exact hq.elim
    | ret => exact ⟨_, a₁, w₁, hq, harr⟩
    | panic ch => exact ⟨_, a₁, w₁, hq, harr⟩
    | outgrown => exact ⟨_, a₁, w₁, hq, harr⟩
  have key : ∀ n a w, J n a w → ∃ e a' w', Q e a' w' ∧ Arrives P (lone (b.at a (.code rest :: .inScope c :: k)) cs w) b k cs e a' w' := by
    intro n
    induction n using Nat.strongRecOn with
    | _ n ih =>
      intro a w hJ
      obtain ⟨e, a₁, w₁, hq, harr⟩ := pass n a w hJ b (.inScope c :: k) cs
      cases e with
      | normal => exact ⟨.normal, a₁, w₁, hq, Steps.trans harr (.one step_inScope)⟩
      | exit id => exact ⟨.exit id, a₁, w₁, hq, fun k' hk => harr k' (by simp [exitTo, hk])⟩
      | goto l' =>
        rcases hq with ⟨rfl, n', hlt, hJ'⟩ | ⟨rfl, hJ'⟩
        · obtain ⟨e₂, a₂, w₂, hq₂, harr₂⟩ := ih n' hlt a₁ w₁ hJ'
          exact ⟨e₂, a₂, w₂, hq₂, .of_steps (harr _ hg) harr₂⟩
        · obtain ⟨e₂, a₂, w₂, hq₂, harr₂⟩ := key0 a₁ w₁ hJ'
          exact ⟨e₂, a₂, w₂, hq₂, .of_steps (harr _ hg0) harr₂⟩
      | ret => exact ⟨_, a₁, w₁, hq, harr⟩
      | panic ch => exact ⟨_, a₁, w₁, hq, harr⟩
      | outgrown => exact ⟨_, a₁, w₁, hq, harr⟩
  have first' := first (Lib.hid fun n a w h => Code.wp_mono (fun e a' w' q => by
    cases e <;> first
      | exact q
      | (rcases q with ⟨q1, n', _, q2⟩ | q
         · exact .inl ⟨q1, n', q2⟩
         · exact .inr q)) (pass n a w h))
  obtain ⟨e, a₁, w₁, hq, harr⟩ := first' b (.inScope c :: k) cs
  cases e with
  | normal => exact ⟨.normal, a₁, w₁, hq, .head step_scope (Steps.trans harr (.one step_inScope))⟩
  | exit id => exact ⟨.exit id, a₁, w₁, hq, fun k' hk => .head step_scope (harr k' (by simp [exitTo, hk]))⟩
  | goto l' =>
    rcases hq with ⟨rfl, n', hJ'⟩ | ⟨rfl, hJ'⟩
    · obtain ⟨e₂, a₂, w₂, hq₂, harr₂⟩ := key n' a₁ w₁ hJ'
      exact ⟨e₂, a₂, w₂, hq₂, .of_steps (.head step_scope (harr _ hg)) harr₂⟩
    · obtain ⟨e₂, a₂, w₂, hq₂, harr₂⟩ := key0 a₁ w₁ hJ'
      exact ⟨e₂, a₂, w₂, hq₂, .of_steps (.head step_scope (harr _ hg0)) harr₂⟩
  | ret => exact ⟨_, a₁, w₁, hq, .of_steps (.one step_scope) harr⟩
  | panic ch => exact ⟨_, a₁, w₁, hq, .of_steps (.one step_scope) harr⟩
  | outgrown => exact ⟨_, a₁, w₁, hq, .of_steps (.one step_scope) harr⟩

theorem wp_scope_two' {P : Program} {a : Act} {w : World} {Q : Exit → Act → World → Prop} {c rest rest0 : Code} (l l0 : Nat) (J : Nat → Act → World → Prop) (J0 : Act → World → Prop) (hf : findLabel c l = some (.seq .skip rest)) (hf0 : findLabel c l0 = some (.seq .skip rest0))
    (first : (Hid (∀ n a w, J n a w → rest.wp P (Exit.jump2 l (fun a w => ∃ n, J n a w) l0 J0 Q) a w)) → c.wp P (Exit.jump2 l (fun a w => ∃ n, J n a w) l0 J0 Q) a w)
    (pass : ∀ n a w, J n a w → rest.wp P (Exit.jump2 l (fun a' w' => ∃ n', n' < n ∧ J n' a' w') l0 J0 Q) a w)
    (last : ∀ a w, J0 a w → rest0.wp P (Exit.noGoto Q) a w) : (Code.scope c).wp P Q a w :=
  wp_scope_two l l0 J J0 hf hf0 (fun _ => first (Lib.hid fun n a w h => Code.wp_mono (fun e a' w' q => by
    cases e <;> first
      | exact q
      | (rcases q with ⟨q1, n', _, q2⟩ | q
         · exact .inl ⟨q1, n', q2⟩
         · exact .inr q)) (pass n a w h))) (fun n a w h => wp_seq (wp_skip (pass n a w h))) (fun a w h => wp_seq (wp_skip (last a w h)))

theorem frame_eta : ∀ (xs : List Value), xs = (List.range xs.length).map (fun i => xs.getD i undef) := by
  intro xs
  apply List.ext_getElem
  · simp
  · intro i h1 h2
    simp [List.getD_eq_getElem?_getD, List.getElem?_eq_getElem h1]

theorem frame121 {xs : List Value} (h : xs.length = 121) : ∃ F : Nat → Value, xs = [F 0, F 1, F 2, F 3, F 4, F 5, F 6, F 7, F 8, F 9, F 10, F 11, F 12, F 13, F 14, F 15, F 16, F 17, F 18, F 19, F 20, F 21, F 22, F 23, F 24, F 25, F 26, F 27, F 28, F 29, F 30, F 31, F 32, F 33, F 34, F 35, F 36, F 37, F 38, F 39, F 40, F 41, F 42, F 43, F 44, F 45, F 46, F 47, F 48, F 49, F 50, F 51, F 52, F 53, F 54, F 55, F 56, F 57, F 58, F 59, F 60, F 61, F 62, F 63, F 64, F 65, F 66, F 67, F 68, F 69, F 70, F 71, F 72, F 73, F 74, F 75, F 76, F 77, F 78, F 79, F 80, F 81, F 82, F 83, F 84, F 85, F 86, F 87, F 88, F 89, F 90, F 91, F 92, F 93, F 94, F 95, F 96, F 97, F 98, F 99, F 100, F 101, F 102, F 103, F 104, F 105, F 106, F 107, F 108, F 109, F 110, F 111, F 112, F 113, F 114, F 115, F 116, F 117, F 118, F 119, F 120] := by
  refine ⟨fun i => xs.getD i undef, ?_⟩
  have := frame_eta xs
  rw [h] at this
  exact this

theorem frame125 {xs : List Value} (h : xs.length = 125) : ∃ F : Nat → Value, xs = [F 0, F 1, F 2, F 3, F 4, F 5, F 6, F 7, F 8, F 9, F 10, F 11, F 12, F 13, F 14, F 15, F 16, F 17, F 18, F 19, F 20, F 21, F 22, F 23, F 24, F 25, F 26, F 27, F 28, F 29, F 30, F 31, F 32, F 33, F 34, F 35, F 36, F 37, F 38, F 39, F 40, F 41, F 42, F 43, F 44, F 45, F 46, F 47, F 48, F 49, F 50, F 51, F 52, F 53, F 54, F 55, F 56, F 57, F 58, F 59, F 60, F 61, F 62, F 63, F 64, F 65, F 66, F 67, F 68, F 69, F 70, F 71, F 72, F 73, F 74, F 75, F 76, F 77, F 78, F 79, F 80, F 81, F 82, F 83, F 84, F 85, F 86, F 87, F 88, F 89, F 90, F 91, F 92, F 93, F 94, F 95, F 96, F 97, F 98, F 99, F 100, F 101, F 102, F 103, F 104, F 105, F 106, F 107, F 108, F 109, F 110, F 111, F 112, F 113, F 114, F 115, F 116, F 117, F 118, F 119, F 120, F 121, F 122, F 123, F 124] := by
  refine ⟨fun i => xs.getD i undef, ?_⟩
  have := frame_eta xs
  rw [h] at this
  exact this

/-- what next goes by -/
structure NS where
  (i : Nat) (ds : List Dg) (sp : Bool) (q : Int) (op : Bool)

def AtIn (R : List Rn) (s : NS) : Prop := s.i < R.length ∧ chAt (cs R) s.i ≠ 10

inductive Skips (R : List Rn) : NS → NS → Prop
  | refl (s : NS) : Skips R s s
  | white {s t : NS} (h : Skips R s t) (hi : AtIn R t) (hw : whiteB (chAt (cs R) t.i) = true) : Skips R s ⟨t.i + 1, t.ds, true, t.q, t.op⟩
  | com {s t : NS} (h : Skips R s t) (hi : AtIn R t) (hw : whiteB (chAt (cs R) t.i) = false) (hc : t.i < (commentL (cs R) t.i).1) : Skips R s ⟨(commentL (cs R) t.i).1, t.ds ++ if (commentL (cs R) t.i).2 then [⟨1, rF R t.i, rT R (t.i + 1)⟩] else [], true, t.q, (commentL (cs R) t.i).2⟩

def AtTok (R : List Rn) (s : NS) : Prop := AtIn R s ∧ whiteB (chAt (cs R) s.i) = false ∧ ¬ s.i < (commentL (cs R) s.i).1

def tokN (R : List Rn) (s : NS) : Tk := ⟨(nextL (cs R) s.i).1, ((cs R).drop s.i).take ((nextL (cs R) s.i).2.1 - s.i), s.sp, rF R s.i, rT R ((nextL (cs R) s.i).2.1 - 1)⟩
def posN (R : List Rn) (s : NS) : Nat := s.i + (lettersL (cs R) s.i).toNat
def afterTok (R : List Rn) (s : NS) : NS := ⟨(nextL (cs R) s.i).2.1, s.ds ++ (if tellB (cs R) s.i s.q then [⟨2, rF R (posN R s), rT R (posN R s)⟩] else []), false, if tellB (cs R) s.i s.q then (posN R s : Int) else s.q, false⟩

theorem Skips.bound {R : List Rn} {s t : NS} (h : Skips R s t) (hs : s.i ≤ R.length) : s.i ≤ t.i ∧ t.i ≤ R.length ∧ t.ds.length + s.i ≤ s.ds.length + t.i := by
  induction h with
  | refl => omega
  | white h hi hw ih =>
    have := hi.1
    have := ih
    simp only
    omega
  | com h hi hw hc ih =>
    have h1 := commentL_len (A := cs R) (by rw [cs_len]; exact hi.1)
    rw [cs_len] at h1
    have := ih
    simp only [List.length_append]
    split
    · simp only [List.length_cons, List.length_nil]; omega
    · simp only [List.length_nil]; omega

theorem KeptX.kb {w1 w3 wr : World} (h : KeptX w1 w3) (hb : Below w1.heap.size w3 wr) : KeptX w1 wr :=
  ⟨Nat.le_trans h.1 hb.size, fun k x e fz hx h1 h2 => (hb.block k (lt_of_block hx)).trans (h.2 k x e fz hx h1 h2)⟩

theorem cells8x {w : World} {b : Nat} {a0 a1 a2 a3 a4 a5 a6 a7 : Value} {e : TypeId} {fz : Nat × Nat} (h : w.heap[b]? = some (.cells #[a0, a1, a2, a3, a4, a5, a6, a7] e fz)) :
    w.cell? ⟨b, 0, none⟩ = some a0 ∧ w.cell? ⟨b, 1, none⟩ = some a1 ∧ w.cell? ⟨b, 2, none⟩ = some a2 ∧ w.cell? ⟨b, 3, none⟩ = some a3 ∧ w.cell? ⟨b, 4, none⟩ = some a4 ∧ w.cell? ⟨b, 5, none⟩ = some a5 ∧ w.cell? ⟨b, 6, none⟩ = some a6 ∧ w.cell? ⟨b, 7, none⟩ = some a7 :=
  ⟨by simpa using Lib.cell_of_heap h 0, by simpa using Lib.cell_of_heap h 1, by simpa using Lib.cell_of_heap h 2, by simpa using Lib.cell_of_heap h 3, by simpa using Lib.cell_of_heap h 4, by simpa using Lib.cell_of_heap h 5, by simpa using Lib.cell_of_heap h 6, by simpa using Lib.cell_of_heap h 7⟩

theorem com_open_end {A : List UInt8} {i : Nat} (h : (commentL A i).2 = true) : (commentL A i).1 = A.length := by
  revert h
  unfold commentL
  split
  · intro h; cases h
  · split
    · intro h; cases h
    · split
      · intro h; cases h
      · cases hc : comEnd (i + 2) (A.drop (i + 2)) with
        | none => intro _; rfl
        | some e => intro h; cases h

theorem set_at {w : World} {T : Nat} {xs : Array Value} {e : TypeId} {fz : Nat × Nat} (h : w.heap[T]? = some (.cells xs e fz)) (j : Nat) (u : Value) : (w.setCell ⟨T, j, none⟩ u).heap[T]? = some (.cells (xs.setIfInBounds j u) e fz) := by
  rw [setCell_eq_setRow _ _ _ _ _ _ _ h, setRow_heap _ _ _ _ _ _ h]

/-- all eight cells of a token are written -/
def set8 (w : World) (T : Nat) (b0 b1 b2 b3 b4 b5 b6 b7 : Value) : World := ((((((((w.setCell ⟨T, 0, none⟩ b0).setCell ⟨T, 1, none⟩ b1).setCell ⟨T, 2, none⟩ b2).setCell ⟨T, 3, none⟩ b3).setCell ⟨T, 4, none⟩ b4).setCell ⟨T, 5, none⟩ b5).setCell ⟨T, 6, none⟩ b6).setCell ⟨T, 7, none⟩ b7)

theorem set8_at {w : World} {T : Nat} {a0 a1 a2 a3 a4 a5 a6 a7 b0 b1 b2 b3 b4 b5 b6 b7 : Value} {e : TypeId} {fz : Nat × Nat} (h : w.heap[T]? = some (.cells #[a0, a1, a2, a3, a4, a5, a6, a7] e fz)) : (set8 w T b0 b1 b2 b3 b4 b5 b6 b7).heap[T]? = some (.cells #[b0, b1, b2, b3, b4, b5, b6, b7] e fz) := by
  have := (set_at (set_at (set_at (set_at (set_at (set_at (set_at (set_at h 0 b0) 1 b1) 2 b2) 3 b3) 4 b4) 5 b5) 6 b6) 7 b7)
  simpa [set8] using this

theorem set8_below {w W0 : World} {B T : Nat} {b0 b1 b2 b3 b4 b5 b6 b7 : Value} (h : Below B W0 w) (hB : B ≤ T) : Below B W0 (set8 w T b0 b1 b2 b3 b4 b5 b6 b7) :=
  ((((((((h.setCell (p := ⟨T, 0, none⟩) hB b0).setCell (p := ⟨T, 1, none⟩) hB b1).setCell (p := ⟨T, 2, none⟩) hB b2).setCell (p := ⟨T, 3, none⟩) hB b3).setCell (p := ⟨T, 4, none⟩) hB b4).setCell (p := ⟨T, 5, none⟩) hB b5).setCell (p := ⟨T, 6, none⟩) hB b6).setCell (p := ⟨T, 7, none⟩) hB b7)

theorem set8_other {w : World} {T k : Nat} {b0 b1 b2 b3 b4 b5 b6 b7 : Value} (h : k ≠ T) : (set8 w T b0 b1 b2 b3 b4 b5 b6 b7).heap[k]? = w.heap[k]? := by
  unfold set8
  rw [Below.heap_setCell _ _ _ _ h, Below.heap_setCell _ _ _ _ h, Below.heap_setCell _ _ _ _ h, Below.heap_setCell _ _ _ _ h, Below.heap_setCell _ _ _ _ h, Below.heap_setCell _ _ _ _ h, Below.heap_setCell _ _ _ _ h, Below.heap_setCell _ _ _ _ h]

theorem set8_eq {w : World} {T : Nat} {b0 b1 b2 b3 b4 b5 b6 b7 : Value} : ((((((((w.setCell ⟨T, 0, none⟩ b0).setCell ⟨T, 1, none⟩ b1).setCell ⟨T, 2, none⟩ b2).setCell ⟨T, 3, none⟩ b3).setCell ⟨T, 4, none⟩ b4).setCell ⟨T, 5, none⟩ b5).setCell ⟨T, 6, none⟩ b6).setCell ⟨T, 7, none⟩ b7) = set8 w T b0 b1 b2 b3 b4 b5 b6 b7 := rfl

theorem set8_cell {w : World} {T b j : Nat} {v b0 b1 b2 b3 b4 b5 b6 b7 : Value} (h : b ≠ T) (hc : w.cell? ⟨b, j, none⟩ = some v) : ((((((((w.setCell ⟨T, 0, none⟩ b0).setCell ⟨T, 1, none⟩ b1).setCell ⟨T, 2, none⟩ b2).setCell ⟨T, 3, none⟩ b3).setCell ⟨T, 4, none⟩ b4).setCell ⟨T, 5, none⟩ b5).setCell ⟨T, 6, none⟩ b6).setCell ⟨T, 7, none⟩ b7).cell? ⟨b, j, none⟩ = some v :=
  (World.cell?_of_block (set8_other h)).trans hc

theorem Own.swap {w w' : World} {B e sz T : Nat} {v : Value} {css : List (List Value)} (h : Own w B e sz v css) (hT : ∀ x fz, w.heap[T]? ≠ some (.cells x e fz)) (ho : ∀ k, k ≠ T → w'.heap[k]? = w.heap[k]?) : Own w' B e sz v css := by
  refine ⟨⟨h.1.1, ?_⟩, h.2⟩
  rcases h.1.2 with h0 | ⟨g, cap, cur, hv, hg1, hg, r⟩
  · exact .inl h0
  · refine .inr ⟨g, cap, cur, hv, hg1, (ho g ?_).trans hg, r⟩
    rintro rfl
    exact hT _ _ hg

theorem LwAt.swap {W0 w w' : World} {b T : Nat} {file : ByteArray} {n : Nat} {lo : Option Addr} {cap at_ : Nat} {vd : Value} {ds : List Dg} {sp : Bool} {q : Int} {y : Array Value} {fz : Nat × Nat} (h : LwAt W0 w b file n lo cap at_ vd ds sp q) (hT : w.heap[T]? = some (.cells y 43 fz)) (ho : ∀ k, k ≠ T → w'.heap[k]? = w.heap[k]?) (hB : Below T w w') (hbT : b < T) : LwAt W0 w' b file n lo cap at_ vd ds sp q :=
  ⟨(ho b (Nat.ne_of_lt hbT)).trans h.cells, h.below.swap hT (by decide) ho hB (Nat.le_of_lt hbT), h.diags.swap (fun x fz' e => by rw [hT] at e; simp only [Option.some.injEq, Obj.cells.injEq] at e; exact absurd e.2.1 (by decide)) ho⟩

theorem Bel.kb {b : Nat} {W0 w w' : World} {b1 B1 B2 : Nat} {l : List UInt8} (h : Bel b W0 w) (hb : Bld w B1 b1 l) (hk : Kb B2 b1 w w') (hbB : b ≤ B2) : Bel b W0 w' := by
  refine ⟨h.lo.trans (hk.below.mono hbB), fun k x fz hx => ?_⟩
  have hx2 := h.rn k x fz hx
  refine hk.others k _ hx2 ?_ ?_
  · intro e1
    obtain rfl := Option.some.inj e1
    obtain ⟨p, v', hbk⟩ : ∃ p v', w.heap[k]? = some (.cells #[p, v'] 135 (0, 0)) := by
      rcases hb with ⟨_, v', h1, _⟩ | ⟨_, v', h1, _⟩
      · exact ⟨_, v', h1⟩
      · exact ⟨_, v', h1⟩
    rw [hx2] at hbk
    simp only [Option.some.injEq, Obj.cells.injEq] at hbk
    exact absurd hbk.2.1 (by decide)
  · intro c fz' e1
    simp only [Obj.cells.injEq] at e1
    exact absurd e1.2.1 (by decide)

theorem LwAt.kb {W0 w w' : World} {b b1 B1 B2 : Nat} {file : ByteArray} {n : Nat} {lo : Option Addr} {cap at_ : Nat} {vd : Value} {ds : List Dg} {sp : Bool} {q : Int} {l : List UInt8} (h : LwAt W0 w b file n lo cap at_ vd ds sp q) (hb : Bld w B1 b1 l) (hk : Kb B2 b1 w w') (hbB : b < B2) : LwAt W0 w' b file n lo cap at_ vd ds sp q :=
  ⟨(hk.below.block b hbB).trans h.cells, h.below.kb hb hk (Nat.le_of_lt hbB), own_kb h.diags hb (by decide) (by decide) hk⟩

/-- ahead of a token's store -/
structure MidAt (W0 w7 x : World) (b : Nat) (file : ByteArray) (n : Nat) (lo : Option Addr) (cap at_ : Nat) (vd : Value) (ds : List Dg) (sp : Bool) (q : Int) (T : Nat) (l : List UInt8) (zt : Array Value) : Prop where
  lw : LwAt W0 x b file n lo cap at_ vd ds sp q
  bl : Bld x (T + 1) (T + 1) l
  be : Below (T + 1) w7 x
  tk : x.heap[T]? = some (.cells zt 43 (0, 0))
  sz : T + 2 ≤ x.heap.size

theorem MidAt.after {W0 w7 x x' : World} {b : Nat} {file : ByteArray} {n : Nat} {lo : Option Addr} {cap at_ : Nat} {vd : Value} {ds : List Dg} {sp : Bool} {q : Int} {T : Nat} {l : List UInt8} {zt : Array Value} (h : MidAt W0 w7 x b file n lo cap at_ vd ds sp q T l zt) (hb : Below x.heap.size x x') : MidAt W0 w7 x' b file n lo cap at_ vd ds sp q T l zt :=
  ⟨h.lw.after hb, h.bl.below hb, h.be.trans (hb.mono (by have := h.sz; omega)), (hb.block T (lt_of_block h.tk)).trans h.tk, Nat.le_trans h.sz hb.size⟩

theorem MidAt.kb {W0 w7 x x' : World} {b : Nat} {file : ByteArray} {n : Nat} {lo : Option Addr} {cap at_ : Nat} {vd : Value} {ds : List Dg} {sp : Bool} {q : Int} {T : Nat} {l l' : List UInt8} {zt : Array Value} (h : MidAt W0 w7 x b file n lo cap at_ vd ds sp q T l zt) (hbT : b < T) (hbl : Bld x' (T + 1) (T + 1) l') (hk : Kb (T + 1) (T + 1) x x') : MidAt W0 w7 x' b file n lo cap at_ vd ds sp q T l' zt :=
  ⟨h.lw.kb h.bl hk (by omega), hbl, h.be.trans hk.below, (hk.below.block T (by omega)).trans h.tk, Nat.le_trans h.sz hk.below.size⟩

theorem LwAt.space {W0 w : World} {b : Nat} {file : ByteArray} {n : Nat} {lo : Option Addr} {cap at_ : Nat} {vd : Value} {ds : List Dg} {sp : Bool} {q : Int} (h : LwAt W0 w b file n lo cap at_ vd ds sp q) (sp2 : Bool) :
    LwAt W0 (w.setCell ⟨b, 4, none⟩ (.bool sp2)) b file n lo cap at_ vd ds sp2 q :=
  ⟨lw_set4 h.cells _, h.below.set h.cells (by decide) (Nat.le_refl _) 4 _, h.diags.setBelow (Nat.lt_succ_self _) _⟩
end Go.Proofs.Ythbicbfdldpemaa

/- lex's lines: the walk's tokens and the document's. -/
namespace Go.Proofs.Ythbicbfdldpemaa
open Go.RowKit
set_option linter.unusedVariables false
set_option linter.unusedSimpArgs false

/-- the tokens of a line -/
inductive Toks (R : List Rn) : NS → NS → List Tk → Prop
  | nil (s : NS) : Toks R s s []
  | snoc {s t u : NS} {l : List Tk} (h : Toks R s t l) (hs : Skips R t u) (ht : AtTok R u) : Toks R s (afterTok R u) (l ++ [tokN R u])

theorem AtTok.len {R : List Rn} {u : NS} (ht : AtTok R u) : u.i < (nextL (cs R) u.i).2.1 ∧ (nextL (cs R) u.i).2.1 ≤ R.length := by
  have := nextL_len (A := cs R) (i := u.i) (by rw [cs_len]; exact ht.1.1)
  rw [cs_len] at this
  exact this

theorem Toks.bound {R : List Rn} {s t : NS} {l : List Tk} (h : Toks R s t l) (hs : s.i ≤ R.length) : s.i + l.length ≤ t.i ∧ t.i ≤ R.length ∧ t.ds.length + s.i ≤ s.ds.length + t.i := by
  induction h with
  | nil => simp only [List.length_nil]; omega
  | snoc h hk ht ih =>
    have h1 := hk.bound ih.2.1
    have h2 := ht.len
    simp only [afterTok, List.length_append, List.length_cons, List.length_nil]
    split
    · simp only [List.length_cons, List.length_nil]; omega
    · simp only [List.length_nil]; omega

theorem ne0_lt {A : List UInt8} {i : Nat} (h : chAt A i ≠ 0) : i < A.length := by
  rcases Nat.lt_or_ge i A.length with h1 | h1
  · exact h1
  · exact absurd (chAt_ge h1) h

theorem quo_tail {q : UInt8} {A : List UInt8} : ∀ (k j : Nat), A.length ≤ j + k → 0 < quoL q j (A.drop j) → chAt A (quoL q j (A.drop j) - 1) = q := by
  intro k
  induction k using Nat.strongRecOn with
  | _ k ih =>
    intro j hk h
    by_cases hj : j < A.length
    · rw [quo_step hj] at h ⊢
      split at h
      · omega
      · rename_i h10
        rw [if_neg h10]
        split at h
        · rename_i h92
          rw [if_pos h92]
          exact ih (k - 2) (by omega) (j + 2) (by omega) h
        · rename_i h92
          rw [if_neg h92]
          split at h
          · rename_i hq
            rw [if_pos hq]
            simpa using hq
          · rename_i hq
            rw [if_neg hq]
            exact ih (k - 1) (by omega) (j + 1) (by omega) h
    · rw [quo_end (by omega)] at h
      omega

theorem quoted_tail {A : List UInt8} {i : Nat} (h : 0 < quotedL A i) : chAt A (quotedL A i - 1) = chAt A i := quo_tail A.length _ (by omega) h

theorem while_tail {p : UInt8 → Bool} {A : List UInt8} : ∀ (k j : Nat), A.length ≤ j + k → 0 < ((A.drop j).takeWhile p).length → p (chAt A (j + ((A.drop j).takeWhile p).length - 1)) = true := by
  intro k
  induction k with
  | zero => intro j hk h; rw [while_end (by omega)] at h; omega
  | succ k ih =>
    intro j hk h
    by_cases hj : j < A.length
    · rw [while_step hj] at h ⊢
      split at h
      · rename_i hp
        rw [if_pos hp]
        by_cases h0 : 0 < ((A.drop (j + 1)).takeWhile p).length
        · have := ih (j + 1) (by omega) h0
          rw [show j + (((A.drop (j + 1)).takeWhile p).length + 1) - 1 = j + 1 + ((A.drop (j + 1)).takeWhile p).length - 1 by omega]
          exact this
        · rw [show j + (((A.drop (j + 1)).takeWhile p).length + 1) - 1 = j by omega]
          exact hp
      · omega
    · rw [while_end (by omega)] at h; omega

theorem num_tail {A : List UInt8} : ∀ (k j : Nat), A.length ≤ j + k → 0 < numRun (A.drop j) → chAt A (j + numRun (A.drop j) - 1) ≠ 10 := by
  intro k
  induction k using Nat.strongRecOn with
  | _ k ih =>
    intro j hk h
    by_cases hj : j < A.length
    · rw [num_step hj] at h ⊢
      split at h
      · rename_i he
        rw [if_pos he]
        by_cases h0 : 0 < numRun (A.drop (j + 2))
        · have := ih (k - 2) (by omega) (j + 2) (by omega) h0
          rw [show j + (numRun (A.drop (j + 2)) + 2) - 1 = j + 2 + numRun (A.drop (j + 2)) - 1 by omega]
          exact this
        · rw [show j + (numRun (A.drop (j + 2)) + 2) - 1 = j + 1 by omega]
          have hd := of_decide_eq_true he
          intro e
          rw [e] at hd
          exact absurd hd.2 (by decide)
      · rename_i he
        rw [if_neg he]
        split at h
        · rename_i hn
          rw [if_pos hn]
          by_cases h0 : 0 < numRun (A.drop (j + 1))
          · have := ih (k - 1) (by omega) (j + 1) (by omega) h0
            rw [show j + (numRun (A.drop (j + 1)) + 1) - 1 = j + 1 + numRun (A.drop (j + 1)) - 1 by omega]
            exact this
          · rw [show j + (numRun (A.drop (j + 1)) + 1) - 1 = j by omega]
            intro e
            rw [e] at hn
            exact absurd hn (by decide)
        · omega
    · rw [num_end (by omega)] at h
      omega

theorem punct_tail {A : List UInt8} {i : Nat} (h : 0 < punctL A i) : chAt A (i + punctL A i - 1) ≠ 10 := by
  unfold punctL at h ⊢
  cases hf : punctsL.find? fun p => p.isPrefixOf (A.drop i) with
  | none => rw [hf] at h; simp at h
  | some p =>
    have hm := List.mem_of_find?_eq_some hf
    have hp := List.find?_some hf
    obtain ⟨r, hr⟩ := List.isPrefixOf_iff_prefix.1 hp
    have hl : 0 < p.length ∧ p.getD (p.length - 1) 0 ≠ 10 := (show ∀ p ∈ punctsL, 0 < p.length ∧ p.getD (p.length - 1) 0 ≠ 10 by decide) p hm
    simp only [Option.map_some, Option.getD_some]
    rw [show i + p.length - 1 = i + (p.length - 1) by omega]
    have : chAt A (i + (p.length - 1)) = p.getD (p.length - 1) 0 := by
      unfold chAt
      rw [List.getD_eq_getElem?_getD, List.getD_eq_getElem?_getD, ← List.getElem?_drop, ← hr, List.getElem?_append_left (by omega)]
    rw [this]
    exact hl.2

theorem next_tail {A : List UInt8} {i : Nat} (hi : i < A.length) (h10 : chAt A i ≠ 10) : chAt A ((nextL A i).2.1 - 1) ≠ 10 := by
  have hq : 0 ≤ lettersL A i → 0 < quotedL A (i + (lettersL A i).toNat) → chAt A (quotedL A (i + (lettersL A i).toNat) - 1) ≠ 10 := by
    intro h0 h1
    rw [quoted_tail h1]
    rcases (letters_quote (A := A) (i := i) (by omega)).2 with h | h <;> rw [h] <;> decide
  unfold nextL
  split
  · rename_i h; exact hq h.1 h.2.1
  · split
    · rename_i h; exact hq h.1 h.2
    · split
      · simpa using h10
      · split
        · rename_i hl
          simp only
          by_cases h0 : 0 < ((A.drop (i + 1)).takeWhile idB).length
          · have := while_tail A.length (i + 1) (by omega) h0
            intro e
            rw [e] at this
            exact absurd this (by decide)
          · rw [show i + 1 + ((A.drop (i + 1)).takeWhile idB).length - 1 = i by omega]
            exact h10
        · split
          · rename_i hn
            simp only
            unfold numL at hn ⊢
            split
            · by_cases h0 : 0 < numRun (A.drop (i + 1))
              · exact num_tail A.length (i + 1) (by omega) h0
              · rw [show i + 1 + numRun (A.drop (i + 1)) - 1 = i by omega]
                exact h10
            · rename_i h; rw [if_neg h] at hn; omega
          · split
            · rename_i h; exact punct_tail h
            · simpa using h10

theorem com_tail {A : List UInt8} : ∀ (k j e : Nat), A.length ≤ j + k → comEnd j (A.drop j) = some e → chAt A (e - 1) ≠ 10 := by
  intro k
  induction k with
  | zero => intro j e hk h; rw [com_end (by omega)] at h; cases h
  | succ k ih =>
    intro j e hk h
    by_cases hj : j < A.length
    · rw [com_step hj] at h
      split at h
      · rename_i hc
        injection h with h
        subst h
        rw [show j + 2 - 1 = j + 1 by omega, hc.2]
        decide
      · exact ih (j + 1) e (by omega) h
    · rw [com_end (by omega)] at h; cases h

theorem comment_tail {A : List UInt8} {i : Nat} (hi : i < (commentL A i).1) (ho : (commentL A i).2 = false) : chAt A ((commentL A i).1 - 1) ≠ 10 := by
  unfold commentL at hi ho ⊢
  split at hi
  · simp at hi
  · rename_i h47
    rw [if_neg h47] at ho ⊢
    split at hi
    · rename_i h2
      rw [if_pos h2]
      simp only at hi ⊢
      have := while_tail (p := (· != 10)) (A := A) A.length i (by omega) (by omega)
      simpa using this
    · rename_i h2
      rw [if_neg h2] at ho ⊢
      split at hi
      · simp at hi
      · rename_i h3
        rw [if_neg h3] at ho ⊢
        cases hc : comEnd (i + 2) (A.drop (i + 2)) with
        | none => rw [hc] at ho; simp at ho
        | some e =>
          simp only
          exact com_tail A.length (i + 2) e (by omega) hc

/-! ## what is told -/

def ToldA (s : LS) (st : NS) : Prop := st.ds = s.diags ∧ st.q < st.i
def ToldB (R : List Rn) (s : LS) (st : NS) : Prop := st.ds = s.diags ++ [⟨2, rF R st.i, rT R st.i⟩] ∧ st.q = st.i ∧ lettersL (cs R) st.i = 0 ∧ quotedL (cs R) st.i = 0
def Sim (R : List Rn) (st : NS) (s : LS) : Prop := s.i = st.i ∧ s.space = st.sp ∧ (ToldA s st ∨ ToldB R s st)

theorem letters_at {A : List UInt8} {j : Nat} (h : chAt A j = 34 ∨ chAt A j = 39) : lettersL A j = 0 := by
  unfold lettersL
  rw [if_pos h]

theorem letters0 {A : List UInt8} {i : Nat} (h : lettersL A i = 0) : chAt A i = 34 ∨ chAt A i = 39 := by
  have := (letters_quote (A := A) (i := i) (by omega)).2
  rw [h] at this
  simpa using this

theorem toldB_in {R : List Rn} {s : LS} {st : NS} (h : ToldB R s st) : st.i < R.length ∧ chAt (cs R) st.i ≠ 10 ∧ whiteB (chAt (cs R) st.i) = false ∧ ¬ st.i < (commentL (cs R) st.i).1 := by
  have h0 := letters0 h.2.2.1
  refine ⟨?_, ?_, ?_, ?_⟩
  · rw [← cs_len]
    apply ne0_lt
    rcases h0 with h | h <;> rw [h] <;> decide
  · rcases h0 with h | h <;> rw [h] <;> decide
  · rcases h0 with h | h <;> rw [h] <;> decide
  · unfold commentL
    rw [if_pos (by rcases h0 with h | h <;> rw [h] <;> decide)]
    simp

theorem skips_sim {R : List Rn} (n : Nat) {st t : NS} (h : Skips R st t) (hop : st.op = false) {s : LS} (hs : Sim R st s) :
    (t.op = false ∧ ∃ s', Sim R t s' ∧ linesFrom R n s = linesFrom R n s' ∧ s'.toks = s.toks ∧ s'.from_ = s.from_ ∧ s'.out = s.out ∧ (t.i = st.i ∨ chAt (cs R) (t.i - 1) ≠ 10)) ∨
    (t.op = true ∧ t.i = R.length ∧ linesFrom R n s = (s.out ++ [⟨s.toks, s.from_, n, true⟩], t.ds)) := by
  induction h with
  | refl => exact .inl ⟨hop, s, hs, rfl, rfl, rfl, rfl, .inl rfl⟩
  | @white t h hi hw ih =>
    rcases ih with ⟨h1, s', ⟨e1, e2, e3⟩, h2, h3, h4, h5, h6⟩ | ⟨_, h1, _⟩
    · refine .inl ⟨h1, ⟨t.i + 1, s'.toks, s'.from_, true, s'.out, s'.diags⟩, ⟨rfl, rfl, .inl ?_⟩, ?_, h3, h4, h5, .inr ?_⟩
      · rcases e3 with e3 | e3
        · exact ⟨e3.1, by have := e3.2; simp only; omega⟩
        · have := (toldB_in e3).2.2.1; rw [this] at hw; cases hw
      · rw [h2]
        refine linesFrom_inl (by rw [e1]; exact hi.1) ?_
        unfold lineStep
        rw [e1, if_neg hi.2, if_pos hw]
      · simpa using hi.2
    · have := hi.1; omega
  | @com t h hi hw hc ih =>
    rcases ih with ⟨h1, s', ⟨e1, e2, e3⟩, h2, h3, h4, h5, h6⟩ | ⟨_, h1, _⟩
    · have e4 : ToldA s' t := by
        rcases e3 with e3 | e3
        · exact e3
        · exact absurd hc (toldB_in e3).2.2.2
      have hlt : s'.i < R.length := by rw [e1]; exact hi.1
      cases ho : (commentL (cs R) t.i).2 with
      | true =>
        refine .inr ⟨rfl, ?_, ?_⟩
        · have := com_open_end ho; rw [cs_len] at this; exact this
        · rw [h2]
          refine linesFrom_inr hlt ?_
          unfold lineStep
          rw [e1, if_neg hi.2, if_neg (by rw [hw]; decide), if_pos hc, if_pos ho, h3, h4, h5, ← e4.1]
          simp
      | false =>
        refine .inl ⟨rfl, ⟨(commentL (cs R) t.i).1, s'.toks, s'.from_, true, s'.out, s'.diags⟩, ⟨rfl, rfl, .inl ⟨by simpa using e4.1, by have := e4.2; simp only; omega⟩⟩, ?_, h3, h4, h5, .inr (comment_tail hc ho)⟩
        rw [h2]
        refine linesFrom_inl hlt ?_
        unfold lineStep
        rw [e1, if_neg hi.2, if_neg (by rw [hw]; decide), if_pos hc, if_neg (by rw [ho]; decide)]
    · have := hi.1; omega

theorem tok_sim {R : List Rn} (n : Nat) {u : NS} (ht : AtTok R u) {s : LS} (hs : Sim R u s) :
    ∃ s', Sim R (afterTok R u) s' ∧ linesFrom R n s = linesFrom R n s' ∧ s'.toks = s.toks ++ [tokN R u] ∧ s'.from_ = s.from_ ∧ s'.out = s.out := by
  obtain ⟨e1, e2, e3⟩ := hs
  have hlt : s.i < R.length := by rw [e1]; exact ht.1.1
  have hlen := ht.len
  refine ⟨⟨(nextL (cs R) s.i).2.1, s.toks ++ [tokAt R s], s.from_, false, s.out, if (nextL (cs R) s.i).2.2 then s.diags ++ [⟨2, rF R s.i, rT R ((nextL (cs R) s.i).2.1 - 1)⟩] else s.diags⟩, ?_, ?_, ?_, rfl, rfl⟩
  · refine ⟨by rw [e1]; rfl, rfl, ?_⟩
    rw [e1]
    by_cases hneg : lettersL (cs R) u.i < 0
    · have e4 : ToldA s u := by
        rcases e3 with e3 | e3
        · exact e3
        · have := e3.2.2.1; omega
      have htb : tellB (cs R) u.i u.q = false := by unfold tellB; simp [hneg]
      have hbad : (nextL (cs R) u.i).2.2 = false := by
        unfold nextL
        rw [if_neg (by omega), if_neg (by omega), if_neg (by omega)]
        repeat' split
        all_goals rfl
      refine .inl ⟨?_, ?_⟩
      · simp only [afterTok, htb, hbad, Bool.false_eq_true, if_false, List.append_nil]
        exact e4.1
      · have := e4.2
        simp only [afterTok, htb, Bool.false_eq_true, if_false]
        omega
    · by_cases hz : quotedL (cs R) (u.i + (lettersL (cs R) u.i).toNat) = 0
      · have hcl : closesL (cs R) u.i (lettersL (cs R) u.i).toNat = 0 := by unfold closesL; simp [hz]
        by_cases hL0 : lettersL (cs R) u.i = 0
        · have hz' : quotedL (cs R) u.i = 0 := by rw [hL0] at hz; simpa using hz
          have hnx : nextL (cs R) u.i = (6, u.i + 1, true) := by
            unfold nextL
            rw [if_neg (by omega), if_neg (by omega), if_pos hL0]
          have hp : posN R u = u.i := by unfold posN; rw [hL0]; simp
          rcases e3 with e3 | e3
          · have htb : tellB (cs R) u.i u.q = true := by
              unfold tellB
              have := e3.2
              rw [decide_eq_true_eq]
              exact ⟨hneg, hcl, by omega⟩
            refine .inl ⟨?_, ?_⟩
            · simp only [afterTok, htb, hnx, if_true, hp, e3.1]
              simp
            · simp only [afterTok, htb, hnx, if_true, hp]
              omega
          · have htb : tellB (cs R) u.i u.q = false := by
              unfold tellB
              rw [decide_eq_false_iff_not]
              intro h
              apply h.2.2
              rw [e3.2.1, hL0]
              simp
            refine .inl ⟨?_, ?_⟩
            · simp only [afterTok, htb, hnx, Bool.false_eq_true, if_false, if_true, List.append_nil, e3.1]
              simp
            · simp only [afterTok, htb, hnx, Bool.false_eq_true, if_false, e3.2.1]
              omega
        · have e4 : ToldA s u := by
            rcases e3 with e3 | e3
            · exact e3
            · exact absurd e3.2.2.1 hL0
          have htb : tellB (cs R) u.i u.q = true := by
            unfold tellB
            have := e4.2
            rw [decide_eq_true_eq]
            exact ⟨hneg, hcl, by omega⟩
          obtain ⟨hlet, hend, hl2⟩ : letterB (chAt (cs R) u.i) = true ∧ u.i + 1 + (((cs R).drop (u.i + 1)).takeWhile idB).length = posN R u ∧ lettersL (cs R) (posN R u) = 0 := by
            have hq := letters_quote hneg
            unfold posN
            have hl0 : lettersL (cs R) (u.i + (lettersL (cs R) u.i).toNat) = 0 := letters_at hq.2
            rw [hl0]
            revert hq hL0 hneg
            clear hl0
            unfold lettersL
            split
            · intro h1 h2; omega
            · split
              · rename_i h8
                intro _ _ hq
                refine ⟨by rw [h8.1]; decide, ?_, rfl⟩
                rw [while_step (ne0_lt (by rw [h8.2.1]; decide)), h8.2.1, if_pos (by decide), while_step (ne0_lt (by rw [h8.2.2]; decide)), h8.2.2, if_neg (by decide)]
                rfl
              · split
                · rename_i h1
                  intro _ _ hq
                  refine ⟨by rcases h1.1 with h | h | h <;> rw [h] <;> decide, ?_, rfl⟩
                  rw [while_step (ne0_lt (by rcases h1.2 with h | h <;> rw [h] <;> decide)), if_neg (by rcases h1.2 with h | h <;> rw [h] <;> decide)]
                  rfl
                · intro _ h; omega
          have hnx : nextL (cs R) u.i = (1, posN R u, false) := by
            unfold nextL
            rw [if_neg (by omega), if_neg (by omega), if_neg hL0, if_pos hlet, hend]
          refine .inr ⟨?_, ?_, ?_, ?_⟩
          · simp only [afterTok, htb, hnx, if_true, Bool.false_eq_true, if_false, e4.1]
          · simp only [afterTok, htb, hnx, if_true]
          · simp only [afterTok, hnx]
            exact hl2
          · simp only [afterTok, hnx]
            exact hz
      · have hq := quotedL_le _ _ (Nat.pos_of_ne_zero hz)
        have e4 : ToldA s u := by
          rcases e3 with e3 | e3
          · exact e3
          · exfalso
            apply hz
            rw [e3.2.2.1]
            simpa using e3.2.2.2
        have htb : tellB (cs R) u.i u.q = false := by
          unfold tellB closesL
          rw [decide_eq_false_iff_not]
          intro h
          have := h.2.1
          rw [if_neg hz] at this
          omega
        have hbad : (nextL (cs R) u.i).2.2 = false := by
          unfold nextL
          by_cases h34 : chAt (cs R) (u.i + (lettersL (cs R) u.i).toNat) = 34
          · rw [if_pos ⟨by omega, by omega, h34⟩]
          · rw [if_neg (fun h => h34 h.2.2), if_pos ⟨by omega, by omega⟩]
        refine .inl ⟨?_, ?_⟩
        · simp only [afterTok, htb, hbad, Bool.false_eq_true, if_false, List.append_nil]
          exact e4.1
        · have := e4.2
          simp only [afterTok, htb, Bool.false_eq_true, if_false]
          omega
  · refine linesFrom_inl hlt ?_
    unfold lineStep
    rw [if_neg (by rw [e1]; exact ht.1.2), if_neg (by rw [e1, ht.2.1]; decide), if_neg (by rw [e1]; exact ht.2.2)]
  · simp only [tokAt, tokN, e1, e2]

theorem toks_sim {R : List Rn} (n : Nat) {s0 t : NS} {l : List Tk} (h : Toks R s0 t l) (hop : s0.op = false) {s : LS} (hs : Sim R s0 s) (hn : s.toks = []) :
    t.op = false ∧ ∃ s', Sim R t s' ∧ linesFrom R n s = linesFrom R n s' ∧ s'.toks = l ∧ s'.from_ = s.from_ ∧ s'.out = s.out ∧ (t.i = s0.i ∨ chAt (cs R) (t.i - 1) ≠ 10) := by
  induction h with
  | nil => exact ⟨hop, s, hs, rfl, hn, rfl, rfl, .inl rfl⟩
  | @snoc t u l h hk ht ih =>
    obtain ⟨h1, s', h2, h3, h4, h5, h6, h7⟩ := ih
    rcases skips_sim n hk h1 h2 with ⟨k1, s2, k2, k3, k4, k5, k6, k7⟩ | ⟨_, k1, _⟩
    · obtain ⟨s3, m1, m2, m3, m4, m5⟩ := tok_sim n ht k2
      exact ⟨rfl, s3, m1, h3.trans (k3.trans m2), by rw [m3, k4, h4], m4.trans (k5.trans h5), m5.trans (k6.trans h6), .inr (next_tail (by rw [cs_len]; exact ht.1.1) ht.1.2)⟩
    · have := ht.1.1; omega

theorem line_sim {R : List Rn} (n : Nat) (hR : chAt (cs R) (R.length - 1) = 10) {s0 t u : NS} {l : List Tk} (h : Toks R s0 t l) (hk : Skips R t u) (hu : ¬ AtIn R u) (hop : s0.op = false) (h0 : s0.i < R.length) {s : LS} (hs : Sim R s0 s) (hn : s.toks = []) :
    (u.op = false ∧ u.i < R.length ∧ u.q < u.i ∧ linesFrom R n s = linesFrom R n ⟨u.i + 1, [], rT R u.i, false, s.out ++ [⟨l, s.from_, rT R u.i, false⟩], u.ds⟩) ∨
    (u.op = true ∧ u.i = R.length ∧ linesFrom R n s = (s.out ++ [⟨l, s.from_, n, true⟩], u.ds)) := by
  obtain ⟨h1, s', h2, h3, h4, h5, h6, h7⟩ := toks_sim n h hop hs hn
  have hb := h.bound (Nat.le_of_lt h0)
  have hb2 := hk.bound hb.2.1
  rcases skips_sim n hk h1 h2 with ⟨k1, s2, ⟨k2a, k2b, k2c⟩, k3, k4, k5, k6, k7⟩ | ⟨k1, k2, k3⟩
  · have hlt : u.i < R.length := by
      rcases Nat.lt_or_ge u.i R.length with h8 | h8
      · exact h8
      · exfalso
        have hui : u.i = R.length := by omega
        rcases k7 with k7 | k7
        · rcases h7 with h7 | h7
          · omega
          · apply h7; rw [← k7, hui]; exact hR
        · apply k7; rw [hui]; exact hR
    have h10 : chAt (cs R) u.i = 10 := by
      apply Classical.byContradiction
      intro e
      exact hu ⟨hlt, e⟩
    have hA : ToldA s2 u := by
      rcases k2c with e | e
      · exact e
      · exact absurd h10 (toldB_in e).2.1
    refine .inl ⟨k1, hlt, hA.2, ?_⟩
    rw [h3, k3]
    refine linesFrom_inl (by rw [k2a]; exact hlt) ?_
    unfold lineStep
    rw [if_pos (by rw [k2a]; exact h10), k2a, k4, h4, k5, h5, k6, h6, hA.1]
  · refine .inr ⟨k1, k2, ?_⟩
    rw [h3, k3, h4, h5, h6]
end Go.Proofs.Ythbicbfdldpemaa
