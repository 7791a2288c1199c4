/- Texts of this seat's proofs, laid into one file. -/
import Derived.Test.YtfaoamdlknlgpaaGreatArgsCollectDoneG13
import Derived.Deep.Cut
import Derived.Deep.CutRange
/- lex's number. -/
namespace Go.Proofs.YtfaoamdlknlgpaaGreat
open Go.RowKit
set_option linter.unusedVariables false

theorem idx_exp : ∀ n : Fin 256, decide (0 ≤ Lib.indexByte [101, 69, 112, 80] (UInt8.ofNat n.val)) = decide (UInt8.ofNat n.val = 101 ∨ UInt8.ofNat n.val = 69 ∨ UInt8.ofNat n.val = 112 ∨ UInt8.ofNat n.val = 80) := by decide +kernel

theorem idx_expB (c : UInt8) : decide (0 ≤ Lib.indexByte [101, 69, 112, 80] c) = decide (c = 101 ∨ c = 69 ∨ c = 112 ∨ c = 80) := by
  have := idx_exp ⟨c.toNat, c.toNat_lt⟩
  simpa using this

theorem idx_sign : ∀ n : Fin 256, decide (0 ≤ Lib.indexByte [91, 93, 40, 41, 123, 125, 46, 38, 42, 43, 45, 126, 33, 47, 37, 60, 62, 94, 124, 63, 58, 59, 61, 44, 35] (UInt8.ofNat n.val)) = decide (UInt8.ofNat n.val ∈ [91, 93, 40, 41, 123, 125, 46, 38, 42, 43, 45, 126, 33, 47, 37, 60, 62, 94, 124, 63, 58, 59, 61, 44, (35 : UInt8)]) := by decide +kernel

/-- what number gives -/
def pnumL (A : List UInt8) (i : Nat) : Nat := numL A i - i
def NumPost (A : List UInt8) (i : Nat) (w : World) (e : Ending) (w' : World) : Prop := e = .returned (.int .i64 (pnumL A i)) ∧ ∃ q, w' = w.drewN q

theorem num_more {A : List UInt8} (j : Nat) : numRun (A.drop j) = if expB (chAt A j) (chAt A (j + 1)) then numRun (A.drop (j + 2)) + 2 else if numB (chAt A j) then numRun (A.drop (j + 1)) + 1 else 0 := by
  by_cases h : j < A.length
  · exact num_step h
  · rw [num_end (by omega), chAt_ge (by omega : A.length ≤ j)]
    have h1 : expB 0 (chAt A (j + 1)) = false := by simp [expB]
    have h2 : numB 0 = false := by decide
    rw [h1, h2]
    rfl

theorem numB_beyond {A : List UInt8} {j : Nat} (h : A.length ≤ j) : numB (chAt A j) = false := by rw [chAt_ge h]; decide
theorem expB_beyond {A : List UInt8} {j : Nat} (h : A.length ≤ j) (d : UInt8) : expB (chAt A j) d = false := by rw [chAt_ge h]; simp [expB]

set_option maxHeartbeats 2000000 in
set_option maxRecDepth 100000 in
theorem number_any (b : Nat) (R : List Rn) (lo : Option Addr) (cap at_ : Nat) (hl : R.length ≤ 1000001) (ha : at_ ≤ R.length) (w : World) (h : WkAt w b R lo cap at_) :
    Calls Tryz.prog 108 #[.pointer (some ⟨b, 0, none⟩)] w fun e w' => NumPost (cs R) at_ w e w' := by
  have HP := fun (k : Nat) (hk : k ≤ 4000000) (w' : World) (hb : Below w.heap.size w w') => peek_any b R lo cap at_ k hk w' (h.below hb)
  obtain ⟨m, hm⟩ : ∃ m, m = R.length := ⟨_, rfl⟩
  have HA : Hid ((cs R).length = m) := Lib.hid (by rw [cs_len, hm])
  rw [← hm] at hl ha
  replace HP := Lib.hid HP
  clear hm h
  obtain ⟨N, hN⟩ : ∃ N, N = pnumL (cs R) at_ := ⟨_, rfl⟩
  obtain ⟨c0, hc0⟩ : ∃ c, c = chAt (cs R) at_ := ⟨_, rfl⟩
  obtain ⟨c1, hc1⟩ : ∃ c, c = chAt (cs R) (at_ + 1) := ⟨_, rfl⟩
  have hq0 : w = w.drewN 0 := rfl
  have HP0 := HP.out 0 (by omega) w (Below.refl _ _)
  rw [Nat.add_zero, ← hc0] at HP0
  have HPost : Hid (∀ e w', e = .returned (.int .i64 N) → (∃ q, w' = w.drewN q) → NumPost (cs R) at_ w e w') := Lib.hid (by
    intro e w' he hq
    subst he
    exact ⟨by rw [hN], hq⟩)
  unfold pnumL numL at hN
  rw [← hc0, ← hc1] at hN
  replace HP0 := Lib.hid HP0
  replace hN := Lib.hid hN
  replace hq0 := Lib.hid hq0
  go_enter Tryz.func108, Tryz.ntmps108
  go_wp2_with fail
  refine HP0.out.mono ?_
  rintro e w1 ⟨rfl, q1, hq1⟩
  have hb1 : Below w.heap.size w w1 := by rw [hq1]; exact drewN_below w _
  replace hq1 := Lib.hid hq1
  obtain ⟨n0, hn0⟩ : ∃ n0 : Nat, n0 = if c0 = 46 then 1 else 0 := ⟨_, rfl⟩
  have hn01 : n0 ≤ 1 := by rw [hn0]; split <;> omega
  obtain ⟨c, hc⟩ : ∃ c, c = chAt (cs R) (at_ + n0) := ⟨_, rfl⟩
  have hNd : Hid (N = if digitB c then n0 + 1 + numRun ((cs R).drop (at_ + (n0 + 1))) else 0) := Lib.hid (by
    rw [hN.out, hc, hn0]
    by_cases h46 : c0 = 46
    · have hd0 : digitB c0 = false := by rw [h46]; decide
      have h1 := num_more (A := cs R) (at_ + 1)
      rw [← hc1] at h1
      rw [if_pos h46, ← hc1]
      by_cases hd : digitB c1 = true
      · have hx : expB c1 (chAt (cs R) (at_ + 1 + 1)) = false := by
          unfold expB
          apply decide_eq_false
          rintro ⟨h, _⟩
          rcases h with h | h | h | h <;> rw [h] at hd <;> exact absurd hd (by decide)
        have hnB : numB c1 = true := by unfold numB; rw [hd]; simp
        rw [if_pos (.inr ⟨h46, hd⟩), if_pos hd, h1, hx, if_neg (by simp), if_pos hnB]
        rw [show at_ + (1 + 1) = at_ + 1 + 1 by omega]
        omega
      · rw [if_neg (by simp [hd0, hd]), if_neg hd]
        omega
    · rw [if_neg h46, show at_ + 0 = at_ from rfl, ← hc0]
      by_cases hd : digitB c0 = true
      · rw [if_pos (.inl hd), if_pos hd, Nat.zero_add]
        omega
      · rw [if_neg (by simp [hd, h46]), if_neg hd]
        omega)
  replace hn0 := Lib.hid hn0
  have HPn := HP.out n0 (by omega) w1 hb1
  rw [← hc] at HPn
  replace HPn := Lib.hid HPn
  replace hc := Lib.hid hc
  replace hc0 := Lib.hid hc0
  replace hc1 := Lib.hid hc1
  go_upto_if 8 with fail
  go_cut [3] from 9 to 10 (fun s wx => s = .int .i64 n0 ∧ wx = w1)
  case first =>
    by_cases h46 : c0 = 46
    · have b46 : ((c0.toNat : Int) == 46) = true := by rw [h46]; rfl
      have hn00 : Hid (n0 = 1) := Lib.hid (by rw [hn0.out, if_pos h46])
      replace h46 := Lib.hid h46
      go_wp2_with fail
      go_meet
      case rel => exact ⟨by rw [hn00.out]; rfl, rfl⟩
    · have b46 : ((c0.toNat : Int) == 46) = false := beq_false_of_ne (fun e => h46 ((u8eq _ _).2 e))
      have hn00 : Hid (n0 = 0) := Lib.hid (by rw [hn0.out, if_neg h46])
      replace h46 := Lib.hid h46
      go_wp2_with fail
      go_meet
      case rel => exact ⟨by rw [hn00.out]; rfl, rfl⟩
  case rest =>
    obtain ⟨rfl, hwc⟩ := hcut
    subst hwc
    go_wp2_with fail
    refine HPn.out.mono ?_
    rintro e w2 ⟨rfl, k2, hk2⟩
    obtain ⟨q2, hq2⟩ : ∃ q2, w2 = w.drewN q2 := ⟨_, by rw [hk2, hq1.out, drewN_add]⟩
    have hb2 : Below w.heap.size w w2 := by rw [hq2]; exact drewN_below w _
    replace hq2 := Lib.hid hq2
    clear hk2
    go_wp2_with fail
    refine (pdigit_any c w2).mono ?_
    rintro e w3 ⟨rfl, hw3⟩
    replace hw3 := hw3.symm
    subst hw3
    cases hd : digitB c with
    | false =>
      rw [hd] at hNd
      have hN0 : Hid (N = 0) := Lib.hid (by rw [hNd.out]; rfl)
      replace hd := Lib.hid hd
      go_wp2
      go_ret
      exact HPost.out _ _ (by rw [hN0.out]; rfl) ⟨q2, hq2.out⟩
    | true =>
      rw [hd] at hNd
      replace hd := Lib.hid hd
      go_wp2_with fail
      go_loopg [3] (m + 20 - (at_ + (n0 + 1))) (fun u v wr => ∃ k : Nat, u = m + 20 - (at_ + k) ∧ at_ + k ≤ m + 10 ∧ v = .int .i64 k ∧ (∃ q, wr = w.drewN q) ∧ Hid (N = k + numRun ((cs R).drop (at_ + k))))
      case atStart => exact ⟨n0 + 1, rfl, by omega, by go_num, ⟨q2, hq2.out⟩, Lib.hid (by rw [hNd.out]; rfl)⟩
      case round =>
        obtain ⟨k, rfl, hk, rfl, ⟨q, hq⟩, HT⟩ := hrel
        have hbr : Below w.heap.size w wr := by rw [hq]; exact drewN_below w q
        replace hq := Lib.hid hq
        obtain ⟨x, hx⟩ : ∃ x, x = chAt (cs R) (at_ + k) := ⟨_, rfl⟩
        obtain ⟨y, hy⟩ : ∃ y, y = chAt (cs R) (at_ + k + 1) := ⟨_, rfl⟩
        have hmore := num_more (A := cs R) (at_ + k)
        rw [← hx, ← hy] at hmore
        have HPk := HP.out k (by omega) wr hbr
        rw [← hx] at HPk
        replace HPk := Lib.hid HPk
        have hxm : x ≠ 0 → at_ + k < m := by
          intro h0
          rcases Nat.lt_or_ge (at_ + k) m with h | h
          · exact h
          · exact absurd (hx.trans (chAt_ge (by rw [HA.out]; exact h))) h0
        replace hx := Lib.hid hx
        go_wp2_with fail
        refine HPk.out.mono ?_
        rintro e w4 ⟨rfl, kk, hkk⟩
        obtain ⟨qw4, hqw4⟩ : ∃ q, w4 = w.drewN q := ⟨_, by rw [hkk, hq.out, drewN_add]⟩
        have hbw4 : Below w.heap.size w w4 := by rw [hqw4]; exact drewN_below w _
        replace hqw4 := Lib.hid hqw4
        clear hkk
        have HPk1 := HP.out (k + 1) (by omega) w4 hbw4
        rw [show at_ + (k + 1) = at_ + k + 1 by omega, ← hy, show ((k + 1 : Nat) : Int) = (k : Int) + 1 by omega] at HPk1
        replace HPk1 := Lib.hid HPk1
        replace hy := Lib.hid hy
        go_wp2_with fail
        refine HPk1.out.mono ?_
        rintro e w5 ⟨rfl, kk, hkk⟩
        obtain ⟨qw5, hqw5⟩ : ∃ q, w5 = w.drewN q := ⟨_, by rw [hkk, hqw4.out, drewN_add]⟩
        have hbw5 : Below w.heap.size w w5 := by rw [hqw5]; exact drewN_below w _
        replace hqw5 := Lib.hid hqw5
        clear hkk
        have HI := Tryz.strings_IndexByte ⟨#[101, 69, 112, 80]⟩ (x.toNat : Int) w5
        obtain ⟨ix, hix⟩ : ∃ ix, ix = Lib.indexByte [101, 69, 112, 80] x := ⟨_, rfl⟩
        rw [show ((x.toNat : Int).toNat.toUInt8) = x by simp, show (⟨#[101, 69, 112, 80]⟩ : ByteArray).data.toList = [101, 69, 112, 80] from rfl, ← hix] at HI
        have hie := idx_expB x
        rw [← hix] at hie
        replace HI := Lib.hid HI
        replace hix := Lib.hid hix
        go_wp2_with fail
        refine HI.out.mono ?_
        rintro e w6 ⟨rfl, hw6⟩
        replace hw6 := hw6.symm
        subst hw6
        by_cases hix0 : 0 ≤ ix
        · have hxe : x = 101 ∨ x = 69 ∨ x = 112 ∨ x = 80 := by
            have := hie
            rw [decide_eq_true hix0] at this
            exact of_decide_eq_true this.symm
          have hx0 : at_ + k < m := hxm (by rcases hxe with h | h | h | h <;> rw [h] <;> decide)
          by_cases hs : y = 43 ∨ y = 45
          · have hxt : expB x y = true := decide_eq_true ⟨hxe, hs⟩
            have hN2 : Hid (N = (k + 2) + numRun ((cs R).drop (at_ + (k + 2)))) := Lib.hid (by rw [HT.out, hmore, hxt, if_pos rfl, show at_ + (k + 2) = at_ + k + 2 by omega]; omega)
            replace hie := Lib.hid hie
            replace hxe := Lib.hid hxe
            replace hxt := Lib.hid hxt
            replace hmore := Lib.hid hmore
            rcases hs with hs | hs
            · have b43 : ((y.toNat : Int) == 43) = true := by rw [hs]; rfl
              replace hs := Lib.hid hs
              go_wp2_with fail
              go_roundg (m + 20 - (at_ + (k + 2)))
              case measure => omega
              case rel => exact ⟨k + 2, rfl, by omega, by go_num, ⟨qw5, hqw5.out⟩, hN2⟩
            · have b43 : ((y.toNat : Int) == 43) = false := by rw [hs]; rfl
              have b45 : ((y.toNat : Int) == 45) = true := by rw [hs]; rfl
              replace hs := Lib.hid hs
              go_wp2_with fail
              go_roundg (m + 20 - (at_ + (k + 2)))
              case measure => omega
              case rel => exact ⟨k + 2, rfl, by omega, by go_num, ⟨qw5, hqw5.out⟩, hN2⟩
          · have hxf : expB x y = false := decide_eq_false (fun h => hs h.2)
            have b43 : ((y.toNat : Int) == 43) = false := beq_false_of_ne (fun e => hs (.inl ((u8eq _ _).2 e)))
            have b45 : ((y.toNat : Int) == 45) = false := beq_false_of_ne (fun e => hs (.inr ((u8eq _ _).2 e)))
            replace hie := Lib.hid hie
            replace hxe := Lib.hid hxe
            replace hs := Lib.hid hs
            have hN1 : Hid (N = if numB x then k + (numRun ((cs R).drop (at_ + k + 1)) + 1) else k) := Lib.hid (by rw [HT.out, hmore, hxf]; cases numB x <;> rfl)
            replace hmore := Lib.hid hmore
            replace hxf := Lib.hid hxf
            go_wp2_with fail
            refine (pletter_any x w5).mono ?_
            rintro e w7 ⟨rfl, hw7⟩
            replace hw7 := hw7.symm
            subst hw7
            obtain ⟨lb, hlb⟩ : ∃ lb, lb = letterB x := ⟨_, rfl⟩
            obtain ⟨db, hdb⟩ : ∃ db, db = digitB x := ⟨_, rfl⟩
            have hNB : numB x = (lb || db || decide (x = 46)) := by rw [hlb, hdb]; rfl
            have HD := pdigit_any x w5
            rw [← hlb]
            rw [← hdb] at HD
            replace HD := Lib.hid HD
            cases lb with
            | true =>
              have hN2 : Hid (N = (k + 1) + numRun ((cs R).drop (at_ + (k + 1)))) := Lib.hid (by rw [hN1.out, hNB, show at_ + (k + 1) = at_ + k + 1 by omega]; simp; omega)
              have hx0 : at_ + k < m := hxm (by intro e; rw [e] at hlb; exact absurd hlb (by decide))
              replace hlb := Lib.hid hlb
              replace hdb := Lib.hid hdb
              replace hNB := Lib.hid hNB
              go_wp2_with fail
              go_roundg (m + 20 - (at_ + (k + 1)))
              case measure => omega
              case rel => exact ⟨k + 1, rfl, by omega, by go_num, ⟨qw5, hqw5.out⟩, hN2⟩
            | false =>
              replace hlb := Lib.hid hlb
              go_wp2_with fail
              refine HD.out.mono ?_
              rintro e w8 ⟨rfl, hw8⟩
              replace hw8 := hw8.symm
              subst hw8
              cases db with
              | true =>
                have hN2 : Hid (N = (k + 1) + numRun ((cs R).drop (at_ + (k + 1)))) := Lib.hid (by rw [hN1.out, hNB, show at_ + (k + 1) = at_ + k + 1 by omega]; simp; omega)
                have hx0 : at_ + k < m := hxm (by intro e; rw [e] at hdb; exact absurd hdb (by decide))
                replace hdb := Lib.hid hdb
                replace hNB := Lib.hid hNB
                go_wp2_with fail
                go_roundg (m + 20 - (at_ + (k + 1)))
                case measure => omega
                case rel => exact ⟨k + 1, rfl, by omega, by go_num, ⟨qw5, hqw5.out⟩, hN2⟩
              | false =>
                replace hdb := Lib.hid hdb
                by_cases h46 : x = 46
                · have b46 : ((x.toNat : Int) == 46) = true := by rw [h46]; rfl
                  have hN2 : Hid (N = (k + 1) + numRun ((cs R).drop (at_ + (k + 1)))) := Lib.hid (by rw [hN1.out, hNB, h46, show at_ + (k + 1) = at_ + k + 1 by omega]; simp; omega)
                  have hx0 : at_ + k < m := hxm (by rw [h46]; decide)
                  replace h46 := Lib.hid h46
                  replace hNB := Lib.hid hNB
                  go_wp2_with fail
                  go_roundg (m + 20 - (at_ + (k + 1)))
                  case measure => omega
                  case rel => exact ⟨k + 1, rfl, by omega, by go_num, ⟨qw5, hqw5.out⟩, hN2⟩
                · have b46 : ((x.toNat : Int) == 46) = false := beq_false_of_ne (fun e => h46 ((u8eq _ _).2 e))
                  have hN2 : Hid (N = k) := Lib.hid (by rw [hN1.out, hNB]; simp [h46])
                  replace h46 := Lib.hid h46
                  replace hNB := Lib.hid hNB
                  go_wp2
                  go_ret
                  exact HPost.out _ _ (by rw [hN2.out]; rfl) ⟨qw5, hqw5.out⟩
        · have hxne : ¬ (x = 101 ∨ x = 69 ∨ x = 112 ∨ x = 80) := by
            have := hie
            rw [decide_eq_false hix0] at this
            exact of_decide_eq_false this.symm
          have hxf : expB x y = false := decide_eq_false (fun h => hxne h.1)
          replace hie := Lib.hid hie
          replace hxne := Lib.hid hxne
          have hN1 : Hid (N = if numB x then k + (numRun ((cs R).drop (at_ + k + 1)) + 1) else k) := Lib.hid (by rw [HT.out, hmore, hxf]; cases numB x <;> rfl)
          replace hmore := Lib.hid hmore
          replace hxf := Lib.hid hxf
          go_wp2_with fail
          refine (pletter_any x w5).mono ?_
          rintro e w7 ⟨rfl, hw7⟩
          replace hw7 := hw7.symm
          subst hw7
          obtain ⟨lb, hlb⟩ : ∃ lb, lb = letterB x := ⟨_, rfl⟩
          obtain ⟨db, hdb⟩ : ∃ db, db = digitB x := ⟨_, rfl⟩
          have hNB : numB x = (lb || db || decide (x = 46)) := by rw [hlb, hdb]; rfl
          have HD := pdigit_any x w5
          rw [← hlb]
          rw [← hdb] at HD
          replace HD := Lib.hid HD
          cases lb with
          | true =>
            have hN2 : Hid (N = (k + 1) + numRun ((cs R).drop (at_ + (k + 1)))) := Lib.hid (by rw [hN1.out, hNB, show at_ + (k + 1) = at_ + k + 1 by omega]; simp; omega)
            have hx0 : at_ + k < m := hxm (by intro e; rw [e] at hlb; exact absurd hlb (by decide))
            replace hlb := Lib.hid hlb
            replace hdb := Lib.hid hdb
            replace hNB := Lib.hid hNB
            go_wp2_with fail
            go_roundg (m + 20 - (at_ + (k + 1)))
            case measure => omega
            case rel => exact ⟨k + 1, rfl, by omega, by go_num, ⟨qw5, hqw5.out⟩, hN2⟩
          | false =>
            replace hlb := Lib.hid hlb
            go_wp2_with fail
            refine HD.out.mono ?_
            rintro e w8 ⟨rfl, hw8⟩
            replace hw8 := hw8.symm
            subst hw8
            cases db with
            | true =>
              have hN2 : Hid (N = (k + 1) + numRun ((cs R).drop (at_ + (k + 1)))) := Lib.hid (by rw [hN1.out, hNB, show at_ + (k + 1) = at_ + k + 1 by omega]; simp; omega)
              have hx0 : at_ + k < m := hxm (by intro e; rw [e] at hdb; exact absurd hdb (by decide))
              replace hdb := Lib.hid hdb
              replace hNB := Lib.hid hNB
              go_wp2_with fail
              go_roundg (m + 20 - (at_ + (k + 1)))
              case measure => omega
              case rel => exact ⟨k + 1, rfl, by omega, by go_num, ⟨qw5, hqw5.out⟩, hN2⟩
            | false =>
              replace hdb := Lib.hid hdb
              by_cases h46 : x = 46
              · have b46 : ((x.toNat : Int) == 46) = true := by rw [h46]; rfl
                have hN2 : Hid (N = (k + 1) + numRun ((cs R).drop (at_ + (k + 1)))) := Lib.hid (by rw [hN1.out, hNB, h46, show at_ + (k + 1) = at_ + k + 1 by omega]; simp; omega)
                have hx0 : at_ + k < m := hxm (by rw [h46]; decide)
                replace h46 := Lib.hid h46
                replace hNB := Lib.hid hNB
                go_wp2_with fail
                go_roundg (m + 20 - (at_ + (k + 1)))
                case measure => omega
                case rel => exact ⟨k + 1, rfl, by omega, by go_num, ⟨qw5, hqw5.out⟩, hN2⟩
              · have b46 : ((x.toNat : Int) == 46) = false := beq_false_of_ne (fun e => h46 ((u8eq _ _).2 e))
                have hN2 : Hid (N = k) := Lib.hid (by rw [hN1.out, hNB]; simp [h46])
                replace h46 := Lib.hid h46
                replace hNB := Lib.hid hNB
                go_wp2
                go_ret
                exact HPost.out _ _ (by rw [hN2.out]; rfl) ⟨qw5, hqw5.out⟩
end Go.Proofs.YtfaoamdlknlgpaaGreat

/- lex's punct. -/
namespace Go.Proofs.YtfaoamdlknlgpaaGreat
open Go.RowKit
set_option linter.unusedVariables false

def words29 : List (List UInt8) := [[37, 58, 37, 58], [46, 46, 46], [60, 60, 61], [62, 62, 61], [45, 62], [43, 43], [45, 45], [60, 60], [62, 62], [60, 61], [62, 61], [61, 61], [33, 61], [38, 38], [124, 124], [42, 61], [47, 61], [37, 61], [43, 61], [45, 61], [38, 61], [94, 61], [124, 61], [35, 35], [60, 58], [58, 62], [60, 37], [37, 62], [37, 58]]
def signs25 : List UInt8 := [91, 93, 40, 41, 123, 125, 46, 38, 42, 43, 45, 126, 33, 47, 37, 60, 62, 94, 124, 63, 58, 59, 61, 44, 35]
def signB (c : UInt8) : Nat := if c ∈ signs25 then 1 else 0
def punFrom29 (A : List UInt8) (i k : Nat) : Nat := match (words29.drop k).find? (hasL A i) with | some p => p.length | none => signB (chAt A i)

theorem hasL_prefix {A : List UInt8} {i : Nat} {p : List UInt8} (hp : p ≠ []) : hasL A i p = p.isPrefixOf (A.drop i) := by
  have hpos : 0 < p.length := List.length_pos_iff.2 hp
  rw [Bool.eq_iff_iff, List.isPrefixOf_iff_prefix, List.prefix_iff_getElem?]
  unfold hasL
  simp only [Bool.and_eq_true, decide_eq_true_eq, List.all_eq_true, List.mem_range, beq_iff_eq, List.getElem?_drop]
  constructor
  · rintro ⟨h1, h2⟩ j hj
    have := h2 j hj
    rw [List.getElem?_eq_getElem (by omega)]
    unfold chAt at this
    rw [List.getD_eq_getElem?_getD, List.getElem?_eq_getElem (by omega), List.getD_eq_getElem?_getD, List.getElem?_eq_getElem hj] at this
    simp only [Option.getD_some] at this
    rw [this]
  · intro h
    refine ⟨?_, fun j hj => ?_⟩
    · have := (List.getElem?_eq_some_iff.1 (h (p.length - 1) (by omega))).1
      omega
    · rw [chAt_lt (h j hj), List.getD_eq_getElem?_getD, List.getElem?_eq_getElem hj]
      rfl

theorem find_signs (A : List UInt8) (i : Nat) : ∀ l : List UInt8, (∀ c ∈ l, c ≠ 0) → ((((l.map fun c => [c]).find? fun p => p.isPrefixOf (A.drop i)).map List.length).getD 0) = if chAt A i ∈ l then 1 else 0
  | [], _ => by simp
  | c :: l, h => by
    rw [List.map_cons, List.find?_cons, ← hasL_prefix (by simp), hasL1 (h c (by simp))]
    by_cases hc : chAt A i = c
    · simp [hc]
    · simp only [List.mem_cons, hc, false_or]
      exact find_signs A i l (fun c hc => h c (List.mem_cons_of_mem _ hc))

theorem pun_all (A : List UInt8) (i : Nat) : punFrom29 A i 0 = punctL A i := by
  unfold punFrom29 punctL
  have e : punctsL = words29 ++ signs25.map (fun c => [c]) := rfl
  rw [e, List.find?_append, List.drop_zero]
  have hw : words29.find? (hasL A i) = words29.find? (fun p => p.isPrefixOf (A.drop i)) := by
    have : ∀ l : List (List UInt8), (∀ p ∈ l, p ≠ []) → l.find? (hasL A i) = l.find? (fun p => p.isPrefixOf (A.drop i)) := by
      intro l
      induction l with
      | nil => intro _; rfl
      | cons p l ih =>
        intro h
        rw [List.find?_cons, List.find?_cons, hasL_prefix (h p (by simp)), ih (fun p hp => h p (by simp [hp]))]
    exact this _ (by decide)
  rw [hw]
  cases h : words29.find? (fun p => p.isPrefixOf (A.drop i)) with
  | some p => rfl
  | none =>
    have := find_signs A i signs25 (by decide)
    simp only [Option.none_or]
    rw [this]
    rfl

theorem pun_step {A : List UInt8} {i k : Nat} {s : List UInt8} (h : words29[k]? = some s) : punFrom29 A i k = if hasL A i s then s.length else punFrom29 A i (k + 1) := by
  unfold punFrom29
  rw [List.drop_eq_getElem_cons (List.getElem?_eq_some_iff.1 h).1, (List.getElem?_eq_some_iff.1 h).2, List.find?_cons]
  cases hasL A i s <;> rfl

theorem idx_signB (c : UInt8) : decide (0 ≤ Lib.indexByte signs25 c) = decide (c ∈ signs25) := by
  have := idx_sign ⟨c.toNat, c.toNat_lt⟩
  simp only [UInt8.ofNat_toNat] at this
  exact this

def PunPost (A : List UInt8) (i : Nat) (w : World) (e : Ending) (w' : World) : Prop := e = .returned (.int .i64 (punctL A i)) ∧ Below w.heap.size w w'

set_option maxHeartbeats 2000000 in
set_option maxRecDepth 100000 in
theorem ppunct_any (b : Nat) (R : List Rn) (lo : Option Addr) (cap at_ : Nat) (hl : R.length ≤ 1000001) (ha : at_ ≤ R.length) (w : World) (h : WkAt w b R lo cap at_) :
    Calls Tryz.prog 109 #[.pointer (some ⟨b, 0, none⟩)] w fun e w' => PunPost (cs R) at_ w e w' := by
  have HP := fun (w' : World) (hb : Below w.heap.size w w') => peek_any b R lo cap at_ 0 (by omega) w' (h.below hb)
  have HH := fun (s : ByteArray) (hs : s.size ≤ 10) (w' : World) (hb : Below w.heap.size w w') => has_any b R lo cap at_ s hs w' (h.below hb)
  obtain ⟨P, hP⟩ : ∃ P, P = punctL (cs R) at_ := ⟨_, rfl⟩
  obtain ⟨c, hc⟩ : ∃ c, c = chAt (cs R) at_ := ⟨_, rfl⟩
  have HE : Hid (P = punFrom29 (cs R) at_ 0) := Lib.hid (by rw [hP]; exact (pun_all (cs R) at_).symm)
  have HPost : Hid (∀ e w', e = .returned (.int .i64 P) → Below w.heap.size w w' → PunPost (cs R) at_ w e w') := Lib.hid (by
    intro e w' he hb
    subst he
    exact ⟨by rw [hP], hb⟩)
  rw [Nat.add_zero, ← hc] at HP
  replace HP := Lib.hid HP
  replace HH := Lib.hid HH
  replace hP := Lib.hid hP
  clear h
  go_enter Tryz.func109, Tryz.ntmps109
  go_wp2_with fail
  obtain ⟨W1, hW1⟩ : ∃ W1, W1 = w.alloc (.cells (words29.map fun p => Value.string (bs p)).toArray 9) := ⟨_, rfl⟩
  have hB1 : Below w.heap.size w W1 := by rw [hW1]; exact (Below.refl _ w).alloc (Nat.le_refl _) _
  have hg : W1.heap[w.heap.size]? = some (.cells (words29.map fun p => Value.string (bs p)).toArray 9 (0, 0)) := by rw [hW1]; exact heap_alloc_new w _
  have HC : Hid (∀ k s, words29[k]? = some s → ∀ w', Below W1.heap.size W1 w' → w'.cell? ⟨w.heap.size, k, none⟩ = some (.string (bs s))) := Lib.hid (by
    intro k s hk w' hb
    refine kept_cell hb ?_
    rw [Lib.cell_of_heap hg k]
    simp [hk])
  go_loopg [10] 29 (fun u v wr => ∃ k : Nat, u = 29 - k ∧ k ≤ 29 ∧ v = .int .i64 k ∧ Below W1.heap.size W1 wr ∧ Hid (P = punFrom29 (cs R) at_ k))
  case atStart => exact ⟨0, rfl, by omega, rfl, by rw [hW1]; exact Below.refl _ _, HE⟩
  case round =>
    obtain ⟨k, rfl, hk, rfl, hbr, HT⟩ := hrel
    by_cases hlt : k < 29
    · obtain ⟨s, hs⟩ : ∃ s, words29[k]? = some s := ⟨words29[k]'hlt, List.getElem?_eq_getElem hlt⟩
      have hs4 : s.length ≤ 4 := (show ∀ s ∈ words29, s.length ≤ 4 by decide) s (List.mem_of_getElem? hs)
      have hst := pun_step (A := cs R) (i := at_) hs
      obtain ⟨sb, hsb⟩ : ∃ sb, sb = bs s := ⟨_, rfl⟩
      have hsz : sb.size = s.length := by rw [hsb]; rfl
      have hsd : sb.data.toList = s := by rw [hsb]
      have c0 := HC.out k s hs wr hbr
      rw [← hsb] at c0
      have hbw : Below w.heap.size w wr := hB1.trans (hbr.mono hB1.size)
      obtain ⟨y, hy⟩ : ∃ y, y = hasL (cs R) at_ s := ⟨_, rfl⟩
      have HHk := HH.out sb (by omega) wr hbw
      rw [hsd, ← hy] at HHk
      rw [← hy, ← hsz] at hst
      replace HHk := Lib.hid HHk
      replace hs := Lib.hid hs
      replace hst := Lib.hid hst
      replace hsb := Lib.hid hsb
      replace hsd := Lib.hid hsd
      replace hsz := Lib.hid hsz
      replace hy := Lib.hid hy
      replace hc := Lib.hid hc
      go_wp2_with fail
      refine HHk.out.mono ?_
      rintro e w6 ⟨rfl, k6, hw6⟩
      have hb6 : Below wr.heap.size wr w6 := by rw [hw6]; exact drewN_below _ _
      replace hw6 := Lib.hid hw6
      have hbr6 : Below W1.heap.size W1 w6 := hbr.trans (hb6.mono hbr.size)
      have hbw6 : Below w.heap.size w w6 := hB1.trans (hbr6.mono hB1.size)
      cases y with
      | true =>
        have hres : Hid (P = sb.size) := Lib.hid (by rw [HT.out, hst.out, if_pos rfl])
        go_wp2
        go_ret
        exact HPost.out _ _ (by rw [hres.out]; rfl) hbw6
      | false =>
        have HT2 : Hid (P = punFrom29 (cs R) at_ (k + 1)) := Lib.hid (by rw [HT.out, hst.out, if_neg (by decide)])
        go_wp2_with fail
        go_roundg (29 - (k + 1))
        case measure => omega
        case rel => exact ⟨k + 1, rfl, by omega, by go_num, hbr6, HT2⟩
    · have hk29 : k = 29 := by omega
      have hres : Hid (P = signB c) := Lib.hid (by rw [HT.out, hk29, hc]; rfl)
      have hbw : Below w.heap.size w wr := hB1.trans (hbr.mono hB1.size)
      replace hk29 := Lib.hid hk29
      have HPr := HP.out wr hbw
      replace HPr := Lib.hid HPr
      replace hc := Lib.hid hc
      go_wp2_with fail
      refine HPr.out.mono ?_
      rintro e w5 ⟨rfl, k5, hw5⟩
      have hb5 : Below w.heap.size w w5 := by rw [hw5]; exact below_drewN hbw k5
      replace hw5 := Lib.hid hw5
      have HI := Tryz.strings_IndexByte ⟨#[91, 93, 40, 41, 123, 125, 46, 38, 42, 43, 45, 126, 33, 47, 37, 60, 62, 94, 124, 63, 58, 59, 61, 44, 35]⟩ (c.toNat : Int) w5
      obtain ⟨ix, hix⟩ : ∃ ix, ix = Lib.indexByte signs25 c := ⟨_, rfl⟩
      rw [show ((c.toNat : Int).toNat.toUInt8) = c by simp, show (⟨#[91, 93, 40, 41, 123, 125, 46, 38, 42, 43, 45, 126, 33, 47, 37, 60, 62, 94, 124, 63, 58, 59, 61, 44, 35]⟩ : ByteArray).data.toList = signs25 from rfl, ← hix] at HI
      have hie := idx_signB c
      rw [← hix] at hie
      replace HI := Lib.hid HI
      replace hix := Lib.hid hix
      by_cases h0 : c = 0
      · have b0 : c.toNat = 0 := by rw [h0]; rfl
        have hres2 : Hid (P = 0) := Lib.hid (by rw [hres.out, h0]; decide)
        replace h0 := Lib.hid h0
        replace hie := Lib.hid hie
        go_wp2
        go_ret
        exact HPost.out _ _ (by rw [hres2.out]; rfl) hb5
      · have b0 : ¬ (c.toNat : Int) = 0 := fun e => h0 (UInt8.toNat_inj.1 (by simpa using e))
        have b1 : ((c.toNat : Int) == 0) = false := beq_false_of_ne b0
        replace h0 := Lib.hid h0
        by_cases hix0 : 0 ≤ ix
        · have hres2 : Hid (P = 1) := Lib.hid (by
            rw [decide_eq_true hix0] at hie
            rw [hres.out]
            unfold signB
            rw [if_pos (of_decide_eq_true hie.symm)])
          replace hie := Lib.hid hie
          go_wp2_with fail
          refine HI.out.mono ?_
          rintro e w6 ⟨rfl, hw6⟩
          replace hw6 := hw6.symm
          subst hw6
          go_wp2
          go_ret
          exact HPost.out _ _ (by rw [hres2.out]; rfl) hb5
        · have hres2 : Hid (P = 0) := Lib.hid (by
            rw [decide_eq_false hix0] at hie
            rw [hres.out]
            unfold signB
            rw [if_neg (of_decide_eq_false hie.symm)])
          replace hie := Lib.hid hie
          go_wp2_with fail
          refine HI.out.mono ?_
          rintro e w6 ⟨rfl, hw6⟩
          replace hw6 := hw6.symm
          subst hw6
          go_wp2
          go_ret
          exact HPost.out _ _ (by rw [hres2.out]; rfl) hb5
end Go.Proofs.YtfaoamdlknlgpaaGreat
