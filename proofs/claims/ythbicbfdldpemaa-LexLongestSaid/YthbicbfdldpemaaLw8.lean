/- lex's number. -/
import Derived.Test.YthbicbfdldpemaaLw6
import Derived.Deep.Cut
import Derived.Deep.CutRange
namespace Go.Proofs.Ythbicbfdldpemaa
open Go.RowKit
set_option linter.unusedVariables false

theorem idx_exp : ∀ n : Fin 256, decide (0 ≤ Lib.indexByte [101, 69, 112, 80] (UInt8.ofNat n.val)) = decide (UInt8.ofNat n.val = 101 ∨ UInt8.ofNat n.val = 69 ∨ UInt8.ofNat n.val = 112 ∨ UInt8.ofNat n.val = 80) := by decide +kernel

theorem idx_expB (c : UInt8) : decide (0 ≤ Lib.indexByte [101, 69, 112, 80] c) = decide (c = 101 ∨ c = 69 ∨ c = 112 ∨ c = 80) := by
  have := idx_exp ⟨c.toNat, c.toNat_lt⟩
  simpa using this

theorem idx_sign : ∀ n : Fin 256, decide (0 ≤ Lib.indexByte [91, 93, 40, 41, 123, 125, 46, 38, 42, 43, 45, 126, 33, 47, 37, 60, 62, 94, 124, 63, 58, 59, 61, 44, 35] (UInt8.ofNat n.val)) = decide (UInt8.ofNat n.val ∈ [91, 93, 40, 41, 123, 125, 46, 38, 42, 43, 45, 126, 33, 47, 37, 60, 62, 94, 124, 63, 58, 59, 61, 44, (35 : UInt8)]) := by decide +kernel

/-- what number gives -/
def pnumL (A : List UInt8) (i : Nat) : Nat := numL A i - i
def NumPost (A : List UInt8) (i : Nat) (w : World) (e : Ending) (w' : World) : Prop := e = .returned (.int .i64 (pnumL A i)) ∧ ∃ q, w' = w.drewN q

theorem num_more {A : List UInt8} (j : Nat) : numRun (A.drop j) = if expB (chAt A j) (chAt A (j + 1)) then numRun (A.drop (j + 2)) + 2 else if numB (chAt A j) then numRun (A.drop (j + 1)) + 1 else 0 := by
  by_cases h : j < A.length
  · exact num_step h
  · rw [num_end (by omega), chAt_ge (by omega : A.length ≤ j)]
    have h1 : expB 0 (chAt A (j + 1)) = false := by simp [expB]
    have h2 : numB 0 = false := by decide
    rw [h1, h2]
    rfl

theorem numB_beyond {A : List UInt8} {j : Nat} (h : A.length ≤ j) : numB (chAt A j) = false := by rw [chAt_ge h]; decide
theorem expB_beyond {A : List UInt8} {j : Nat} (h : A.length ≤ j) (d : UInt8) : expB (chAt A j) d = false := by rw [chAt_ge h]; simp [expB]

set_option maxHeartbeats 2000000 in
set_option maxRecDepth 100000 in
theorem number_any (b : Nat) (R : List Rn) (lo : Option Addr) (cap at_ : Nat) (hl : R.length ≤ 1000001) (ha : at_ ≤ R.length) (w : World) (h : WkAt w b R lo cap at_) :
    Calls Try.prog 102 #[.pointer (some ⟨b, 0, none⟩)] w fun e w' => NumPost (cs R) at_ w e w' := by
  have HP := fun (k : Nat) (hk : k ≤ 4000000) (w' : World) (hb : Below w.heap.size w w') => peek_any b R lo cap at_ k hk w' (h.below hb)
  obtain ⟨m, hm⟩ : ∃ m, m = R.length := ⟨_, rfl⟩
  have HA : Hid ((cs R).length = m) := Lib.hid (by rw [cs_len, hm])
  rw [← hm] at hl ha
  replace HP := Lib.hid HP
  clear hm h
  obtain ⟨N, hN⟩ : ∃ N, N = pnumL (cs R) at_ := ⟨_, rfl⟩
  obtain ⟨c0, hc0⟩ : ∃ c, c = chAt (cs R) at_ := ⟨_, rfl⟩
  obtain ⟨c1, hc1⟩ : ∃ c, c = chAt (cs R) (at_ + 1) := ⟨_, rfl⟩
  have hq0 : w = w.drewN 0 := rfl
  have HP0 := HP.out 0 (by omega) w (Below.refl _ _)
  rw [Nat.add_zero, ← hc0] at HP0
  have HPost : Hid (∀ e w', e = .returned (.int .i64 N) → (∃ q, w' = w.drewN q) → NumPost (cs R) at_ w e w') := Lib.hid (by
    intro e w' he hq
    subst he
    exact ⟨by rw [hN], hq⟩)
  unfold pnumL numL at hN
  rw [← hc0, ← hc1] at hN
  replace HP0 := Lib.hid HP0
  replace hN := Lib.hid hN
  replace hq0 := Lib.hid hq0
  go_enter Try.func102, Try.ntmps102
  go_wp2_with fail
  refine HP0.out.mono ?_
  rintro e w1 ⟨rfl, q1, hq1⟩
  have hb1 : Below w.heap.size w w1 := by rw [hq1]; exact drewN_below w _
  replace hq1 := Lib.hid hq1
  obtain ⟨n0, hn0⟩ : ∃ n0 : Nat, n0 = if c0 = 46 then 1 else 0 := ⟨_, rfl⟩
  have hn01 : n0 ≤ 1 := by rw [hn0]; split <;> omega
  obtain ⟨c, hc⟩ : ∃ c, c = chAt (cs R) (at_ + n0) := ⟨_, rfl⟩
  have hNd : Hid (N = if digitB c then n0 + 1 + numRun ((cs R).drop (at_ + (n0 + 1))) else 0) := Lib.hid (by
    rw [hN.out, hc, hn0]
    by_cases h46 : c0 = 46
    · have hd0 : digitB c0 = false := by rw [h46]; decide
      have h1 := num_more (A := cs R) (at_ + 1)
      rw [← hc1] at h1
      rw [if_pos h46, ← hc1]
      by_cases hd : digitB c1 = true
      · have hx : expB c1 (chAt (cs R) (at_ + 1 + 1)) = false := by
          unfold expB
          apply decide_eq_false
          rintro ⟨h, _⟩
          rcases h with h | h | h | h <;> rw [h] at hd <;> exact absurd hd (by decide)
        have hnB : numB c1 = true := by unfold numB; rw [hd]; simp
        rw [if_pos (.inr ⟨h46, hd⟩), if_pos hd, h1, hx, if_neg (by simp), if_pos hnB]
        rw [show at_ + (1 + 1) = at_ + 1 + 1 by omega]
        omega
      · rw [if_neg (by simp [hd0, hd]), if_neg hd]
        omega
    · rw [if_neg h46, show at_ + 0 = at_ from rfl, ← hc0]
      by_cases hd : digitB c0 = true
      · rw [if_pos (.inl hd), if_pos hd, Nat.zero_add]
        omega
      · rw [if_neg (by simp [hd, h46]), if_neg hd]
        omega)
  replace hn0 := Lib.hid hn0
  have HPn := HP.out n0 (by omega) w1 hb1
  rw [← hc] at HPn
  replace HPn := Lib.hid HPn
  replace hc := Lib.hid hc
  replace hc0 := Lib.hid hc0
  replace hc1 := Lib.hid hc1
  go_upto_if 8 with fail
  go_cut [3] from 9 to 10 (fun s wx => s = .int .i64 n0 ∧ wx = w1)
  case first =>
    by_cases h46 : c0 = 46
    · have b46 : ((c0.toNat : Int) == 46) = true := by rw [h46]; rfl
      have hn00 : Hid (n0 = 1) := Lib.hid (by rw [hn0.out, if_pos h46])
      replace h46 := Lib.hid h46
      go_wp2_with fail
      go_meet
      case rel => exact ⟨by rw [hn00.out]; rfl, rfl⟩
    · have b46 : ((c0.toNat : Int) == 46) = false := beq_false_of_ne (fun e => h46 ((u8eq _ _).2 e))
      have hn00 : Hid (n0 = 0) := Lib.hid (by rw [hn0.out, if_neg h46])
      replace h46 := Lib.hid h46
      go_wp2_with fail
      go_meet
      case rel => exact ⟨by rw [hn00.out]; rfl, rfl⟩
  case rest =>
    obtain ⟨rfl, hwc⟩ := hcut
    subst hwc
    go_wp2_with fail
    refine HPn.out.mono ?_
    rintro e w2 ⟨rfl, k2, hk2⟩
    obtain ⟨q2, hq2⟩ : ∃ q2, w2 = w.drewN q2 := ⟨_, by rw [hk2, hq1.out, drewN_add]⟩
    have hb2 : Below w.heap.size w w2 := by rw [hq2]; exact drewN_below w _
    replace hq2 := Lib.hid hq2
    clear hk2
    go_wp2_with fail
    refine (pdigit_any c w2).mono ?_
    rintro e w3 ⟨rfl, hw3⟩
    replace hw3 := hw3.symm
    subst hw3
    cases hd : digitB c with
    | false =>
      rw [hd] at hNd
      have hN0 : Hid (N = 0) := Lib.hid (by rw [hNd.out]; rfl)
      replace hd := Lib.hid hd
      go_wp2
      go_ret
      exact HPost.out _ _ (by rw [hN0.out]; rfl) ⟨q2, hq2.out⟩
    | true =>
      rw [hd] at hNd
      replace hd := Lib.hid hd
      go_wp2_with fail
      go_loopg [3] (m + 20 - (at_ + (n0 + 1))) (fun u v wr => ∃ k : Nat, u = m + 20 - (at_ + k) ∧ at_ + k ≤ m + 10 ∧ v = .int .i64 k ∧ (∃ q, wr = w.drewN q) ∧ Hid (N = k + numRun ((cs R).drop (at_ + k))))
      case atStart => exact ⟨n0 + 1, rfl, by omega, by go_num, ⟨q2, hq2.out⟩, Lib.hid (by rw [hNd.out]; rfl)⟩
      case round =>
        obtain ⟨k, rfl, hk, rfl, ⟨q, hq⟩, HT⟩ := hrel
        have hbr : Below w.heap.size w wr := by rw [hq]; exact drewN_below w q
        replace hq := Lib.hid hq
        obtain ⟨x, hx⟩ : ∃ x, x = chAt (cs R) (at_ + k) := ⟨_, rfl⟩
        obtain ⟨y, hy⟩ : ∃ y, y = chAt (cs R) (at_ + k + 1) := ⟨_, rfl⟩
        have hmore := num_more (A := cs R) (at_ + k)
        rw [← hx, ← hy] at hmore
        have HPk := HP.out k (by omega) wr hbr
        rw [← hx] at HPk
        replace HPk := Lib.hid HPk
        have hxm : x ≠ 0 → at_ + k < m := by
          intro h0
          rcases Nat.lt_or_ge (at_ + k) m with h | h
          · exact h
          · exact absurd (hx.trans (chAt_ge (by rw [HA.out]; exact h))) h0
        replace hx := Lib.hid hx
        go_wp2_with fail
        refine HPk.out.mono ?_
        rintro e w4 ⟨rfl, kk, hkk⟩
        obtain ⟨qw4, hqw4⟩ : ∃ q, w4 = w.drewN q := ⟨_, by rw [hkk, hq.out, drewN_add]⟩
        have hbw4 : Below w.heap.size w w4 := by rw [hqw4]; exact drewN_below w _
        replace hqw4 := Lib.hid hqw4
        clear hkk
        have HPk1 := HP.out (k + 1) (by omega) w4 hbw4
        rw [show at_ + (k + 1) = at_ + k + 1 by omega, ← hy, show ((k + 1 : Nat) : Int) = (k : Int) + 1 by omega] at HPk1
        replace HPk1 := Lib.hid HPk1
        replace hy := Lib.hid hy
        go_wp2_with fail
        refine HPk1.out.mono ?_
        rintro e w5 ⟨rfl, kk, hkk⟩
        obtain ⟨qw5, hqw5⟩ : ∃ q, w5 = w.drewN q := ⟨_, by rw [hkk, hqw4.out, drewN_add]⟩
        have hbw5 : Below w.heap.size w w5 := by rw [hqw5]; exact drewN_below w _
        replace hqw5 := Lib.hid hqw5
        clear hkk
        have HI := Try.strings_IndexByte ⟨#[101, 69, 112, 80]⟩ (x.toNat : Int) w5
        obtain ⟨ix, hix⟩ : ∃ ix, ix = Lib.indexByte [101, 69, 112, 80] x := ⟨_, rfl⟩
        rw [show ((x.toNat : Int).toNat.toUInt8) = x by simp, show (⟨#[101, 69, 112, 80]⟩ : ByteArray).data.toList = [101, 69, 112, 80] from rfl, ← hix] at HI
        have hie := idx_expB x
        rw [← hix] at hie
        replace HI := Lib.hid HI
        replace hix := Lib.hid hix
        go_wp2_with fail
        refine HI.out.mono ?_
        rintro e w6 ⟨rfl, hw6⟩
        replace hw6 := hw6.symm
        subst hw6
        by_cases hix0 : 0 ≤ ix
        · have hxe : x = 101 ∨ x = 69 ∨ x = 112 ∨ x = 80 := by
            have := hie
            rw [decide_eq_true hix0] at this
            exact of_decide_eq_true this.symm
          have hx0 : at_ + k < m := hxm (by rcases hxe with h | h | h | h <;> rw [h] <;> decide)
          by_cases hs : y = 43 ∨ y = 45
          · have hxt : expB x y = true := decide_eq_true ⟨hxe, hs⟩
            have hN2 : Hid (N = (k + 2) + numRun ((cs R).drop (at_ + (k + 2)))) := Lib.hid (by rw [HT.out, hmore, hxt, if_pos rfl, show at_ + (k + 2) = at_ + k + 2 by omega]; omega)
            replace hie := Lib.hid hie
            replace hxe := Lib.hid hxe
            replace hxt := Lib.hid hxt
            replace hmore := Lib.hid hmore
            rcases hs with hs | hs
            · have b43 : ((y.toNat : Int) == 43) = true := by rw [hs]; rfl
              replace hs := Lib.hid hs
              go_wp2_with fail
              go_roundg (m + 20 - (at_ + (k + 2)))
              case measure => omega
              case rel => exact ⟨k + 2, rfl, by omega, by go_num, ⟨qw5, hqw5.out⟩, hN2⟩
            · have b43 : ((y.toNat : Int) == 43) = false := by rw [hs]; rfl
              have b45 : ((y.toNat : Int) == 45) = true := by rw [hs]; rfl
              replace hs := Lib.hid hs
              go_wp2_with fail
              go_roundg (m + 20 - (at_ + (k + 2)))
              case measure => omega
              case rel => exact ⟨k + 2, rfl, by omega, by go_num, ⟨qw5, hqw5.out⟩, hN2⟩
          · have hxf : expB x y = false := decide_eq_false (fun h => hs h.2)
            have b43 : ((y.toNat : Int) == 43) = false := beq_false_of_ne (fun e => hs (.inl ((u8eq _ _).2 e)))
            have b45 : ((y.toNat : Int) == 45) = false := beq_false_of_ne (fun e => hs (.inr ((u8eq _ _).2 e)))
            replace hie := Lib.hid hie
            replace hxe := Lib.hid hxe
            replace hs := Lib.hid hs
            have hN1 : Hid (N = if numB x then k + (numRun ((cs R).drop (at_ + k + 1)) + 1) else k) := Lib.hid (by rw [HT.out, hmore, hxf]; cases numB x <;> rfl)
            replace hmore := Lib.hid hmore
            replace hxf := Lib.hid hxf
            go_wp2_with fail
            refine (pletter_any x w5).mono ?_
            rintro e w7 ⟨rfl, hw7⟩
            replace hw7 := hw7.symm
            subst hw7
            obtain ⟨lb, hlb⟩ : ∃ lb, lb = letterB x := ⟨_, rfl⟩
            obtain ⟨db, hdb⟩ : ∃ db, db = digitB x := ⟨_, rfl⟩
            have hNB : numB x = (lb || db || decide (x = 46)) := by rw [hlb, hdb]; rfl
            have HD := pdigit_any x w5
            rw [← hlb]
            rw [← hdb] at HD
            replace HD := Lib.hid HD
            cases lb with
            | true =>
              have hN2 : Hid (N = (k + 1) + numRun ((cs R).drop (at_ + (k + 1)))) := Lib.hid (by rw [hN1.out, hNB, show at_ + (k + 1) = at_ + k + 1 by omega]; simp; omega)
              have hx0 : at_ + k < m := hxm (by intro e; rw [e] at hlb; exact absurd hlb (by decide))
              replace hlb := Lib.hid hlb
              replace hdb := Lib.hid hdb
              replace hNB := Lib.hid hNB
              go_wp2_with fail
              go_roundg (m + 20 - (at_ + (k + 1)))
              case measure => omega
              case rel => exact ⟨k + 1, rfl, by omega, by go_num, ⟨qw5, hqw5.out⟩, hN2⟩
            | false =>
              replace hlb := Lib.hid hlb
              go_wp2_with fail
              refine HD.out.mono ?_
              rintro e w8 ⟨rfl, hw8⟩
              replace hw8 := hw8.symm
              subst hw8
              cases db with
              | true =>
                have hN2 : Hid (N = (k + 1) + numRun ((cs R).drop (at_ + (k + 1)))) := Lib.hid (by rw [hN1.out, hNB, show at_ + (k + 1) = at_ + k + 1 by omega]; simp; omega)
                have hx0 : at_ + k < m := hxm (by intro e; rw [e] at hdb; exact absurd hdb (by decide))
                replace hdb := Lib.hid hdb
                replace hNB := Lib.hid hNB
                go_wp2_with fail
                go_roundg (m + 20 - (at_ + (k + 1)))
                case measure => omega
                case rel => exact ⟨k + 1, rfl, by omega, by go_num, ⟨qw5, hqw5.out⟩, hN2⟩
              | false =>
                replace hdb := Lib.hid hdb
                by_cases h46 : x = 46
                · have b46 : ((x.toNat : Int) == 46) = true := by rw [h46]; rfl
                  have hN2 : Hid (N = (k + 1) + numRun ((cs R).drop (at_ + (k + 1)))) := Lib.hid (by rw [hN1.out, hNB, h46, show at_ + (k + 1) = at_ + k + 1 by omega]; simp; omega)
                  have hx0 : at_ + k < m := hxm (by rw [h46]; decide)
                  replace h46 := Lib.hid h46
                  replace hNB := Lib.hid hNB
                  go_wp2_with fail
                  go_roundg (m + 20 - (at_ + (k + 1)))
                  case measure => omega
                  case rel => exact ⟨k + 1, rfl, by omega, by go_num, ⟨qw5, hqw5.out⟩, hN2⟩
                · have b46 : ((x.toNat : Int) == 46) = false := beq_false_of_ne (fun e => h46 ((u8eq _ _).2 e))
                  have hN2 : Hid (N = k) := Lib.hid (by rw [hN1.out, hNB]; simp [h46])
                  replace h46 := Lib.hid h46
                  replace hNB := Lib.hid hNB
                  go_wp2
                  go_ret
                  exact HPost.out _ _ (by rw [hN2.out]; rfl) ⟨qw5, hqw5.out⟩
        · have hxne : ¬ (x = 101 ∨ x = 69 ∨ x = 112 ∨ x = 80) := by
            have := hie
            rw [decide_eq_false hix0] at this
            exact of_decide_eq_false this.symm
          have hxf : expB x y = false := decide_eq_false (fun h => hxne h.1)
          replace hie := Lib.hid hie
          replace hxne := Lib.hid hxne
          have hN1 : Hid (N = if numB x then k + (numRun ((cs R).drop (at_ + k + 1)) + 1) else k) := Lib.hid (by rw [HT.out, hmore, hxf]; cases numB x <;> rfl)
          replace hmore := Lib.hid hmore
          replace hxf := Lib.hid hxf
          go_wp2_with fail
          refine (pletter_any x w5).mono ?_
          rintro e w7 ⟨rfl, hw7⟩
          replace hw7 := hw7.symm
          subst hw7
          obtain ⟨lb, hlb⟩ : ∃ lb, lb = letterB x := ⟨_, rfl⟩
          obtain ⟨db, hdb⟩ : ∃ db, db = digitB x := ⟨_, rfl⟩
          have hNB : numB x = (lb || db || decide (x = 46)) := by rw [hlb, hdb]; rfl
          have HD := pdigit_any x w5
          rw [← hlb]
          rw [← hdb] at HD
          replace HD := Lib.hid HD
          cases lb with
          | true =>
            have hN2 : Hid (N = (k + 1) + numRun ((cs R).drop (at_ + (k + 1)))) := Lib.hid (by rw [hN1.out, hNB, show at_ + (k + 1) = at_ + k + 1 by omega]; simp; omega)
            have hx0 : at_ + k < m := hxm (by intro e; rw [e] at hlb; exact absurd hlb (by decide))
            replace hlb := Lib.hid hlb
            replace hdb := Lib.hid hdb
            replace hNB := Lib.hid hNB
            go_wp2_with fail
            go_roundg (m + 20 - (at_ + (k + 1)))
            case measure => omega
            case rel => exact ⟨k + 1, rfl, by omega, by go_num, ⟨qw5, hqw5.out⟩, hN2⟩
          | false =>
            replace hlb := Lib.hid hlb
            go_wp2_with fail
            refine HD.out.mono ?_
            rintro e w8 ⟨rfl, hw8⟩
            replace hw8 := hw8.symm
            subst hw8
            cases db with
            | true =>
              have hN2 : Hid (N = (k + 1) + numRun ((cs R).drop (at_ + (k + 1)))) := Lib.hid (by rw [hN1.out, hNB, show at_ + (k + 1) = at_ + k + 1 by omega]; simp; omega)
              have hx0 : at_ + k < m := hxm (by intro e; rw [e] at hdb; exact absurd hdb (by decide))
              replace hdb := Lib.hid hdb
              replace hNB := Lib.hid hNB
              go_wp2_with fail
              go_roundg (m + 20 - (at_ + (k + 1)))
              case measure => omega
              case rel => exact ⟨k + 1, rfl, by omega, by go_num, ⟨qw5, hqw5.out⟩, hN2⟩
            | false =>
              replace hdb := Lib.hid hdb
              by_cases h46 : x = 46
              · have b46 : ((x.toNat : Int) == 46) = true := by rw [h46]; rfl
                have hN2 : Hid (N = (k + 1) + numRun ((cs R).drop (at_ + (k + 1)))) := Lib.hid (by rw [hN1.out, hNB, h46, show at_ + (k + 1) = at_ + k + 1 by omega]; simp; omega)
                have hx0 : at_ + k < m := hxm (by rw [h46]; decide)
                replace h46 := Lib.hid h46
                replace hNB := Lib.hid hNB
                go_wp2_with fail
                go_roundg (m + 20 - (at_ + (k + 1)))
                case measure => omega
                case rel => exact ⟨k + 1, rfl, by omega, by go_num, ⟨qw5, hqw5.out⟩, hN2⟩
              · have b46 : ((x.toNat : Int) == 46) = false := beq_false_of_ne (fun e => h46 ((u8eq _ _).2 e))
                have hN2 : Hid (N = k) := Lib.hid (by rw [hN1.out, hNB]; simp [h46])
                replace h46 := Lib.hid h46
                replace hNB := Lib.hid hNB
                go_wp2
                go_ret
                exact HPost.out _ _ (by rw [hN2.out]; rfl) ⟨qw5, hqw5.out⟩
end Go.Proofs.Ythbicbfdldpemaa
