/- Texts of this seat's proofs, laid into one file. -/
import Derived.Test.YtllbbacnakoomaaGreatDoorS5
import Derived.Deep.LoopGhost
import Derived.Deep.Cut
import Derived.Deep.CutRange
set_option maxRecDepth 100000
set_option maxHeartbeats 16000000
namespace Go.Proofs.YtllbbacnakoomaaGreatDoor
open Go.RowKit
set_option linter.unusedVariables false
theorem num_stepG (A : List UInt8) (j : Nat) : numRun (A.drop j) =
 if expB (chAt A j) (chAt A (j + 1)) then numRun (A.drop (j + 2)) + 2 else if numB (chAt A j) then numRun (A.drop (j + 1)) + 1 else 0 := by
 by_cases h : j < A.length
 ·exact num_step h
 ·rw [num_end (by omega), chAt_ge (by omega : A.length ≤ j), chAt_ge (by omega : A.length ≤ j + 1)]
  have h1 : expB 0 0 = false := by decide
  have h2 : numB 0 = false := by decide
  simp [h1, h2]
theorem expI (c d : UInt8) : expB c d = decide (((c.toNat : Int) = 101 ∨ (c.toNat : Int) = 69 ∨ (c.toNat : Int) = 112 ∨ (c.toNat : Int) = 80) ∧ ((d.toNat : Int) = 43 ∨ (d.toNat : Int) = 45)) := by
 unfold expB
 simp only [u8eq]
 rfl
theorem numI (c : UInt8) : numB c = (letterB c || digitB c || decide ((c.toNat : Int) = 46)) := by
 unfold numB
 simp only [u8eq]
 rfl
theorem numRun_le (A : List UInt8) : numRun A ≤ A.length := by
 have : ∀ n (A : List UInt8), A.length ≤ n → numRun A ≤ A.length := by
  intro n
  induction n with
  | zero => intro A h; have := List.eq_nil_of_length_eq_zero (by omega : A.length = 0); subst this; simp [numRun]
  | succ n ih =>
    intro A h
    match A, h with
    | [], _ => simp [numRun]
    | [c], _ => simp only [numRun]; split <;> simp
    | c :: d :: r, h =>
      simp only [List.length_cons] at h
      have h1 := ih r (by omega)
      have h2 := ih (d :: r) (by simp; omega)
      simp only [List.length_cons] at h2
      simp only [numRun, List.length_cons]
      split
      ·omega
      ·split <;> omega
 exact this _ A (Nat.le_refl _)
def numStep (c d : UInt8) : Nat := if expB c d then 2 else if numB c then 1 else 0
theorem num_go (A : List UInt8) (j : Nat) : numRun (A.drop j) = if numStep (chAt A j) (chAt A (j + 1)) = 0 then 0 else numRun (A.drop (j + numStep (chAt A j) (chAt A (j + 1)))) + numStep (chAt A j) (chAt A (j + 1)) := by
 rw [num_stepG]
 unfold numStep
 by_cases h1 : expB (chAt A j) (chAt A (j + 1))
 ·simp [h1]
 ·by_cases h2 : numB (chAt A j)
  ·simp [h1, h2]
  ·simp [h1, h2]
theorem rnumber_any (R : List Rn) (ao : Option Addr) (cap i : Nat) (hn : R.length ≤ 1000001) (hi : i ≤ 1000001) (w : World) (hrow : Row w 3 ao (R.map Rn.v)) :
 Calls Tryz.prog 146 #[.slice ao R.length cap, .int .i64 i] w fun e w' => e = .returned (.int .i64 (numL (cs R) i)) ∧ w' = w := by
 have HA := Hd (fun k => rat_any R ao cap k (by omega) w hrow)
 have HD := Hd (fun c => rDigit_any c w)
 have HT := Hd (fun c => rLetter_any c w)
 have HN : Hid (numL (cs R) i = if digitB (chAt (cs R) i) = true ∨ ((chAt (cs R) i).toNat : Int) = 46 ∧ digitB (chAt (cs R) (i + 1)) = true then i + 1 + numRun ((cs R).drop (i + 1)) else i) := Hd (by unfold numL; simp only [u8eq]; rfl)
 have HRL : Hid (numRun ((cs R).drop (i + 1)) ≤ 1000001) := Hd (Nat.le_trans (numRun_le _) (by rw [List.length_drop, cs_len]; omega))
 clear hrow
 have K : ∀ (w9 : World) , w9 = w → True := fun _ _ => trivial
 have H0 := HA.out i
 have H1 := HA.out (i + 1)
 rw [show ((i + 1 : Nat) : Int) = (i : Int) + 1 by omega] at H1
 have D0 := HD.out (chAt (cs R) i)
 have D1 := HD.out (chAt (cs R) (i + 1))
 obtain ⟨b0, hb0⟩ : ∃ b, b = digitB (chAt (cs R) i) := ⟨_, rfl⟩
 obtain ⟨b1, hb1⟩ : ∃ b, b = digitB (chAt (cs R) (i + 1)) := ⟨_, rfl⟩
 obtain ⟨x, hx⟩ : ∃ x : Int, x = ((chAt (cs R) i).toNat : Int) := ⟨_, rfl⟩
 obtain ⟨y, hy⟩ : ∃ y : Int, y = ((chAt (cs R) (i + 1)).toNat : Int) := ⟨_, rfl⟩
 rw [← hb0] at D0 HN
 rw [← hb1] at D1 HN
 rw [← hx] at H0 D0 HN
 rw [← hy] at H1 D1
 replace H0 := Hd H0
 replace H1 := Hd H1
 replace D0 := Hd D0
 replace D1 := Hd D1
 clear hb0 hb1 hx hy K
 by_cases hc : b0 = true ∨ x = 46 ∧ b1 = true
 ·rw [if_pos hc] at HN
  have HV : Hid (numL (cs R) i = i + 1 + numRun ((cs R).drop (i + 1))) := HN
  clear HN
  have HN := HV
  clear HV
  go_enter Tryz.func146, Tryz.ntmps146
  go_upto_region 1 with fail
  go_cut [26] from 8 to 26 (fun v26 wx => v26 = .bool false ∧ wx = w)
  case first =>
   cases b0 with
   | true =>
     go_wp2_with fail
     refine H0.out.mono ?_
     rintro e w' ⟨rfl, rfl⟩
     go_wp2_with fail
     refine D0.out.mono ?_
     rintro e w' ⟨rfl, rfl⟩
     go_wp2_with fail
     go_meet
     exact ⟨rfl, rfl⟩
   | false =>
     have h2 : x = 46 ∧ b1 = true := by simpa using hc
     obtain ⟨rfl, rfl⟩ := h2
     go_wp2_with fail
     refine H0.out.mono ?_
     rintro e w' ⟨rfl, rfl⟩
     go_wp2_with fail
     refine D0.out.mono ?_
     rintro e w' ⟨rfl, rfl⟩
     go_wp2_with fail
     refine H0.out.mono ?_
     rintro e w' ⟨rfl, rfl⟩
     go_wp2_with fail
     refine H1.out.mono ?_
     rintro e w' ⟨rfl, rfl⟩
     go_wp2_with fail
     refine D1.out.mono ?_
     rintro e w' ⟨rfl, rfl⟩
     go_wp2_with fail
     go_meet
     exact ⟨rfl, rfl⟩
  case rest =>
  obtain ⟨rfl, rfl⟩ := hcut
  clear H0 H1 D0 D1 hc
  go_wp2_with fail
  go_loopg [5] (numRun ((cs R).drop (i + 1))) (fun q v w9 => ∃ j : Nat, q = numRun ((cs R).drop j) ∧ v = .int .i64 j ∧ w9 = wc ∧ Hid (i + 1 + numRun ((cs R).drop (i + 1)) = j + q))
  case atStart => exact ⟨i + 1, rfl, rfl, rfl, Hd rfl⟩
  case round =>
   obtain ⟨j, rfl, rfl, rfl, hs⟩ := hrel
   have hj : j ≤ 2000003 := by have := hs.out; have := HRL.out; omega
   have A0 := HA.out j
   have A1 := HA.out (j + 1)
   rw [show ((j + 1 : Nat) : Int) = (j : Int) + 1 by omega] at A1
   have L0 := HT.out (chAt (cs R) j)
   have D2 := HD.out (chAt (cs R) j)
   have HG := Hd (num_go (cs R) j)
   have HLA := letterB_int (chAt (cs R) j)
   have HST : numStep (chAt (cs R) j) (chAt (cs R) (j + 1)) = if (((chAt (cs R) j).toNat : Int) = 101 ∨ ((chAt (cs R) j).toNat : Int) = 69 ∨ ((chAt (cs R) j).toNat : Int) = 112 ∨ ((chAt (cs R) j).toNat : Int) = 80) ∧ (((chAt (cs R) (j + 1)).toNat : Int) = 43 ∨ ((chAt (cs R) (j + 1)).toNat : Int) = 45) then 2 else if (letterB (chAt (cs R) j) || digitB (chAt (cs R) j) || decide (((chAt (cs R) j).toNat : Int) = 46)) = true then 1 else 0 := by
    unfold numStep
    rw [expI, numI]
    simp only [decide_eq_true_eq]
   obtain ⟨s, hsx⟩ : ∃ s, s = numStep (chAt (cs R) j) (chAt (cs R) (j + 1)) := ⟨_, rfl⟩
   obtain ⟨la, hla⟩ : ∃ b, b = letterB (chAt (cs R) j) := ⟨_, rfl⟩
   obtain ⟨da, hda⟩ : ∃ b, b = digitB (chAt (cs R) j) := ⟨_, rfl⟩
   obtain ⟨x, hx⟩ : ∃ x : Int, x = ((chAt (cs R) j).toNat : Int) := ⟨_, rfl⟩
   obtain ⟨y, hy⟩ : ∃ y : Int, y = ((chAt (cs R) (j + 1)).toNat : Int) := ⟨_, rfl⟩
   rw [← hsx] at HST HG
   rw [← hla] at L0 HLA HST
   rw [← hda] at D2 HST
   rw [← hx] at A0 L0 D2 HLA HST
   rw [← hy] at A1 HST
   clear hsx hla hda hx hy
   replace A0 := Hd A0
   replace A1 := Hd A1
   replace L0 := Hd L0
   replace D2 := Hd D2
   replace HLA := Hd HLA
   replace HST := Hd HST
   go_wp2_with fail
   refine A0.out.mono ?_
   rintro e w' ⟨rfl, rfl⟩
   go_wp2_with fail
   refine A1.out.mono ?_
   rintro e w' ⟨rfl, rfl⟩
   clear A0 A1 hn hi HA HT HD HRL
   by_cases hx101 : x = 101
   ·subst hx101
    by_cases hy43 : y = 43
    ·subst hy43
     have hsv : s = 2 := HST.out.trans (by simp)
     subst hsv
     clear HST HLA
     go_wp2_with fail
     have h2 := HG.out
     rw [if_neg (by decide)] at h2
     go_roundg (numRun ((cs R).drop (j + 2)))
     case measure => omega
     case rel => exact ⟨j + 2, rfl, by go_num, rfl, Hd (by have := hs.out; omega)⟩
    ·have hy43' : (y == 43) = false := by simpa using hy43
     by_cases hy45 : y = 45
     ·subst hy45
      have hsv : s = 2 := HST.out.trans (by simp)
      subst hsv
      clear HST HLA
      go_wp2_with fail
      have h2 := HG.out
      rw [if_neg (by decide)] at h2
      go_roundg (numRun ((cs R).drop (j + 2)))
      case measure => omega
      case rel => exact ⟨j + 2, rfl, by go_num, rfl, Hd (by have := hs.out; omega)⟩
     ·have hy45' : (y == 45) = false := by simpa using hy45
      obtain rfl : la = true := HLA.out.trans (by decide)
      have hsv : s = 1 := HST.out.trans (by simp [hy43, hy45])
      subst hsv
      clear HST HLA
      go_wp2_with fail
      refine L0.out.mono ?_
      rintro e w' ⟨rfl, rfl⟩
      go_wp2_with fail
      have h2 := HG.out
      rw [if_neg (by decide)] at h2
      go_roundg (numRun ((cs R).drop (j + 1)))
      case measure => omega
      case rel => exact ⟨j + 1, rfl, by go_num, rfl, Hd (by have := hs.out; omega)⟩
   ·have hx101' : (x == 101) = false := by simpa using hx101
    by_cases hx69 : x = 69
    ·subst hx69
     by_cases hy43 : y = 43
     ·subst hy43
      have hsv : s = 2 := HST.out.trans (by simp)
      subst hsv
      clear HST HLA
      go_wp2_with fail
      have h2 := HG.out
      rw [if_neg (by decide)] at h2
      go_roundg (numRun ((cs R).drop (j + 2)))
      case measure => omega
      case rel => exact ⟨j + 2, rfl, by go_num, rfl, Hd (by have := hs.out; omega)⟩
     ·have hy43' : (y == 43) = false := by simpa using hy43
      by_cases hy45 : y = 45
      ·subst hy45
       have hsv : s = 2 := HST.out.trans (by simp)
       subst hsv
       clear HST HLA
       go_wp2_with fail
       have h2 := HG.out
       rw [if_neg (by decide)] at h2
       go_roundg (numRun ((cs R).drop (j + 2)))
       case measure => omega
       case rel => exact ⟨j + 2, rfl, by go_num, rfl, Hd (by have := hs.out; omega)⟩
      ·have hy45' : (y == 45) = false := by simpa using hy45
       obtain rfl : la = true := HLA.out.trans (by decide)
       have hsv : s = 1 := HST.out.trans (by simp [hy43, hy45])
       subst hsv
       clear HST HLA
       go_wp2_with fail
       refine L0.out.mono ?_
       rintro e w' ⟨rfl, rfl⟩
       go_wp2_with fail
       have h2 := HG.out
       rw [if_neg (by decide)] at h2
       go_roundg (numRun ((cs R).drop (j + 1)))
       case measure => omega
       case rel => exact ⟨j + 1, rfl, by go_num, rfl, Hd (by have := hs.out; omega)⟩
    ·have hx69' : (x == 69) = false := by simpa using hx69
     by_cases hx112 : x = 112
     ·subst hx112
      by_cases hy43 : y = 43
      ·subst hy43
       have hsv : s = 2 := HST.out.trans (by simp)
       subst hsv
       clear HST HLA
       go_wp2_with fail
       have h2 := HG.out
       rw [if_neg (by decide)] at h2
       go_roundg (numRun ((cs R).drop (j + 2)))
       case measure => omega
       case rel => exact ⟨j + 2, rfl, by go_num, rfl, Hd (by have := hs.out; omega)⟩
      ·have hy43' : (y == 43) = false := by simpa using hy43
       by_cases hy45 : y = 45
       ·subst hy45
        have hsv : s = 2 := HST.out.trans (by simp)
        subst hsv
        clear HST HLA
        go_wp2_with fail
        have h2 := HG.out
        rw [if_neg (by decide)] at h2
        go_roundg (numRun ((cs R).drop (j + 2)))
        case measure => omega
        case rel => exact ⟨j + 2, rfl, by go_num, rfl, Hd (by have := hs.out; omega)⟩
       ·have hy45' : (y == 45) = false := by simpa using hy45
        obtain rfl : la = true := HLA.out.trans (by decide)
        have hsv : s = 1 := HST.out.trans (by simp [hy43, hy45])
        subst hsv
        clear HST HLA
        go_wp2_with fail
        refine L0.out.mono ?_
        rintro e w' ⟨rfl, rfl⟩
        go_wp2_with fail
        have h2 := HG.out
        rw [if_neg (by decide)] at h2
        go_roundg (numRun ((cs R).drop (j + 1)))
        case measure => omega
        case rel => exact ⟨j + 1, rfl, by go_num, rfl, Hd (by have := hs.out; omega)⟩
     ·have hx112' : (x == 112) = false := by simpa using hx112
      by_cases hx80 : x = 80
      ·subst hx80
       by_cases hy43 : y = 43
       ·subst hy43
        have hsv : s = 2 := HST.out.trans (by simp)
        subst hsv
        clear HST HLA
        go_wp2_with fail
        have h2 := HG.out
        rw [if_neg (by decide)] at h2
        go_roundg (numRun ((cs R).drop (j + 2)))
        case measure => omega
        case rel => exact ⟨j + 2, rfl, by go_num, rfl, Hd (by have := hs.out; omega)⟩
       ·have hy43' : (y == 43) = false := by simpa using hy43
        by_cases hy45 : y = 45
        ·subst hy45
         have hsv : s = 2 := HST.out.trans (by simp)
         subst hsv
         clear HST HLA
         go_wp2_with fail
         have h2 := HG.out
         rw [if_neg (by decide)] at h2
         go_roundg (numRun ((cs R).drop (j + 2)))
         case measure => omega
         case rel => exact ⟨j + 2, rfl, by go_num, rfl, Hd (by have := hs.out; omega)⟩
        ·have hy45' : (y == 45) = false := by simpa using hy45
         obtain rfl : la = true := HLA.out.trans (by decide)
         have hsv : s = 1 := HST.out.trans (by simp [hy43, hy45])
         subst hsv
         clear HST HLA
         go_wp2_with fail
         refine L0.out.mono ?_
         rintro e w' ⟨rfl, rfl⟩
         go_wp2_with fail
         have h2 := HG.out
         rw [if_neg (by decide)] at h2
         go_roundg (numRun ((cs R).drop (j + 1)))
         case measure => omega
         case rel => exact ⟨j + 1, rfl, by go_num, rfl, Hd (by have := hs.out; omega)⟩
      ·have hx80' : (x == 80) = false := by simpa using hx80
       cases la with
       | true =>
         have hsv : s = 1 := HST.out.trans (by simp [hx101, hx69, hx112, hx80])
         subst hsv
         clear HST HLA
         go_wp2_with fail
         refine L0.out.mono ?_
         rintro e w' ⟨rfl, rfl⟩
         go_wp2_with fail
         have h2 := HG.out
         rw [if_neg (by decide)] at h2
         go_roundg (numRun ((cs R).drop (j + 1)))
         case measure => omega
         case rel => exact ⟨j + 1, rfl, by go_num, rfl, Hd (by have := hs.out; omega)⟩
       | false =>
         cases da with
         | true =>
           have hsv : s = 1 := HST.out.trans (by simp [hx101, hx69, hx112, hx80])
           subst hsv
           clear HST HLA
           go_wp2_with fail
           refine L0.out.mono ?_
           rintro e w' ⟨rfl, rfl⟩
           go_wp2_with fail
           refine D2.out.mono ?_
           rintro e w' ⟨rfl, rfl⟩
           go_wp2_with fail
           have h2 := HG.out
           rw [if_neg (by decide)] at h2
           go_roundg (numRun ((cs R).drop (j + 1)))
           case measure => omega
           case rel => exact ⟨j + 1, rfl, by go_num, rfl, Hd (by have := hs.out; omega)⟩
         | false =>
           by_cases hx46 : x = 46
           ·subst hx46
            have hsv : s = 1 := HST.out.trans (by simp)
            subst hsv
            clear HST HLA
            go_wp2_with fail
            refine L0.out.mono ?_
            rintro e w' ⟨rfl, rfl⟩
            go_wp2_with fail
            refine D2.out.mono ?_
            rintro e w' ⟨rfl, rfl⟩
            go_wp2_with fail
            have h2 := HG.out
            rw [if_neg (by decide)] at h2
            go_roundg (numRun ((cs R).drop (j + 1)))
            case measure => omega
            case rel => exact ⟨j + 1, rfl, by go_num, rfl, Hd (by have := hs.out; omega)⟩
           ·have hx46' : (x == 46) = false := by simpa using hx46
            have hsv : s = 0 := HST.out.trans (by simp [hx101, hx69, hx112, hx80, hx46])
            subst hsv
            clear HST HLA
            go_wp2_with fail
            refine L0.out.mono ?_
            rintro e w' ⟨rfl, rfl⟩
            go_wp2_with fail
            refine D2.out.mono ?_
            rintro e w' ⟨rfl, rfl⟩
            go_wp2
            go_ret
            refine ⟨?_, rfl⟩
            have h1 := hs.out
            have h2 : numRun ((cs R).drop j) = 0 := by simpa using HG.out
            rw [HN.out, h1, h2]
            rfl
 ·rw [if_neg hc] at HN
  have HV : Hid (numL (cs R) i = i) := HN
  clear HN
  have hb0 : b0 = false := by cases b0 with | true => exact (hc (.inl rfl)).elim | false => rfl
  subst hb0
  by_cases hx46 : x = 46
  ·subst hx46
   have hb1 : b1 = false := by cases b1 with | true => exact (hc (.inr ⟨rfl, rfl⟩)).elim | false => rfl
   subst hb1
   clear hc
   go_enter Tryz.func146, Tryz.ntmps146
   go_wp2_with fail
   refine H0.out.mono ?_
   rintro e w' ⟨rfl, rfl⟩
   go_wp2_with fail
   refine D0.out.mono ?_
   rintro e w' ⟨rfl, rfl⟩
   go_wp2_with fail
   refine H0.out.mono ?_
   rintro e w' ⟨rfl, rfl⟩
   go_wp2_with fail
   refine H1.out.mono ?_
   rintro e w' ⟨rfl, rfl⟩
   go_wp2_with fail
   refine D1.out.mono ?_
   rintro e w' ⟨rfl, rfl⟩
   go_wp2
   go_ret
   exact ⟨by rw [HV.out]; rfl, rfl⟩
  ·have hx46' : (x == 46) = false := by simpa using hx46
   clear hc
   go_enter Tryz.func146, Tryz.ntmps146
   go_wp2_with fail
   refine H0.out.mono ?_
   rintro e w' ⟨rfl, rfl⟩
   go_wp2_with fail
   refine D0.out.mono ?_
   rintro e w' ⟨rfl, rfl⟩
   go_wp2_with fail
   refine H0.out.mono ?_
   rintro e w' ⟨rfl, rfl⟩
   go_wp2
   go_ret
   exact ⟨by rw [HV.out]; rfl, rfl⟩
end Go.Proofs.YtllbbacnakoomaaGreatDoor
namespace Go.Proofs.YtllbbacnakoomaaGreatDoor
open Go.RowKit
set_option linter.unusedVariables false
theorem quo_go (q : UInt8) (A : List UInt8) (j : Nat) (h : j < A.length) : quoL q j (A.drop j) =
 if ((chAt A j).toNat : Int) = 10 then 0 else if ((chAt A j).toNat : Int) = 92 ∧ j + 1 < A.length ∧ ¬ ((chAt A (j + 1)).toNat : Int) = 10 then quoL q (j + 2) (A.drop (j + 2)) else if ((chAt A j).toNat : Int) = (q.toNat : Int) then j + 1 else quoL q (j + 1) (A.drop (j + 1)) := by
 rw [quo_step h]
 simp only [u8eq, ne_eq]
 rfl
theorem rquoted_any (R : List Rn) (ao : Option Addr) (cap i : Nat) (hn : R.length ≤ 1000001) (hi : i ≤ 1000003) (w : World) (hrow : Row w 3 ao (R.map Rn.v)) :
 Calls Tryz.prog 143 #[.slice ao R.length cap, .int .i64 i] w fun e w' => e = .returned (.int .i64 (quotedL (cs R) i)) ∧ w' = w := by
 have H0 := rat_any R ao cap i (by omega) w hrow
 have HQ : quotedL (cs R) i = quoL (chAt (cs R) i) (i + 1) ((cs R).drop (i + 1)) := rfl
 obtain ⟨q, hq⟩ : ∃ q, q = chAt (cs R) i := ⟨_, rfl⟩
 rw [← hq] at H0 HQ
 clear hq
 obtain ⟨qv, hqv⟩ : ∃ x : Int, x = (q.toNat : Int) := ⟨_, rfl⟩
 rw [← hqv] at H0
 obtain ⟨n, hnn⟩ : ∃ n, n = R.length := ⟨_, rfl⟩
 have HNN : Hid ((cs R).length = n) := Hd (by rw [cs_len, hnn])
 have HN2 : Hid (R.length = n) := Hd hnn.symm
 replace HQ := Hd HQ
 replace H0 := Hd H0
 replace hqv := Hd hqv
 rw [← hnn] at hn H0 ⊢
 clear hnn
 go_enter Tryz.func143, Tryz.ntmps143
 go_wp2_with fail
 refine H0.out.mono ?_
 rintro e w' ⟨rfl, rfl⟩
 go_wp2_with fail
 go_loopg [6] (n + 2) (fun u v w9 => ∃ j : Nat, u = n + i + 3 - j ∧ j ≤ n + i + 2 ∧ v = .int .i64 j ∧ w9 = w' ∧ Hid (quotedL (cs R) i = quoL q j ((cs R).drop j)))
 case atStart => exact ⟨i + 1, by omega, by omega, rfl, rfl, HQ⟩
 case round =>
  obtain ⟨j, rfl, hj, rfl, rfl, hs⟩ := hrel
  by_cases hlt : j < n
  ·have HG := Hd (quo_go q (cs R) j (by rw [HNN.out]; exact hlt))
   obtain ⟨r, hr⟩ : ∃ r, R[j]? = some r := ⟨R[j]'(by rw [HN2.out]; exact hlt), by simp⟩
   obtain ⟨b, o, rfl, hat⟩ := hrow (by intro h; simp at h; subst h; simp at hr)
   have c0 := hat.cell (i := j) (cs := r.v) (by simp [hr]) (j := 0) (u := .int .u8 r.c.toNat) rfl
   rw [cs_at hr, ← hqv.out, HNN.out] at HG
   simp only [Nat.add_zero] at c0
   obtain ⟨x, hx⟩ : ∃ x : Int, x = (r.c.toNat : Int) := ⟨_, rfl⟩
   rw [← hx] at HG c0
   clear hx hr HQ H0
   by_cases hx10 : x = 10
   ·subst hx10
    have hv := HG.out.trans (show _ = 0 by simp)
    clear HG
    go_wp2
    go_ret
    exact ⟨by rw [hs.out, hv]; rfl, rfl⟩
   ·have hx10' : (x == 10) = false := by simpa using hx10
    by_cases hx92 : x = 92
    ·subst hx92
     by_cases hlt2 : j + 1 < n
     ·obtain ⟨r2, hr2⟩ : ∃ r, R[j + 1]? = some r := ⟨R[j + 1]'(by rw [HN2.out]; exact hlt2), by simp⟩
      have d0 := hat.cell (i := j + 1) (cs := r2.v) (by simp [hr2]) (j := 0) (u := .int .u8 r2.c.toNat) rfl
      rw [cs_at hr2] at HG
      simp only [Nat.add_zero] at d0
      obtain ⟨y, hy⟩ : ∃ y : Int, y = (r2.c.toNat : Int) := ⟨_, rfl⟩
      rw [← hy] at HG d0
      clear hy hr2 hat
      have hlt2i : (j : Int) + 1 < n := by omega
      by_cases hy10 : y = 10
      ·subst hy10
       by_cases hq : qv = 92
       ·subst hq
        have hv := HG.out.trans (show _ = j + 1 by simp)
        clear HG
        go_wp2
        go_ret
        exact ⟨by rw [hs.out, hv]; rfl, rfl⟩
       ·have hq2 : ¬ (92 : Int) = qv := fun h => hq h.symm
        have hq' : ((92 : Int) == qv) = false := by simpa using hq2
        have hv := HG.out.trans (show _ = quoL q (j + 1) ((cs R).drop (j + 1)) by simp [hq2])
        clear HG
        go_wp2_with fail
        go_roundg (n + i + 3 - (j + 1))
        case measure => omega
        case rel => exact ⟨j + 1, rfl, by omega, by go_num, rfl, Hd (hs.out.trans hv)⟩
      ·have hy10' : (y == 10) = false := by simpa using hy10
       have hv := HG.out.trans (show _ = quoL q (j + 2) ((cs R).drop (j + 2)) by simp [hlt2, hy10])
       clear HG
       go_wp2_with fail
       go_roundg (n + i + 3 - (j + 2))
       case measure => omega
       case rel => exact ⟨j + 2, rfl, by omega, by go_num, rfl, Hd (hs.out.trans hv)⟩
     ·clear hat
      have hlt2i : (n : Int) ≤ (j : Int) + 1 := by omega
      by_cases hq : qv = 92
      ·subst hq
       have hv := HG.out.trans (show _ = j + 1 by simp [hlt2])
       clear HG
       go_wp2
       go_ret
       exact ⟨by rw [hs.out, hv]; rfl, rfl⟩
      ·have hq2 : ¬ (92 : Int) = qv := fun h => hq h.symm
       have hq' : ((92 : Int) == qv) = false := by simpa using hq2
       have hv := HG.out.trans (show _ = quoL q (j + 1) ((cs R).drop (j + 1)) by simp [hlt2, hq2])
       clear HG
       go_wp2_with fail
       go_roundg (n + i + 3 - (j + 1))
       case measure => omega
       case rel => exact ⟨j + 1, rfl, by omega, by go_num, rfl, Hd (hs.out.trans hv)⟩
    ·have hx92' : (x == 92) = false := by simpa using hx92
     clear hat
     by_cases hq : x = qv
     ·have hq' : (x == qv) = true := by simpa using hq
      have hv := HG.out.trans (show _ = j + 1 by rw [if_neg hx10, if_neg (fun h => hx92 h.1), if_pos hq])
      clear HG
      clear hq
      go_wp2
      go_ret
      exact ⟨by rw [hs.out, hv]; rfl, rfl⟩
     ·have hq' : (x == qv) = false := by simpa using hq
      have hv := HG.out.trans (show _ = quoL q (j + 1) ((cs R).drop (j + 1)) by simp [hx10, hx92, hq])
      clear HG
      go_wp2_with fail
      go_roundg (n + i + 3 - (j + 1))
      case measure => omega
      case rel => exact ⟨j + 1, rfl, by omega, by go_num, rfl, Hd (hs.out.trans hv)⟩
  ·have hv : quoL q j ((cs R).drop j) = 0 := quo_end (by rw [HNN.out]; omega)
   go_wp2
   go_ret
   exact ⟨by rw [hs.out, hv]; rfl, rfl⟩
end Go.Proofs.YtllbbacnakoomaaGreatDoor
