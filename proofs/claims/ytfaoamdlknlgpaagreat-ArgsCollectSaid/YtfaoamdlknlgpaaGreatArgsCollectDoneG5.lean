/- Texts of this seat's proofs, laid into one file. -/
import Derived.Test.YtfaoamdlknlgpaaGreatArgsCollectDoneG1
import Derived.Test.YtfaoamdlknlgpaaGreatArgsCollectDoneG4
/- oxbowref4's small functions of chapter 5: at, White, Letter, Digit, letters. -/
namespace Go.Proofs.YtfaoamdlknlgpaaGreat
open Go.RowKit
set_option linter.unusedVariables false

def cs (R : List Rn) : List UInt8 := R.map (·.c)
theorem cs_len (R : List Rn) : (cs R).length = R.length := List.length_map ..
theorem cs_at {R : List Rn} {i : Nat} {r : Rn} (h : R[i]? = some r) : chAt (cs R) i = r.c := chAt_lt (by simp [cs, h])

set_option maxRecDepth 100000 in
theorem rat_any (R : List Rn) (ao : Option Addr) (cap i : Nat) (hn : R.length ≤ 2000000) (w : World) (hrow : Row w 3 ao (R.map Rn.v)) :
    Calls Tryz.prog 71 #[.slice ao R.length cap, .int .i64 i] w fun e w' => e = .returned (.int .u8 (chAt (cs R) i).toNat) ∧ w' = w := by
  by_cases hi : i < R.length
  · obtain ⟨r, hr⟩ : ∃ r, R[i]? = some r := ⟨R[i], by simp [hi]⟩
    rw [cs_at hr]
    obtain ⟨b, o, rfl, hat⟩ := hrow (by intro h; simp at h; subst h; simp at hi)
    have c0 := hat.cell (i := i) (cs := r.v) (by simp [hr]) (j := 0) (u := .int .u8 r.c.toNat) rfl
    simp only [Nat.add_zero] at c0
    clear hr hat hrow
    go_enter Tryz.func71, Tryz.ntmps71
    go_wp2
    go_ret
    exact ⟨rfl, rfl⟩
  · rw [chAt_ge (by rw [cs_len]; omega)]
    go_enter Tryz.func71, Tryz.ntmps71
    go_wp2
    go_ret
    exact ⟨rfl, rfl⟩

theorem letterB_int (c : UInt8) : letterB c = decide ((97 : Int) ≤ c.toNat ∧ (c.toNat : Int) ≤ 122 ∨ (65 : Int) ≤ c.toNat ∧ (c.toNat : Int) ≤ 90 ∨ (c.toNat : Int) = 95) := by
  unfold letterB
  congr 1
  apply propext
  simp only [UInt8.le_iff_toNat_le, ← UInt8.toNat_inj]
  simp
  omega
theorem digitB_int (c : UInt8) : digitB c = decide ((48 : Int) ≤ c.toNat ∧ (c.toNat : Int) ≤ 57) := by
  unfold digitB
  congr 1
  apply propext
  simp only [UInt8.le_iff_toNat_le]
  simp
  omega
theorem whiteB_int (c : UInt8) : whiteB c = decide ((c.toNat : Int) = 32 ∨ (c.toNat : Int) = 9 ∨ (11 : Int) ≤ c.toNat ∧ (c.toNat : Int) ≤ 13) := by
  unfold whiteB
  congr 1
  apply propext
  simp only [UInt8.le_iff_toNat_le, ← UInt8.toNat_inj]
  simp
  omega

set_option maxRecDepth 100000 in
theorem rLetter_any (c : UInt8) (w : World) : Calls Tryz.prog 73 #[.int .u8 c.toNat] w fun e w' => e = .returned (.bool (letterB c)) ∧ w' = w := by
  go_enter Tryz.func73, Tryz.ntmps73
  go_wp2
  all_goals
    go_ret
    refine ⟨?_, rfl⟩
    rw [letterB_int]
    refine congrArg (fun b => Ending.returned (Value.bool b)) ?_
    rw [Bool.eq_iff_iff]
    simp only [decide_eq_true_eq, beq_iff_eq]
    first | omega | (simp; omega)
set_option maxRecDepth 100000 in
theorem rDigit_any (c : UInt8) (w : World) : Calls Tryz.prog 74 #[.int .u8 c.toNat] w fun e w' => e = .returned (.bool (digitB c)) ∧ w' = w := by
  go_enter Tryz.func74, Tryz.ntmps74
  go_wp2
  all_goals
    go_ret
    refine ⟨?_, rfl⟩
    rw [digitB_int]
    refine congrArg (fun b => Ending.returned (Value.bool b)) ?_
    rw [Bool.eq_iff_iff]
    simp only [decide_eq_true_eq]
    first | omega | (simp; omega)
set_option maxRecDepth 100000 in
theorem rWhite_any (c : UInt8) (w : World) : Calls Tryz.prog 46 #[.int .u8 c.toNat] w fun e w' => e = .returned (.bool (whiteB c)) ∧ w' = w := by
  go_enter Tryz.func46, Tryz.ntmps46
  go_wp2
  all_goals
    go_ret
    refine ⟨?_, rfl⟩
    rw [whiteB_int]
    refine congrArg (fun b => Ending.returned (Value.bool b)) ?_
    rw [Bool.eq_iff_iff]
    simp only [decide_eq_true_eq]
    first | omega | (simp; omega)

theorem u8eq (a b : UInt8) : a = b ↔ (a.toNat : Int) = (b.toNat : Int) := by
  rw [← UInt8.toNat_inj]; omega

theorem lettersI (A : List UInt8) (i : Nat) : lettersL A i =
    if ((chAt A i).toNat : Int) = 34 ∨ ((chAt A i).toNat : Int) = 39 then 0
    else if ((chAt A i).toNat : Int) = 117 ∧ ((chAt A (i + 1)).toNat : Int) = 56 ∧ ((chAt A (i + 2)).toNat : Int) = 34 then 2
    else if (((chAt A i).toNat : Int) = 76 ∨ ((chAt A i).toNat : Int) = 117 ∨ ((chAt A i).toNat : Int) = 85) ∧ (((chAt A (i + 1)).toNat : Int) = 34 ∨ ((chAt A (i + 1)).toNat : Int) = 39) then 1
    else -1 := by
  unfold lettersL
  simp only [u8eq]
  rfl

set_option maxHeartbeats 1000000 in
set_option maxRecDepth 100000 in
theorem rletters_any (R : List Rn) (ao : Option Addr) (cap i : Nat) (hn : R.length ≤ 2000000) (hi : i ≤ 2000000) (w : World) (hrow : Row w 3 ao (R.map Rn.v)) :
    Calls Tryz.prog 70 #[.slice ao R.length cap, .int .i64 i] w fun e w' => e = .returned (.int .i64 (lettersL (cs R) i)) ∧ w' = w := by
  have e1 : ((i : Int) + 1) = ((i + 1 : Nat) : Int) := by omega
  have e2 : ((i : Int) + 2) = ((i + 2 : Nat) : Int) := by omega
  have H0 := Lib.hid (rat_any R ao cap i hn w hrow)
  have H1 := Lib.hid (rat_any R ao cap (i + 1) hn w hrow)
  have H2 := Lib.hid (rat_any R ao cap (i + 2) hn w hrow)
  rw [← e1] at H1
  rw [← e2] at H2
  have HL := Lib.hid (lettersI (cs R) i)
  obtain ⟨x, hx⟩ : ∃ x : Int, x = ((chAt (cs R) i).toNat : Int) := ⟨_, rfl⟩
  obtain ⟨y, hy⟩ : ∃ y : Int, y = ((chAt (cs R) (i + 1)).toNat : Int) := ⟨_, rfl⟩
  obtain ⟨z, hz⟩ : ∃ z : Int, z = ((chAt (cs R) (i + 2)).toNat : Int) := ⟨_, rfl⟩
  rw [← hx] at H0 HL
  rw [← hy] at H1 HL
  rw [← hz] at H2 HL
  clear hx hy hz e1 e2 hrow
  by_cases hx34 : x = 34
  · subst hx34
    have HV : Hid (lettersL (cs R) i = (0 : Int)) := Lib.hid (HL.out.trans (by simp))
    clear HL
    go_enter Tryz.func70, Tryz.ntmps70
    go_wp2_with fail
    refine H0.out.mono ?_
    rintro e w' ⟨rfl, rfl⟩
    go_wp2
    go_ret
    exact ⟨congrArg (fun z => Ending.returned (Value.int .i64 z)) HV.out.symm, rfl⟩
  · have hx34' : (x == 34) = false := by simpa using hx34
    by_cases hx39 : x = 39
    · subst hx39
      have HV : Hid (lettersL (cs R) i = (0 : Int)) := Lib.hid (HL.out.trans (by simp [hx34]))
      clear HL
      go_enter Tryz.func70, Tryz.ntmps70
      go_wp2_with fail
      refine H0.out.mono ?_
      rintro e w' ⟨rfl, rfl⟩
      go_wp2
      go_ret
      exact ⟨congrArg (fun z => Ending.returned (Value.int .i64 z)) HV.out.symm, rfl⟩
    · have hx39' : (x == 39) = false := by simpa using hx39
      by_cases hx117 : x = 117
      · subst hx117
        by_cases hy56 : y = 56
        · subst hy56
          by_cases hz34 : z = 34
          · subst hz34
            have HV : Hid (lettersL (cs R) i = (2 : Int)) := Lib.hid (HL.out.trans (by simp [hx34, hx39]))
            clear HL
            go_enter Tryz.func70, Tryz.ntmps70
            go_wp2_with fail
            refine H0.out.mono ?_
            rintro e w' ⟨rfl, rfl⟩
            go_wp2_with fail
            refine H1.out.mono ?_
            rintro e w' ⟨rfl, rfl⟩
            go_wp2_with fail
            refine H2.out.mono ?_
            rintro e w' ⟨rfl, rfl⟩
            go_wp2
            go_ret
            exact ⟨congrArg (fun z => Ending.returned (Value.int .i64 z)) HV.out.symm, rfl⟩
          · have hz34' : (z == 34) = false := by simpa using hz34
            have HV : Hid (lettersL (cs R) i = (-1 : Int)) := Lib.hid (HL.out.trans (by simp [hx34, hx39, hz34]))
            clear HL
            go_enter Tryz.func70, Tryz.ntmps70
            go_wp2_with fail
            refine H0.out.mono ?_
            rintro e w' ⟨rfl, rfl⟩
            go_wp2_with fail
            refine H1.out.mono ?_
            rintro e w' ⟨rfl, rfl⟩
            go_wp2_with fail
            refine H2.out.mono ?_
            rintro e w' ⟨rfl, rfl⟩
            go_wp2_with fail
            refine H1.out.mono ?_
            rintro e w' ⟨rfl, rfl⟩
            go_wp2_with fail
            refine H1.out.mono ?_
            rintro e w' ⟨rfl, rfl⟩
            go_wp2
            go_ret
            exact ⟨congrArg (fun z => Ending.returned (Value.int .i64 z)) HV.out.symm, rfl⟩
        · have hy56' : (y == 56) = false := by simpa using hy56
          by_cases hy34 : y = 34
          · subst hy34
            have HV : Hid (lettersL (cs R) i = (1 : Int)) := Lib.hid (HL.out.trans (by simp [hx34, hx39, hy56]))
            clear HL
            go_enter Tryz.func70, Tryz.ntmps70
            go_wp2_with fail
            refine H0.out.mono ?_
            rintro e w' ⟨rfl, rfl⟩
            go_wp2_with fail
            refine H1.out.mono ?_
            rintro e w' ⟨rfl, rfl⟩
            go_wp2_with fail
            refine H1.out.mono ?_
            rintro e w' ⟨rfl, rfl⟩
            go_wp2
            go_ret
            exact ⟨congrArg (fun z => Ending.returned (Value.int .i64 z)) HV.out.symm, rfl⟩
          · have hy34' : (y == 34) = false := by simpa using hy34
            by_cases hy39 : y = 39
            · subst hy39
              have HV : Hid (lettersL (cs R) i = (1 : Int)) := Lib.hid (HL.out.trans (by simp [hx34, hx39, hy56, hy34]))
              clear HL
              go_enter Tryz.func70, Tryz.ntmps70
              go_wp2_with fail
              refine H0.out.mono ?_
              rintro e w' ⟨rfl, rfl⟩
              go_wp2_with fail
              refine H1.out.mono ?_
              rintro e w' ⟨rfl, rfl⟩
              go_wp2_with fail
              refine H1.out.mono ?_
              rintro e w' ⟨rfl, rfl⟩
              go_wp2_with fail
              refine H1.out.mono ?_
              rintro e w' ⟨rfl, rfl⟩
              go_wp2
              go_ret
              exact ⟨congrArg (fun z => Ending.returned (Value.int .i64 z)) HV.out.symm, rfl⟩
            · have hy39' : (y == 39) = false := by simpa using hy39
              have HV : Hid (lettersL (cs R) i = (-1 : Int)) := Lib.hid (HL.out.trans (by simp [hx34, hx39, hy56, hy34, hy39]))
              clear HL
              go_enter Tryz.func70, Tryz.ntmps70
              go_wp2_with fail
              refine H0.out.mono ?_
              rintro e w' ⟨rfl, rfl⟩
              go_wp2_with fail
              refine H1.out.mono ?_
              rintro e w' ⟨rfl, rfl⟩
              go_wp2_with fail
              refine H1.out.mono ?_
              rintro e w' ⟨rfl, rfl⟩
              go_wp2_with fail
              refine H1.out.mono ?_
              rintro e w' ⟨rfl, rfl⟩
              go_wp2
              go_ret
              exact ⟨congrArg (fun z => Ending.returned (Value.int .i64 z)) HV.out.symm, rfl⟩
      · have hx117' : (x == 117) = false := by simpa using hx117
        by_cases hx76 : x = 76
        · subst hx76
          by_cases hy34 : y = 34
          · subst hy34
            have HV : Hid (lettersL (cs R) i = (1 : Int)) := Lib.hid (HL.out.trans (by simp [hx34, hx39, hx117]))
            clear HL
            go_enter Tryz.func70, Tryz.ntmps70
            go_wp2_with fail
            refine H0.out.mono ?_
            rintro e w' ⟨rfl, rfl⟩
            go_wp2_with fail
            refine H1.out.mono ?_
            rintro e w' ⟨rfl, rfl⟩
            go_wp2
            go_ret
            exact ⟨congrArg (fun z => Ending.returned (Value.int .i64 z)) HV.out.symm, rfl⟩
          · have hy34' : (y == 34) = false := by simpa using hy34
            by_cases hy39 : y = 39
            · subst hy39
              have HV : Hid (lettersL (cs R) i = (1 : Int)) := Lib.hid (HL.out.trans (by simp [hx34, hx39, hx117, hy34]))
              clear HL
              go_enter Tryz.func70, Tryz.ntmps70
              go_wp2_with fail
              refine H0.out.mono ?_
              rintro e w' ⟨rfl, rfl⟩
              go_wp2_with fail
              refine H1.out.mono ?_
              rintro e w' ⟨rfl, rfl⟩
              go_wp2_with fail
              refine H1.out.mono ?_
              rintro e w' ⟨rfl, rfl⟩
              go_wp2
              go_ret
              exact ⟨congrArg (fun z => Ending.returned (Value.int .i64 z)) HV.out.symm, rfl⟩
            · have hy39' : (y == 39) = false := by simpa using hy39
              have HV : Hid (lettersL (cs R) i = (-1 : Int)) := Lib.hid (HL.out.trans (by simp [hx34, hx39, hx117, hy34, hy39]))
              clear HL
              go_enter Tryz.func70, Tryz.ntmps70
              go_wp2_with fail
              refine H0.out.mono ?_
              rintro e w' ⟨rfl, rfl⟩
              go_wp2_with fail
              refine H1.out.mono ?_
              rintro e w' ⟨rfl, rfl⟩
              go_wp2_with fail
              refine H1.out.mono ?_
              rintro e w' ⟨rfl, rfl⟩
              go_wp2
              go_ret
              exact ⟨congrArg (fun z => Ending.returned (Value.int .i64 z)) HV.out.symm, rfl⟩
        · have hx76' : (x == 76) = false := by simpa using hx76
          by_cases hx85 : x = 85
          · subst hx85
            by_cases hy34 : y = 34
            · subst hy34
              have HV : Hid (lettersL (cs R) i = (1 : Int)) := Lib.hid (HL.out.trans (by simp [hx34, hx39, hx117, hx76]))
              clear HL
              go_enter Tryz.func70, Tryz.ntmps70
              go_wp2_with fail
              refine H0.out.mono ?_
              rintro e w' ⟨rfl, rfl⟩
              go_wp2_with fail
              refine H1.out.mono ?_
              rintro e w' ⟨rfl, rfl⟩
              go_wp2
              go_ret
              exact ⟨congrArg (fun z => Ending.returned (Value.int .i64 z)) HV.out.symm, rfl⟩
            · have hy34' : (y == 34) = false := by simpa using hy34
              by_cases hy39 : y = 39
              · subst hy39
                have HV : Hid (lettersL (cs R) i = (1 : Int)) := Lib.hid (HL.out.trans (by simp [hx34, hx39, hx117, hx76, hy34]))
                clear HL
                go_enter Tryz.func70, Tryz.ntmps70
                go_wp2_with fail
                refine H0.out.mono ?_
                rintro e w' ⟨rfl, rfl⟩
                go_wp2_with fail
                refine H1.out.mono ?_
                rintro e w' ⟨rfl, rfl⟩
                go_wp2_with fail
                refine H1.out.mono ?_
                rintro e w' ⟨rfl, rfl⟩
                go_wp2
                go_ret
                exact ⟨congrArg (fun z => Ending.returned (Value.int .i64 z)) HV.out.symm, rfl⟩
              · have hy39' : (y == 39) = false := by simpa using hy39
                have HV : Hid (lettersL (cs R) i = (-1 : Int)) := Lib.hid (HL.out.trans (by simp [hx34, hx39, hx117, hx76, hy34, hy39]))
                clear HL
                go_enter Tryz.func70, Tryz.ntmps70
                go_wp2_with fail
                refine H0.out.mono ?_
                rintro e w' ⟨rfl, rfl⟩
                go_wp2_with fail
                refine H1.out.mono ?_
                rintro e w' ⟨rfl, rfl⟩
                go_wp2_with fail
                refine H1.out.mono ?_
                rintro e w' ⟨rfl, rfl⟩
                go_wp2
                go_ret
                exact ⟨congrArg (fun z => Ending.returned (Value.int .i64 z)) HV.out.symm, rfl⟩
          · have hx85' : (x == 85) = false := by simpa using hx85
            have HV : Hid (lettersL (cs R) i = (-1 : Int)) := Lib.hid (HL.out.trans (by simp [hx34, hx39, hx117, hx76, hx85]))
            clear HL
            go_enter Tryz.func70, Tryz.ntmps70
            go_wp2_with fail
            refine H0.out.mono ?_
            rintro e w' ⟨rfl, rfl⟩
            go_wp2
            go_ret
            exact ⟨congrArg (fun z => Ending.returned (Value.int .i64 z)) HV.out.symm, rfl⟩
end Go.Proofs.YtfaoamdlknlgpaaGreat
