/- PathsClean: the walk. -/
import Derived.Test.YtemgjcicikoadaaDoorPa11
namespace Go.Proofs.YtemgjcicikoadaaDoor
open Go.RowKit
set_option linter.unusedVariables false

set_option maxRecDepth 100000 in
set_option maxHeartbeats 1000000 in
theorem pathsClean_walk (d : ByteArray) (w0 : d.size ≤ 9223372036854775807) (p : ByteArray) (w1 : p.size ≤ 9223372036854775807) (w : World) :
    Calls Tryd.prog 3 #[.string d, .string p] w fun e w' => e = .returned (.bool true) ∧ Below w.heap.size w w' := by
  have HA := Lib.hid pawake_any
  by_cases hd : d.size ≤ 300
  · have e0 : ¬ (300 : Int) < (d.size : Int) := by omega
    by_cases hp : p.size ≤ 300
    · have e1 : ¬ (300 : Int) < (p.size : Int) := by omega
      obtain ⟨o, ho⟩ : ∃ o, cleanP p.data.toList = o := ⟨_, rfl⟩
      obtain ⟨q, hq⟩ : ∃ q, joinedP d.data.toList p.data.toList = q := ⟨_, rfl⟩
      have C1 := Lib.hid (pclean_res p (by omega) o ho)
      have C2 := Lib.hid (rclean_res p (by omega) o ho)
      have C3 := Lib.hid (pjoin_res d p (by omega) q hq)
      have C4 := Lib.hid (rjoin_res d p (by omega) q hq)
      have C5 := fun w => pvalid_any p (by omega) w
      have C6 := fun w => rvalid_any p (by omega) w
      obtain ⟨b, hb⟩ : ∃ b, b = decide (ValidP p.data.toList) := ⟨_, rfl⟩
      rw [← hb] at C5 C6
      replace C5 := Lib.hid C5
      replace C6 := Lib.hid C6
      have C7 := Lib.hid (fun w => dir_any p (by omega) w)
      have C8 := Lib.hid (fun w => rdir_any p (by omega) w)
      replace ho := Lib.hid ho
      replace hq := Lib.hid hq
      replace hb := Lib.hid hb
      go_enter Tryd.func3, Tryd.ntmps3
      go_wp2_with fail
      refine (C1.out _).mono ?_
      rintro e w1 ⟨rfl, b1⟩
      rcases o with _ | l <;> rcases q with _ | m
      all_goals
        dsimp only [resV] at C2 C3 C4 ⊢
        go_wp2_with fail
        refine (C2.out _).mono ?_
        rintro e w2 ⟨rfl, b2⟩
        have B2 := bstep b1 b2 b1.size
        go_wp2_with fail
        refine (C3.out _).mono ?_
        rintro e w3 ⟨rfl, b3⟩
        have B3 := bstep B2 b3 B2.size
        go_wp2_with fail
        refine (C4.out _).mono ?_
        rintro e w4 ⟨rfl, b4⟩
        have B4 := bstep B3 b4 B3.size
        go_wp2_with fail
        refine (C5.out _).mono ?_
        rintro e w5 ⟨rfl, b5⟩
        have B5 := bstep B4 b5 B4.size
        go_wp2_with fail
        refine (C6.out _).mono ?_
        rintro e w6 ⟨rfl, b6⟩
        have B6 := bstep B5 b6 B5.size
        have HC7 := C7.out w6
        clear b1 b2 b3 b4 b5 b6 B2 B3 B4 B5 C1 C2 C3 C4 C5 C6
        go_wp2_with fail
        refine HC7.mono ?_
        rintro e w' ⟨⟨r1, rfl, hr1⟩, hw'⟩
        replace hw' := hw'.symm
        subst hw'
        replace hr1 := Lib.hid hr1
        clear HC7
        go_wp2_with fail
        refine (C8.out _).mono ?_
        rintro e w' ⟨⟨r2, rfl, hr2⟩, hw'⟩
        replace hw' := hw'.symm
        subst hw'
        obtain rfl : r1 = r2 := ext_toList (hr1.out.same hr2)
        clear hr1 hr2
        go_wp2_with fail
        refine (HA.out _).mono ?_
        rintro e w7 ⟨rfl, b7⟩
        have B7 := bstep B6 b7 B6.size
        go_wp2
        go_ret
        exact ⟨by simp, B7⟩
    · have e1 : (300 : Int) < (p.size : Int) := by omega
      go_enter Tryd.func3, Tryd.ntmps3
      go_wp2_with fail
      refine (HA.out _).mono ?_
      rintro e w7 ⟨rfl, b7⟩
      go_wp2
      go_ret
      exact ⟨rfl, b7⟩
  · have e0 : (300 : Int) < (d.size : Int) := by omega
    go_enter Tryd.func3, Tryd.ntmps3
    go_wp2_with fail
    refine (HA.out _).mono ?_
    rintro e w7 ⟨rfl, b7⟩
    go_wp2
    go_ret
    exact ⟨rfl, b7⟩
end Go.Proofs.YtemgjcicikoadaaDoor
