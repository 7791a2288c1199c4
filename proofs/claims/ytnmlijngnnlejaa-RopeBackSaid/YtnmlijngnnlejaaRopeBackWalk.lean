/- RopeBack: the walk. -/
import Derived.Test.YtnmlijngnnlejaaRpLaw
namespace Go.Proofs.Ytnmlijngnnlejaa
open Go.RowKit
set_option linter.unusedVariables false

set_option maxRecDepth 100000 in
set_option maxHeartbeats 8000000 in
theorem ropeBack_walk (a0 : ByteArray) (w0 : a0.size ≤ maxLen) (a1 : Int) (w1 : (Lit.int .i64 a1).wf = true) (a2 : ByteArray) (w2 : a2.size ≤ maxLen) (w : World) :
    Calls Try.prog 5 #[.string a0, .int .i64 a1, .string a2] w fun e w' => e = .returned (.bool true) ∧ Below w.heap.size w w' := by
  have ha := i64_arg w1
  clear w0 w1 w2
  by_cases hbig : 3000 < a0.size
  · have f1 : (3000 : Int) < a0.size := by omega
    have HW := Lib.hid (awake_in w (Nat.le_refl _))
    go_enter Try.func5, Try.ntmps5
    go_wp2_with fail
    refine HW.out.mono ?_
    rintro e w' ⟨rfl, hb⟩
    replace hb := Lib.hid hb
    go_wp2
    go_ret
    exact ⟨rfl, hb.out⟩
  by_cases hbig2 : 3000 < a2.size
  · have f1 : ¬ (3000 : Int) < a0.size := by omega
    have f2 : (3000 : Int) < a2.size := by omega
    have HW := Lib.hid (awake_in w (Nat.le_refl _))
    go_enter Try.func5, Try.ntmps5
    go_wp2_with fail
    refine HW.out.mono ?_
    rintro e w' ⟨rfl, hb⟩
    replace hb := Lib.hid hb
    go_wp2
    go_ret
    exact ⟨rfl, hb.out⟩
  have f1 : ¬ (3000 : Int) < a0.size := by omega
  have f2 : ¬ (3000 : Int) < a2.size := by omega
  obtain ⟨B, hB0⟩ : ∃ B, B = w.heap.size := ⟨_, rfl⟩
  have hB : B ≤ w.heap.size := by omega
  rw [← hB0]
  replace hB0 := Lib.hid hB0
  have HN := Lib.hid (new_in (B := B) a0 (by omega) w hB)
  have hrr := rndX_range a1 ((a0.size : Int) + 1) (by omega)
  obtain ⟨x, hx⟩ : ∃ x : Nat, (x : Int) = rndX a1 ((a0.size : Int) + 1) := ⟨(rndX a1 ((a0.size : Int) + 1)).toNat, by omega⟩
  have HR : Hid (∀ W, Calls Try.prog 9 #[.int .i64 a1, .int .i64 ((a0.size : Int) + 1)] W fun e w' => e = .returned (.int .i64 x) ∧ w' = W) := Lib.hid fun W => by rw [hx]; exact roundX_any a1 _ (by omega) (by omega) ha W
  have hxl : x ≤ a0.size := by omega
  clear hrr hx ha
  obtain ⟨L, hL⟩ : ∃ L, L = a0.data.toList := ⟨_, rfl⟩
  obtain ⟨M, hM⟩ : ∃ M, M = a2.data.toList := ⟨_, rfl⟩
  have sL : L.length = a0.size := by rw [hL, Lib.size_eq]
  have sM : M.length = a2.size := by rw [hM, Lib.size_eq]
  obtain ⟨T, hT⟩ : ∃ T, T = L.take x ++ M ++ L.drop x := ⟨_, rfl⟩
  have sT : T.length = a0.size + a2.size := by rw [hT]; simp only [List.length_append, List.length_take, List.length_drop]; omega
  have sX : (L.take x).length = x := by rw [List.length_take]; omega
  have p1 : T.take x = L.take x := by rw [hT, List.append_assoc, List.take_append_of_le_length (by omega), List.take_of_length_le (by omega)]
  have p2 : T.drop x = M ++ L.drop x := by rw [hT, List.append_assoc, List.drop_append_of_le_length (by omega), List.drop_of_length_le (by omega), List.nil_append]
  have p3 : T.drop (x + a2.size) = L.drop x := by rw [← List.drop_drop, p2, ← sM, List.drop_left]
  obtain ⟨P, hP⟩ : ∃ P : ByteArray, P.data.toList = L.take x := ⟨⟨(L.take x).toArray⟩, rfl⟩
  obtain ⟨Q, hQ⟩ : ∃ Q : ByteArray, Q.data.toList = L.drop x := ⟨⟨(L.drop x).toArray⟩, rfl⟩
  have hPQ : P ++ Q = a0 := by
    have e : (P ++ Q).data.toList = a0.data.toList := by rw [ByteArray.data_append]; simp only [Array.toList_append]; rw [hP, hQ, List.take_append_drop, hL]
    have e2 := Array.toList_inj.1 e
    cases a0
    simp only at e2
    rw [← e2]
  have hPs : P.size + Q.size ≤ 9223372036854775807 := by rw [← ByteArray.size_append, hPQ]; omega
  replace hL := Lib.hid hL
  replace hM := Lib.hid hM
  replace sL := Lib.hid sL
  replace sM := Lib.hid sM
  replace sX := Lib.hid sX
  replace hT := Lib.hid hT
  replace sT := Lib.hid sT
  replace p1 := Lib.hid p1
  replace p2 := Lib.hid p2
  replace p3 := Lib.hid p3
  replace hP := Lib.hid hP
  replace hQ := Lib.hid hQ
  have z1 : (x : Int) ≤ a0.size := by omega
  go_enter Try.func5, Try.ntmps5
  go_wp2_with fail
  refine HN.out.mono ?_
  rintro e w1 ⟨⟨g0, t0, rfl, r0, d0, x0⟩, k1⟩
  rw [← hL.out] at x0
  have HI := insert_in w1 r0 d0 (k1.size hB) x (by rw [x0, sL.out]; exact hxl) a2 (by rw [x0, sL.out]; omega)
  rw [x0, ← hM.out, ← hT.out] at HI
  replace HI := Lib.hid HI
  replace k1 := Lib.hid k1
  clear r0 d0 x0 HN
  go_wp2_with fail
  refine (HR.out w1).mono ?_
  rintro e w' ⟨rfl, hw'⟩
  replace hw' := hw'.symm
  subst hw'
  go_wp2_with fail
  refine HI.out.mono ?_
  rintro e w2 ⟨⟨g, t, rfl, r, d, tx⟩, k2⟩
  replace k2 := k1.out.trans k2
  have sB := k2.size hB
  have sl : t.text.length ≤ 1000000 := by rw [tx, sT.out]; omega
  have HD := delete_in w2 r d sB sl x (x + a2.size) (by omega) (by rw [tx, sT.out]; omega)
  rw [tx, p1.out, p3.out, List.take_append_drop, hL.out, show ((x + a2.size : Nat) : Int) = (x : Int) + (a2.size : Int) by omega] at HD
  replace HD := Lib.hid HD
  have HS1 : Hid (∀ W, KB B w2 W → Calls Try.prog 15 #[.pointer (some ⟨g, 0, none⟩), .int .i64 x, .int .i64 ((x : Int) + (a2.size : Int))] W fun e w' => e = .returned (.tuple #[.string a2, .int .i64 0]) ∧ KB B W w') := Lib.hid fun W hk => by
    have h := slice_in W (hk.ropes _ _ r) d (hk.size sB) sl x (x + a2.size) (by omega) (by rw [tx, sT.out]; omega) a2 (by rw [tx, p2.out, Nat.add_sub_cancel_left, ← sM.out, List.take_left, hM.out])
    rw [show ((x + a2.size : Nat) : Int) = (x : Int) + (a2.size : Int) by omega] at h
    exact h
  have HS2 : Hid (∀ W, KB B w2 W → Calls Try.prog 15 #[.pointer (some ⟨g, 0, none⟩), .int .i64 0, .int .i64 x] W fun e w' => e = .returned (.tuple #[.string P, .int .i64 0]) ∧ KB B W w') := Lib.hid fun W hk =>
    slice_in W (hk.ropes _ _ r) d (hk.size sB) sl 0 x (by omega) (by rw [tx, sT.out]; omega) P (by rw [tx, List.drop_zero, Nat.sub_zero, p1.out, hP.out])
  have HS3 : Hid (∀ W, KB B w2 W → Calls Try.prog 15 #[.pointer (some ⟨g, 0, none⟩), .int .i64 ((x : Int) + (a2.size : Int)), .int .i64 ((a0.size : Int) + (a2.size : Int))] W fun e w' => e = .returned (.tuple #[.string Q, .int .i64 0]) ∧ KB B W w') := Lib.hid fun W hk => by
    have h := slice_in W (hk.ropes _ _ r) d (hk.size sB) sl (x + a2.size) (a0.size + a2.size) (by omega) (by rw [tx, sT.out]; omega) Q (by rw [tx, p3.out, hQ.out, List.take_of_length_le]; rw [List.length_drop, sL.out]; omega)
    rw [show ((x + a2.size : Nat) : Int) = (x : Int) + (a2.size : Int) by omega, show ((a0.size + a2.size : Nat) : Int) = (a0.size : Int) + (a2.size : Int) by omega] at h
    exact h
  have HL : Hid (∀ W, KB B w2 W → Calls Try.prog 10 #[.pointer (some ⟨g, 0, none⟩)] W fun e w' => e = .returned (.int .i64 ((a0.size : Int) + (a2.size : Int))) ∧ w' = W) := Lib.hid fun W hk => by
    have h := len_at W (hk.ropes _ _ r) d
    rw [tx, sT.out, show ((a0.size + a2.size : Nat) : Int) = (a0.size : Int) + (a2.size : Int) by omega] at h
    exact h
  have hct := cnt_take_le T x
  have hzl := nlEnd_take_le T x
  obtain ⟨c, hc⟩ : ∃ c, c = (T.take x).count 10 := ⟨_, rfl⟩
  obtain ⟨z, hz⟩ : ∃ z, z = nlEnd T c := ⟨_, rfl⟩
  have HLn : Hid (∀ W, KB B w2 W → Calls Try.prog 13 #[.pointer (some ⟨g, 0, none⟩), .int .i64 x] W fun e w' => e = .returned (.tuple #[.int .i64 c, .int .i64 ((x : Int) - (z : Int)), .int .i64 0]) ∧ KB B W w') := Lib.hid fun W hk => by
    have h := line_in W (hk.ropes _ _ r) d (hk.size sB) sl x (by rw [tx, sT.out]; omega)
    rw [tx, ← hc, ← hz] at h
    exact h
  have HSt : Hid (∀ W, KB B w2 W → Calls Try.prog 12 #[.pointer (some ⟨g, 0, none⟩), .int .i64 c] W fun e w' => e = .returned (.tuple #[.int .i64 z, .int .i64 0]) ∧ KB B W w') := Lib.hid fun W hk => by
    have h := start_in W (hk.ropes _ _ r) d (hk.size sB) sl c (by rw [tx, hc]; exact hct)
    rw [tx, ← hz] at h
    exact h
  obtain ⟨cl, hcl⟩ : ∃ cl, cl = T.count 10 := ⟨_, rfl⟩
  have HLs : Hid (∀ W, KB B w2 W → Calls Try.prog 11 #[.pointer (some ⟨g, 0, none⟩)] W fun e w' => e = .returned (.int .i64 ((cl : Int) + 1)) ∧ KB B W w') := Lib.hid fun W hk => by
    have h := lines_in W (hk.ropes _ _ r) (hk.size sB) sl
    rw [tx, ← hcl] at h
    exact h
  have y1 : (c : Int) < (cl : Int) + 1 := by rw [← hc, ← hcl] at hct; omega
  have y2 : (z : Int) ≤ (x : Int) := by rw [← hc, ← hz] at hzl; omega
  have y3 : (z : Int) + ((x : Int) - (z : Int)) = (x : Int) := by omega
  have y4 : (cl : Int) ≤ 10000 := by
    have := List.count_le_length (a := (10 : UInt8)) (l := T)
    rw [← hcl, sT.out] at this
    omega
  clear hct hzl hc hz hcl tx sl d r HI HR
  replace k2 := Lib.hid k2
  replace sB := Lib.hid sB
  go_wp2_with fail
  refine HD.out.mono ?_
  rintro e w3 ⟨⟨g3, t3, rfl, r3, d3, x3⟩, k3⟩
  have HT3 : Hid (∀ W, KB B w3 W → Calls Try.prog 16 #[.pointer (some ⟨g3, 0, none⟩)] W fun e w' => e = .returned (.string a0) ∧ KB B W w') := Lib.hid fun W hk =>
    text_in W (hk.ropes _ _ r3) d3 (hk.size (k3.size sB.out)) (by rw [x3, ← Lib.size_eq]; omega) a0 x3
  have S1 := Lib.hid (HS1.out _ k3)
  have k23 := Lib.hid k3
  clear k3 HD x3 d3 r3
  go_wp2_with fail
  refine S1.out.mono ?_
  rintro e w4 ⟨rfl, k4⟩
  have k24 := Lib.hid (k23.out.trans k4)
  have k34 := Lib.hid k4
  have S2 := Lib.hid (HS2.out _ k24.out)
  clear k4 S1
  go_wp2_with fail
  refine S2.out.mono ?_
  rintro e w5 ⟨rfl, k5⟩
  have k25 := Lib.hid (k24.out.trans k5)
  have k35 := Lib.hid (k34.out.trans k5)
  have SL := Lib.hid (HL.out _ k25.out)
  have S3 := Lib.hid (HS3.out _ k25.out)
  clear k5 S2
  go_wp2_with fail
  refine SL.out.mono ?_
  rintro e w' ⟨rfl, hw'⟩
  replace hw' := hw'.symm
  subst hw'
  go_wp2_with fail
  refine S3.out.mono ?_
  rintro e w6 ⟨rfl, k6⟩
  have k26 := Lib.hid (k25.out.trans k6)
  have k36 := Lib.hid (k35.out.trans k6)
  have S4 := Lib.hid (HT3.out _ k36.out)
  clear k6 S3
  go_wp2_with fail
  refine S4.out.mono ?_
  rintro e w7 ⟨rfl, k7⟩
  have k27 := Lib.hid (k26.out.trans k7)
  have S5 := Lib.hid (HLn.out _ k27.out)
  clear k7 S4
  go_wp2_with fail
  refine S5.out.mono ?_
  rintro e w8 ⟨rfl, k8⟩
  have k28 := Lib.hid (k27.out.trans k8)
  have S6 := Lib.hid (HSt.out _ k28.out)
  clear k8 S5
  go_wp2_with fail
  refine S6.out.mono ?_
  rintro e w9 ⟨rfl, k9⟩
  have k29 := Lib.hid (k28.out.trans k9)
  have S7 := Lib.hid (HLs.out _ k29.out)
  clear k9 S6
  go_wp2_with fail
  refine S7.out.mono ?_
  rintro e w10 ⟨rfl, k10⟩
  have kk := Lib.hid (k2.out.trans (k29.out.trans k10))
  have S8 := Lib.hid (awake_in w10 (kk.out.size hB))
  clear k10 S7
  go_wp2_with fail
  refine S8.out.mono ?_
  rintro e w11 ⟨rfl, k11⟩
  replace k11 := Lib.hid k11
  go_wp2
  go_ret
  exact ⟨rfl, kk.out.below.trans k11.out⟩
end Go.Proofs.Ytnmlijngnnlejaa
