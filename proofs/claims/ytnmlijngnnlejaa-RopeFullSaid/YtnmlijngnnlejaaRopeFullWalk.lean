/- RopeFull: the walk. -/
import Derived.Test.YtnmlijngnnlejaaRpLaw
namespace Go.Proofs.Ytnmlijngnnlejaa
open Go.RowKit
set_option linter.unusedVariables false

theorem insert_big_in {B g : Nat} {t : RT} (W : World) (hr : RAt W B t g) (ht : t.Good) (hB : B ≤ W.heap.size) (hl : t.text.length ≤ 65536) (x : Nat) (hx : x ≤ t.text.length) (s : ByteArray) (hs : 65536 < t.text.length + s.size) (hm : s.size ≤ 9223372036854775807) :
    Calls Try.prog 8 #[.pointer (some ⟨g, 0, none⟩), .int .i64 x, .string s] W fun e w' => e = .returned (.tuple #[.pointer none, .int .i64 4]) ∧ w' = W :=
  insert_big (o := some t) W ⟨ht, g, rfl, hr⟩ hl x hx s hs hm

set_option maxRecDepth 100000 in
set_option maxHeartbeats 8000000 in
theorem ropeFull_big (a0 a1 : Int) (ha1 : -9223372036854775808 ≤ a1 ∧ a1 ≤ 9223372036854775807) (h0 : 0 < a0) (h3 : a0 ≤ 3) (w : World) :
    Calls Try.prog 3 #[.int .i64 a0, .int .i64 a1] w fun e w' => e = .returned (.bool true) ∧ Below w.heap.size w w' := by
  have f1 : ¬ a0 < -3 := by omega
  have f2 : ¬ (3 : Int) < a0 := by omega
  obtain ⟨B, hB0⟩ : ∃ B, B = w.heap.size := ⟨_, rfl⟩
  have hB : B ≤ w.heap.size := by omega
  rw [← hB0]
  replace hB0 := Lib.hid hB0
  obtain ⟨C1, s1, z1, mk1, cv1⟩ := zeros_facts 60000 (by omega)
  obtain ⟨m, hm⟩ : ∃ m : Nat, (m : Int) = 5536 + a0 := ⟨(5536 + a0).toNat, by omega⟩
  obtain ⟨k, hk⟩ : ∃ k : Nat, (k : Int) = 65536 + a0 := ⟨(65536 + a0).toNat, by omega⟩
  obtain ⟨C2, s2, z2, mk2, cv2⟩ := zeros_facts m (by omega)
  obtain ⟨C3, s3, z3, mk3, cv3⟩ := zeros_facts k (by omega)
  have mk1' : ∀ w, (Instr.makeSlice 27 (.int .i64 60000) (.int .i64 60000)).run Try.prog w = .ok (.slice (some ⟨w.heap.size, 0, none⟩) 60000 60000) (w.alloc (.cells C1 5)) := mk1
  clear mk1
  rw [hm] at mk2
  rw [hk] at mk3
  have cv1w := cv1 w
  have HN := Lib.hid (new_in (B := B) s1 (by omega) (w.alloc (.cells C1 5)) (by simp; omega))
  have hrr := rndX_range a1 60001 (by omega)
  obtain ⟨x, hx⟩ : ∃ x : Nat, (x : Int) = rndX a1 60001 := ⟨(rndX a1 60001).toNat, by omega⟩
  have HR : Hid (∀ W, Calls Try.prog 9 #[.int .i64 a1, .int .i64 60001] W fun e w' => e = .returned (.int .i64 x) ∧ w' = W) := Lib.hid fun W => by rw [hx]; exact roundX_any a1 _ (by omega) (by omega) ha1 W
  have hxl : x ≤ 60000 := by omega
  have HBig : Hid (∀ W, Calls Try.prog 7 #[.string s3] W fun e w' => e = .returned (.tuple #[.pointer none, .int .i64 4]) ∧ w' = W) := Lib.hid fun W => new_big s3 (by omega) (by omega) W
  have g1 : IntKind.i64.wrap (5536 + a0) = 5536 + a0 := IntWalk.i64_in _ (by omega)
  have g2 : IntKind.i64.wrap (65536 + a0) = 65536 + a0 := IntWalk.i64_in _ (by omega)
  clear hrr hx ha1 cv1
  replace hm := Lib.hid hm
  replace hk := Lib.hid hk
  replace z1 := Lib.hid z1
  replace z2 := Lib.hid z2
  replace z3 := Lib.hid z3
  go_enter Try.func3, Try.ntmps3
  go_wp2_with fail
  refine HN.out.mono ?_
  rintro e w1 ⟨⟨g, t, rfl, r, d, tx⟩, k1⟩
  have tl : t.text.length = 60000 := by rw [tx, ← Lib.size_eq]; exact z1.out
  have K1 : KB B w w1 := (KB.of_below hB ((Below.refl _ w).alloc (Nat.le_refl _) _)).trans k1
  have sB := K1.size hB
  have HI : Hid (∀ W, KB B w1 W → Calls Try.prog 8 #[.pointer (some ⟨g, 0, none⟩), .int .i64 x, .string s2] W fun e w' => e = .returned (.tuple #[.pointer none, .int .i64 4]) ∧ w' = W) := Lib.hid fun W hkb =>
    insert_big_in W (hkb.ropes _ _ r) d (hkb.size sB) (by omega) x (by omega) s2 (by have := hm.out; rw [tl, z2.out]; omega) (by have := hm.out; rw [z2.out]; omega)
  replace K1 := Lib.hid K1
  replace k1 := Lib.hid k1
  clear HN tx tl d r
  have cv2b : (convert 27 9 (.slice (some ⟨w1.heap.size, 0, none⟩) m m)).run Try.prog (w1.alloc (.cells C2 5)).drew = .ok (.string s2) (w1.alloc (.cells C2 5)).drew := cv2 w1.drew
  clear cv2
  have q0 : KB B w1 (w1.alloc (.cells C2 5)).drew := KB.of_below sB ((Below.refl _ w1).alloc (Nat.le_refl _) _).drew
  go_wp2_with fail
  have tv : True := trivial
  go_region_with (first
    | (go_at_call 8; (with_reducible refine (HI.out _ q0).mono ?_); rintro e w' ⟨rfl, hw'⟩; replace hw' := hw'.symm; subst hw')
    | (go_at_call 9; (with_reducible refine (HR.out _).mono ?_); rintro e w' ⟨rfl, hw'⟩; replace hw' := hw'.symm; subst hw'))
  all_goals
    clear cv2b HI HR
    generalize (w1.alloc (.cells C2 5)).drew = w2 at q0 ⊢
    have cv3w := cv3 w2
    have K2 : KB B w w2 := K1.out.trans q0
    have K3 : KB B w (w2.alloc (.cells C3 5)) := K2.trans (KB.of_below (K2.size hB) ((Below.refl _ w2).alloc (Nat.le_refl _) _))
    have HAw := Lib.hid (awake_in (w2.alloc (.cells C3 5)) (K3.size hB))
    replace K3 := Lib.hid K3
    clear q0 K2
    go_wp2_with fail
    refine (HBig.out _).mono ?_
    rintro e w' ⟨rfl, hw'⟩
    replace hw' := hw'.symm
    subst hw'
    go_wp2_with fail
    refine HAw.out.mono ?_
    rintro e w4 ⟨rfl, k4⟩
    replace k4 := Lib.hid k4
    go_wp2
    go_ret
    exact ⟨rfl, K3.out.below.trans k4.out⟩
set_option maxRecDepth 100000 in
set_option maxHeartbeats 8000000 in
theorem ropeFull_fits (a0 a1 : Int) (ha1 : -9223372036854775808 ≤ a1 ∧ a1 ≤ 9223372036854775807) (h0 : ¬ 0 < a0) (h3 : -3 ≤ a0) (w : World) :
    Calls Try.prog 3 #[.int .i64 a0, .int .i64 a1] w fun e w' => e = .returned (.bool true) ∧ Below w.heap.size w w' := by
  have f1 : ¬ a0 < -3 := by omega
  have f2 : ¬ (3 : Int) < a0 := by omega
  obtain ⟨B, hB0⟩ : ∃ B, B = w.heap.size := ⟨_, rfl⟩
  have hB : B ≤ w.heap.size := by omega
  rw [← hB0]
  replace hB0 := Lib.hid hB0
  obtain ⟨C1, s1, z1, mk1, cv1⟩ := zeros_facts 60000 (by omega)
  obtain ⟨m, hm⟩ : ∃ m : Nat, (m : Int) = 5536 + a0 := ⟨(5536 + a0).toNat, by omega⟩
  obtain ⟨k, hk⟩ : ∃ k : Nat, (k : Int) = 65536 + a0 := ⟨(65536 + a0).toNat, by omega⟩
  obtain ⟨C2, s2, z2, mk2, cv2⟩ := zeros_facts m (by omega)
  obtain ⟨C3, s3, z3, mk3, cv3⟩ := zeros_facts k (by omega)
  have mk1' : ∀ w, (Instr.makeSlice 27 (.int .i64 60000) (.int .i64 60000)).run Try.prog w = .ok (.slice (some ⟨w.heap.size, 0, none⟩) 60000 60000) (w.alloc (.cells C1 5)) := mk1
  clear mk1
  rw [hm] at mk2
  rw [hk] at mk3
  have cv1w := cv1 w
  have HN := Lib.hid (new_in (B := B) s1 (by omega) (w.alloc (.cells C1 5)) (by simp; omega))
  have hrr := rndX_range a1 60001 (by omega)
  obtain ⟨x, hx⟩ : ∃ x : Nat, (x : Int) = rndX a1 60001 := ⟨(rndX a1 60001).toNat, by omega⟩
  have HR : Hid (∀ W, Calls Try.prog 9 #[.int .i64 a1, .int .i64 60001] W fun e w' => e = .returned (.int .i64 x) ∧ w' = W) := Lib.hid fun W => by rw [hx]; exact roundX_any a1 _ (by omega) (by omega) ha1 W
  have hxl : x ≤ 60000 := by omega
  have HBig : Hid (∀ W, B ≤ W.heap.size → Calls Try.prog 7 #[.string s3] W fun e w' => NewPost B s3.data.toList e w' ∧ KB B W w') := Lib.hid fun W hW => new_in s3 (by omega) W hW
  have g1 : IntKind.i64.wrap (5536 + a0) = 5536 + a0 := IntWalk.i64_in _ (by omega)
  have g2 : IntKind.i64.wrap (65536 + a0) = 65536 + a0 := IntWalk.i64_in _ (by omega)
  clear hrr hx ha1 cv1
  replace hm := Lib.hid hm
  replace hk := Lib.hid hk
  replace z1 := Lib.hid z1
  replace z2 := Lib.hid z2
  replace z3 := Lib.hid z3
  go_enter Try.func3, Try.ntmps3
  go_wp2_with fail
  refine HN.out.mono ?_
  rintro e w1 ⟨⟨g, t, rfl, r, d, tx⟩, k1⟩
  have tl : t.text.length = 60000 := by rw [tx, ← Lib.size_eq]; exact z1.out
  have K1 : KB B w w1 := (KB.of_below hB ((Below.refl _ w).alloc (Nat.le_refl _) _)).trans k1
  have sB := K1.size hB
  obtain ⟨L2, hL2⟩ : ∃ L2, L2 = t.text.take x ++ s2.data.toList ++ t.text.drop x := ⟨_, rfl⟩
  have sL2 : L2.length = k := by
    rw [hL2]
    simp only [List.length_append, List.length_take, List.length_drop]
    rw [← Lib.size_eq, tl, z2.out]
    have := hm.out
    have := hk.out
    omega
  have HI : Hid (∀ W, KB B w1 W → Calls Try.prog 8 #[.pointer (some ⟨g, 0, none⟩), .int .i64 x, .string s2] W fun e w' => NewPost B L2 e w' ∧ KB B W w') := Lib.hid fun W hkb => by
    rw [hL2]
    exact insert_in W (hkb.ropes _ _ r) d (hkb.size sB) x (by omega) s2 (by have := hm.out; rw [tl, z2.out]; omega)
  replace sL2 := Lib.hid sL2
  clear hL2
  replace K1 := Lib.hid K1
  replace k1 := Lib.hid k1
  clear HN tx tl d r
  have cv2b : (convert 27 9 (.slice (some ⟨w1.heap.size, 0, none⟩) m m)).run Try.prog (w1.alloc (.cells C2 5)).drew = .ok (.string s2) (w1.alloc (.cells C2 5)).drew := cv2 w1.drew
  clear cv2
  have q0 : KB B w1 (w1.alloc (.cells C2 5)).drew := KB.of_below sB ((Below.refl _ w1).alloc (Nat.le_refl _) _).drew
  go_wp2_with fail
  have tv : True := trivial
  go_region_with (first
    | (go_at_call 8; (with_reducible refine (HI.out _ q0).mono ?_); rintro e w2 ⟨⟨g2, t2, rfl, r2, d2, x2⟩, k2⟩)
    | (go_at_call 9; (with_reducible refine (HR.out _).mono ?_); rintro e w' ⟨rfl, hw'⟩; replace hw' := hw'.symm; subst hw'))
  all_goals
    clear cv2b HI HR
    have K2 : KB B w w2 := K1.out.trans (q0.trans k2)
    have cv3w := cv3 w2
    have k3 : KB B w2 (w2.alloc (.cells C3 5)) := KB.of_below (K2.size hB) ((Below.refl _ w2).alloc (Nat.le_refl _) _)
    have K3 : KB B w (w2.alloc (.cells C3 5)) := K2.trans k3
    have HBg := Lib.hid (HBig.out (w2.alloc (.cells C3 5)) (K3.size hB))
    have HLn : Hid (∀ W, KB B w2 W → Calls Try.prog 10 #[.pointer (some ⟨g2, 0, none⟩)] W fun e w' => e = .returned (.int .i64 (65536 + a0)) ∧ w' = W) := Lib.hid fun W hkb => by
      have h := len_at W (hkb.ropes _ _ r2) d2
      rw [x2, sL2.out, hk.out] at h
      exact h
    replace K3 := Lib.hid K3
    replace k3 := Lib.hid k3
    clear q0 K2 k2 r2 d2 x2
    go_wp2_with fail
    refine HBg.out.mono ?_
    rintro e w4 ⟨⟨g4, t4, rfl, r4, d4, x4⟩, k4⟩
    have HL4 := Lib.hid (HLn.out w4 (k3.out.trans k4))
    have K4 := Lib.hid (K3.out.trans k4)
    have HAw := Lib.hid (awake_in w4 (K4.out.size hB))
    clear k4 r4 d4 x4
    go_wp2_with fail
    refine HL4.out.mono ?_
    rintro e w' ⟨rfl, hw'⟩
    replace hw' := hw'.symm
    subst hw'
    go_wp2_with fail
    refine HAw.out.mono ?_
    rintro e w5 ⟨rfl, k5⟩
    replace k5 := Lib.hid k5
    go_wp2
    go_ret
    exact ⟨rfl, K4.out.below.trans k5.out⟩

theorem ropeFull_walk (a0 : Int) (w0 : (Lit.int .i64 a0).wf = true) (a1 : Int) (w1 : (Lit.int .i64 a1).wf = true) (w : World) :
    Calls Try.prog 3 #[.int .i64 a0, .int .i64 a1] w fun e w' => e = .returned (.bool true) ∧ Below w.heap.size w w' := by
  have ha := i64_arg w1
  clear w0 w1
  by_cases h1 : a0 < -3
  · have HW := Lib.hid (awake_in w (Nat.le_refl _))
    go_enter Try.func3, Try.ntmps3
    go_wp2_with fail
    refine HW.out.mono ?_
    rintro e w' ⟨rfl, hb⟩
    replace hb := Lib.hid hb
    go_wp2
    go_ret
    exact ⟨rfl, hb.out⟩
  by_cases h2 : 3 < a0
  · have HW := Lib.hid (awake_in w (Nat.le_refl _))
    go_enter Try.func3, Try.ntmps3
    go_wp2_with fail
    refine HW.out.mono ?_
    rintro e w' ⟨rfl, hb⟩
    replace hb := Lib.hid hb
    go_wp2
    go_ret
    exact ⟨rfl, hb.out⟩
  by_cases h0 : 0 < a0
  · exact ropeFull_big a0 a1 ha h0 (by omega) w
  · exact ropeFull_fits a0 a1 ha h0 (by omega) w
end Go.Proofs.Ytnmlijngnnlejaa
