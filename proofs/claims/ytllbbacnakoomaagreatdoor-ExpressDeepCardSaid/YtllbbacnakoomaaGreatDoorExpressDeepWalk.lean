
/- ExpressDeep: the walk. -/
import Derived.Test.YtllbbacnakoomaaGreatDoorLwX
import Derived.Test.YtllbbacnakoomaaGreatDoorExpressDeepSpec
namespace Go.Proofs.YtllbbacnakoomaaGreatDoor
open Go.RowKit
set_option linter.unusedVariables false

theorem sgn_snoc : ∀ i, sgnT i ++ [33, 32] = sgnT (i + 1)
  | 0 => rfl
  | i + 1 => by show 33 :: 32 :: (sgnT i ++ [33, 32]) = _; rw [sgn_snoc i]; rfl
theorem rep_snoc (c : UInt8) (i : Nat) : List.replicate i c ++ [c] = List.replicate (i + 1) c := by rw [List.replicate_succ']
theorem sgn_len : ∀ i, (sgnT i).length = 2 * i
  | 0 => rfl
  | i + 1 => by simp only [sgnT, List.length_cons, sgn_len i]; omega

set_option maxHeartbeats 8000000 in
set_option maxRecDepth 100000 in
theorem deep_main (n m : Nat) (hn : n ≤ 80) (hm : m ≤ 400) (dp : Bool) (hdp : dp = decide (200 < 3 * (n + 1))) (w : World) (hsp : SpTab w) :
    Calls Tryz.prog 4 #[.int .i64 n, .int .i64 m] w fun e w' => e = .returned (.bool true) ∧ Below w.heap.size w w' := by
  have hA := Lib.hid (fun (y : World) (hy : Below w.heap.size w y) => awake20_any y (hsp.below hy))
  obtain ⟨o, ho1, ho2⟩ := sgn_any (n := m) hm
  have hn0 : ¬ (n : Int) < 0 := by omega
  have hn1 : ¬ (80 : Int) < n := by omega
  have hm0 : ¬ (m : Int) < 0 := by omega
  have hm1 : ¬ (400 : Int) < m := by omega
  have hW : (brkW n) = if dp = true then [] else ([40, 110, 97, 109, 101, 32, 120, 41] : List UInt8) := by
    unfold brkW
    rw [hdp]
    by_cases h : 3 * (n + 1) > 200
    · rw [if_pos h, decide_eq_true h, if_pos rfl]
    · rw [if_neg h, decide_eq_false h, if_neg (by simp)]
  have HW1 : Hid (∀ S : ByteArray, S.data.toList = brkS n → ∀ y, Below w.heap.size w y → Calls Tryz.prog 18 #[.string S, .slice none 0 0] y fun e w' => e = .returned (.string (if dp = true then ⟨#[]⟩ else (⟨#[40, 110, 97, 109, 101, 32, 120, 41]⟩ : ByteArray))) ∧ Below y.heap.size y w') := Lib.hid fun S hS y hy => by
    have h := wr20 hsp S (by rw [← dsz, hS]; unfold brkS; simp; omega) (brkW n) (by rw [hS]; exact brk_any hn) (by rw [hW]; split <;> simp) y hy
    rw [hW] at h
    cases dp <;> exact h
  have HW2 : Hid (∀ S : ByteArray, S.data.toList = sgnT m ++ ([120] : List UInt8) → ∀ y, Below w.heap.size w y → Calls Tryz.prog 18 #[.string S, .slice none 0 0] y fun e w' => e = .returned (.string ⟨o.toArray⟩) ∧ Below y.heap.size y w') := Lib.hid fun S hS y hy =>
    wr20 hsp S (by rw [← dsz, hS, List.length_append, sgn_len]; simp; omega) o (by rw [hS]; exact ho1) (by omega) y hy
  obtain ⟨U, hU⟩ : ∃ U : ByteArray, U = ⟨o.toArray⟩ := ⟨_, rfl⟩
  have hUs : (U.size : Int) = 8 + 10 * (m : Int) := by
    rw [hU]; show ((o.toArray.size : Nat) : Int) = _; rw [List.size_toArray, ho2]; omega
  rw [← hU] at HW2
  have hUb : ((U.size : Int) == 8 + 10 * (m : Int)) = true := by rw [hUs]; simp
  have g10 : IntKind.i64.wrap (10 * (m : Int)) = 10 * (m : Int) := IntWalk.i64_in _ (by omega)
  have g18 : IntKind.i64.wrap (8 + 10 * (m : Int)) = 8 + 10 * (m : Int) := IntWalk.i64_in _ (by omega)
  have g11 : IntKind.i64.wrap ((n : Int) + 1) = (n : Int) + 1 := IntWalk.i64_in _ (by omega)
  have g33 : IntKind.i64.wrap (3 * ((n : Int) + 1)) = 3 * ((n : Int) + 1) := IntWalk.i64_in _ (by omega)
  have hb0 : Hid (Below w.heap.size w w) := Lib.hid (Below.refl _ _)
  replace hUs := Lib.hid hUs
  replace hUb := Lib.hid hUb
  replace hU := Lib.hid hU
  clear ho1 ho2 hW hsp
  replace hdp := Lib.hid hdp
  go_enter Tryz.func4, Tryz.ntmps4
  go_upto_region 5 with fail
  go_loopg [5, 6] n (fun k v5 v6 wx => ∃ (i : Nat) (S : ByteArray), k = n - i ∧ i ≤ n ∧ v6 = .int .i64 i ∧ v5 = .string S ∧ Hid (S.data.toList = List.replicate i 40) ∧ Hid (Below w.heap.size w wx))
  case atStart => exact ⟨0, _, rfl, Nat.zero_le _, rfl, rfl, Lib.hid rfl, hb0⟩
  case round =>
    obtain ⟨i, S, hk, hi, rfl, rfl, hS, hb⟩ := hrel
    replace hk := hk.symm
    subst hk
    have hSs : S.size = i := by rw [← dsz, hS.out, List.length_replicate]
    by_cases hin : i < n
    · have hin' : (i : Int) < n := by omega
      have g1 : IntKind.i64.wrap ((i : Int) + 1) = (i : Int) + 1 := IntWalk.i64_in _ (by omega)
      have f4 : Hid (n - (i + 1) < n - i) := Lib.hid (by omega)
      have hcat : S.size + 1 ≤ 9223372036854775807 := by omega
      have hcat2 : ¬ 9223372036854775807 < S.size + 1 := by omega
      replace hSs := Lib.hid hSs
      go_wp2
      go_roundg (n - (i + 1))
      case measure => exact f4.out
      case rel => exact ⟨i + 1, _, rfl, by omega, by simp, rfl, Lib.hid (by rw [da, hS.out, ← rep_snoc]), hb⟩
    · obtain rfl : i = n := by omega
      have hin' : ¬ (i : Int) < (i : Int) := by omega
      have hcat : S.size + 1 ≤ 9223372036854775807 := by omega
      replace hSs := Lib.hid hSs
      have hcat2 : ¬ 9223372036854775807 < S.size + 1 := by omega
      go_upto_region 10 with fail
      go_loopg [5, 7] i (fun k v5 v7 wx => ∃ (j : Nat) (S2 : ByteArray), k = i - j ∧ j ≤ i ∧ v7 = .int .i64 j ∧ v5 = .string S2 ∧ Hid (S2.data.toList = List.replicate i 40 ++ (([120] : List UInt8) ++ List.replicate j 41)) ∧ Hid (Below w.heap.size w wx))
      case atStart => exact ⟨0, _, rfl, Nat.zero_le _, rfl, rfl, Lib.hid (by rw [da, hS.out]; simp), hb⟩
      case round =>
        clear hb hS hSs hcat hcat2
        obtain ⟨j, S2, hk, hj, rfl, rfl, hS2, hb⟩ := hrel
        replace hk := hk.symm
        subst hk
        have hSs : S2.size = i + (1 + j) := by rw [← dsz, hS2.out, List.length_append, List.length_append, List.length_replicate, List.length_replicate]; rfl
        by_cases hin : j < i
        · have hin' : (j : Int) < i := by omega
          have g1 : IntKind.i64.wrap ((j : Int) + 1) = (j : Int) + 1 := IntWalk.i64_in _ (by omega)
          have f4 : Hid (i - (j + 1) < i - j) := Lib.hid (by omega)
          have hcat : S2.size + 1 ≤ 9223372036854775807 := by omega
          have hcat2 : ¬ 9223372036854775807 < S2.size + 1 := by omega
          replace hSs := Lib.hid hSs
          go_wp2
          go_roundg (i - (j + 1))
          case measure => exact f4.out
          case rel => exact ⟨j + 1, _, rfl, by omega, by simp, rfl, Lib.hid (by rw [da, hS2.out, ← rep_snoc]; simp), hb⟩
        · obtain rfl : j = i := by omega
          have hin' : ¬ (j : Int) < (j : Int) := by omega
          replace hSs := Lib.hid hSs
          have hdp := hdp.out
          cases dp with
          | true =>
            have hgt : (200 : Int) < 3 * ((j : Int) + 1) := by have := of_decide_eq_true hdp.symm; omega
            replace hdp := Lib.hid hdp
            go_upto_region 18 with fail
            go_loopg [9, 10] m (fun k v9 v10 wx => ∃ (q : Nat) (S3 : ByteArray), k = m - q ∧ q ≤ m ∧ v10 = .int .i64 q ∧ v9 = .string S3 ∧ Hid (S3.data.toList = sgnT q) ∧ Hid (Below w.heap.size w wx))
            case atStart => exact ⟨0, _, rfl, Nat.zero_le _, rfl, rfl, Lib.hid rfl, hb⟩
            case round =>
              clear hb
              obtain ⟨q, S3, hk, hq, rfl, rfl, hS3, hb⟩ := hrel
              replace hk := hk.symm
              subst hk
              have hSs : S3.size = 2 * q := by rw [← dsz, hS3.out, sgn_len]
              by_cases hin : q < m
              · have hin' : (q : Int) < m := by omega
                have g1 : IntKind.i64.wrap ((q : Int) + 1) = (q : Int) + 1 := IntWalk.i64_in _ (by omega)
                have f4 : Hid (m - (q + 1) < m - q) := Lib.hid (by omega)
                have hcat : S3.size + 2 ≤ 9223372036854775807 := by omega
                have hcat2 : ¬ 9223372036854775807 < S3.size + 2 := by omega
                replace hSs := Lib.hid hSs
                go_wp2
                go_roundg (m - (q + 1))
                case measure => exact f4.out
                case rel => exact ⟨q + 1, _, rfl, by omega, by simp, rfl, Lib.hid (by rw [da, hS3.out, ← sgn_snoc]), hb⟩
              · obtain rfl : q = m := by omega
                have hin' : ¬ (q : Int) < (q : Int) := by omega
                have hcat : S3.size + 1 ≤ 9223372036854775807 := by omega
                have hcat2 : ¬ 9223372036854775807 < S3.size + 1 := by omega
                have H2 := HW2.out (S3 ++ (⟨#[120]⟩ : ByteArray)) (by rw [da, hS3.out])
                have H1 := HW1.out S2 hS2.out
                replace hSs := Lib.hid hSs
                replace H2 := Lib.hid H2
                replace H1 := Lib.hid H1
                clear HW1 HW2
                go_wp2_with fail
                refine (H2.out _ hb.out).mono ?_
                rintro e w2 ⟨rfl, hb2⟩
                replace hb := Lib.hid (hb.out.trans (hb2.mono hb.out.size))
                clear hb2
                go_wp2_with fail
                refine (H1.out _ hb.out).mono ?_
                rintro e w3 ⟨rfl, hb2⟩
                replace hb := Lib.hid (hb.out.trans (hb2.mono hb.out.size))
                clear hb2
                replace hUb := hUb.out
                go_wp2_with fail
                refine (hA.out _ hb.out).mono ?_
                rintro e w4 ⟨rfl, hb2⟩
                replace hb := Lib.hid (hb.out.trans (hb2.mono hb.out.size))
                clear hb2
                go_wp2_with fail
                go_ret
                exact ⟨rfl, hb.out⟩
          | false =>
            have hgt : ¬ (200 : Int) < 3 * ((j : Int) + 1) := by have := of_decide_eq_false hdp.symm; omega
            replace hdp := Lib.hid hdp
            go_upto_region 18 with fail
            go_loopg [9, 10] m (fun k v9 v10 wx => ∃ (q : Nat) (S3 : ByteArray), k = m - q ∧ q ≤ m ∧ v10 = .int .i64 q ∧ v9 = .string S3 ∧ Hid (S3.data.toList = sgnT q) ∧ Hid (Below w.heap.size w wx))
            case atStart => exact ⟨0, _, rfl, Nat.zero_le _, rfl, rfl, Lib.hid rfl, hb⟩
            case round =>
              clear hb
              obtain ⟨q, S3, hk, hq, rfl, rfl, hS3, hb⟩ := hrel
              replace hk := hk.symm
              subst hk
              have hSs : S3.size = 2 * q := by rw [← dsz, hS3.out, sgn_len]
              by_cases hin : q < m
              · have hin' : (q : Int) < m := by omega
                have g1 : IntKind.i64.wrap ((q : Int) + 1) = (q : Int) + 1 := IntWalk.i64_in _ (by omega)
                have f4 : Hid (m - (q + 1) < m - q) := Lib.hid (by omega)
                have hcat : S3.size + 2 ≤ 9223372036854775807 := by omega
                have hcat2 : ¬ 9223372036854775807 < S3.size + 2 := by omega
                replace hSs := Lib.hid hSs
                go_wp2
                go_roundg (m - (q + 1))
                case measure => exact f4.out
                case rel => exact ⟨q + 1, _, rfl, by omega, by simp, rfl, Lib.hid (by rw [da, hS3.out, ← sgn_snoc]), hb⟩
              · obtain rfl : q = m := by omega
                have hin' : ¬ (q : Int) < (q : Int) := by omega
                have hcat : S3.size + 1 ≤ 9223372036854775807 := by omega
                have hcat2 : ¬ 9223372036854775807 < S3.size + 1 := by omega
                have H2 := HW2.out (S3 ++ (⟨#[120]⟩ : ByteArray)) (by rw [da, hS3.out])
                have H1 := HW1.out S2 hS2.out
                replace hSs := Lib.hid hSs
                replace H2 := Lib.hid H2
                replace H1 := Lib.hid H1
                clear HW1 HW2
                go_wp2_with fail
                refine (H2.out _ hb.out).mono ?_
                rintro e w2 ⟨rfl, hb2⟩
                replace hb := Lib.hid (hb.out.trans (hb2.mono hb.out.size))
                clear hb2
                go_wp2_with fail
                refine (H1.out _ hb.out).mono ?_
                rintro e w3 ⟨rfl, hb2⟩
                replace hb := Lib.hid (hb.out.trans (hb2.mono hb.out.size))
                clear hb2
                replace hUb := hUb.out
                go_wp2_with fail
                refine (hA.out _ hb.out).mono ?_
                rintro e w4 ⟨rfl, hb2⟩
                replace hb := Lib.hid (hb.out.trans (hb2.mono hb.out.size))
                clear hb2
                go_wp2_with fail
                go_ret
                exact ⟨rfl, hb.out⟩

set_option maxHeartbeats 4000000 in
set_option maxRecDepth 100000 in
theorem expressDeep_walk (a0 : Int) (w0 : (Lit.int .i64 a0).wf = true) (a1 : Int) (w1 : (Lit.int .i64 a1).wf = true) (w : World) (hsp : SpTab w) :
    Calls Tryz.prog 4 #[.int .i64 a0, .int .i64 a1] w fun e w' => e = .returned (.bool true) ∧ Below w.heap.size w w' := by
  have hA := Lib.hid (awake20_any w hsp)
  have hne : (a0 < 0) ∨ (¬ a0 < 0 ∧ 80 < a0) ∨ (¬ a0 < 0 ∧ ¬ 80 < a0 ∧ a1 < 0) ∨ (¬ a0 < 0 ∧ ¬ 80 < a0 ∧ ¬ a1 < 0 ∧ 400 < a1) ∨ (0 ≤ a0 ∧ a0 ≤ 80 ∧ 0 ≤ a1 ∧ a1 ≤ 400) := by omega
  clear w0 w1
  rcases hne with h | ⟨h, h2⟩ | ⟨h, h2, h3⟩ | ⟨h, h2, h3, h4⟩ | h
  · skip
    go_enter Tryz.func4, Tryz.ntmps4
    go_wp2_with fail
    refine hA.out.mono ?_
    rintro e w2 ⟨rfl, hb2⟩
    go_wp2_with fail
    go_ret
    exact ⟨rfl, hb2⟩
  · skip
    go_enter Tryz.func4, Tryz.ntmps4
    go_wp2_with fail
    refine hA.out.mono ?_
    rintro e w2 ⟨rfl, hb2⟩
    go_wp2_with fail
    go_ret
    exact ⟨rfl, hb2⟩
  · skip
    go_enter Tryz.func4, Tryz.ntmps4
    go_wp2_with fail
    refine hA.out.mono ?_
    rintro e w2 ⟨rfl, hb2⟩
    go_wp2_with fail
    go_ret
    exact ⟨rfl, hb2⟩
  · skip
    go_enter Tryz.func4, Tryz.ntmps4
    go_wp2_with fail
    refine hA.out.mono ?_
    rintro e w2 ⟨rfl, hb2⟩
    go_wp2_with fail
    go_ret
    exact ⟨rfl, hb2⟩
  · obtain ⟨n, rfl⟩ : ∃ n : Nat, a0 = n := ⟨a0.toNat, by omega⟩
    obtain ⟨m, rfl⟩ : ∃ m : Nat, a1 = m := ⟨a1.toNat, by omega⟩
    exact deep_main n m (by omega) (by omega) _ rfl w hsp
end Go.Proofs.YtllbbacnakoomaaGreatDoor
