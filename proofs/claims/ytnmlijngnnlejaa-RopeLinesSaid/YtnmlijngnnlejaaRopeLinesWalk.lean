/- RopeLines: the walk. -/
import Derived.Test.YtnmlijngnnlejaaRpLaw
namespace Go.Proofs.Ytnmlijngnnlejaa
open Go.RowKit
set_option linter.unusedVariables false

/-- where the last line began, ahead of the i-th -/
def lastW (T : List UInt8) (i : Nat) : Int := if i = 0 then -1 else (nlEnd T (i - 1) : Nat)
theorem lastW_zero (T : List UInt8) : lastW T 0 = -1 := rfl
theorem lastW_succ (T : List UInt8) (i : Nat) : lastW T (i + 1) = (nlEnd T i : Nat) := rfl
theorem lastW_lt {T : List UInt8} {i : Nat} (h : i ≤ T.count 10) : lastW T i < (nlEnd T i : Nat) := by
  cases i with
  | zero => rw [lastW_zero]; omega
  | succ i => rw [lastW_succ]; have := nlEnd_lt (l := T) (n := i) (by omega); omega

set_option maxRecDepth 100000 in
set_option maxHeartbeats 8000000 in
theorem ropeLines_walk (a0 : ByteArray) (w0 : a0.size ≤ maxLen) (w : World) :
    Calls Try.prog 4 #[.string a0] w fun e w' => e = .returned (.bool true) ∧ Below w.heap.size w w' := by
  clear w0
  by_cases hbig : 800 < a0.size
  · have f1 : (800 : Int) < a0.size := by omega
    have HW := Lib.hid (awake_in w (Nat.le_refl _))
    go_enter Try.func4, Try.ntmps4
    go_wp2_with fail
    refine HW.out.mono ?_
    rintro e w' ⟨rfl, hb⟩
    replace hb := Lib.hid hb
    go_wp2
    go_ret
    exact ⟨rfl, hb.out⟩
  have f1 : ¬ (800 : Int) < a0.size := by omega
  have f1' : (a0.size : Int) ≤ 800 := by omega
  obtain ⟨B, hB0⟩ : ∃ B, B = w.heap.size := ⟨_, rfl⟩
  have hB : B ≤ w.heap.size := by omega
  rw [← hB0]
  replace hB0 := Lib.hid hB0
  have HN := Lib.hid (new_in (B := B) a0 (by omega) w hB)
  obtain ⟨T, hT⟩ : ∃ T, T = a0.data.toList := ⟨_, rfl⟩
  have sT : T.length = a0.size := by rw [hT, Lib.size_eq]
  obtain ⟨cl, hcl⟩ : ∃ cl, cl = T.count 10 := ⟨_, rfl⟩
  have ycl : (cl : Int) ≤ 800 := by
    have := List.count_le_length (a := (10 : UInt8)) (l := T)
    rw [← hcl, sT] at this
    omega
  have hget : Hid (∀ k (hk : k < a0.size), T[k]? = some (a0[k]'hk)) := Lib.hid fun k hk => by rw [hT]; exact get_byteR hk
  have hz : Hid (∀ n, nlEnd T n ≤ a0.size) := Lib.hid fun n => by rw [← sT]; exact nlEnd_le _ _
  have hc : Hid (∀ x, (T.take x).count 10 ≤ cl) := Lib.hid fun x => by rw [hcl]; exact cnt_take_le _ _
  replace hT := Lib.hid hT
  replace sT := Lib.hid sT
  replace hcl := Lib.hid hcl
  go_enter Try.func4, Try.ntmps4
  go_wp2_with fail
  refine HN.out.mono ?_
  rintro e w1 ⟨⟨g, t, rfl, r, d, tx⟩, k1⟩
  rw [← hT.out] at tx
  have sB := k1.size hB
  have sl : t.text.length ≤ 1000000 := by rw [tx, sT.out]; omega
  have HLn : Hid (∀ W, KB B w1 W → ∀ x : Nat, x ≤ a0.size → Calls Try.prog 13 #[.pointer (some ⟨g, 0, none⟩), .int .i64 x] W fun e w' => e = .returned (.tuple #[.int .i64 ((T.take x).count 10 : Nat), .int .i64 ((x : Int) - (nlEnd T ((T.take x).count 10) : Nat)), .int .i64 0]) ∧ KB B W w') := Lib.hid fun W hk x hx => by
    have h := line_in W (hk.ropes _ _ r) d (hk.size sB) sl x (by rw [tx, sT.out]; omega)
    rw [tx] at h
    exact h
  have HSt : Hid (∀ W, KB B w1 W → ∀ n : Nat, n ≤ cl → Calls Try.prog 12 #[.pointer (some ⟨g, 0, none⟩), .int .i64 n] W fun e w' => e = .returned (.tuple #[.int .i64 (nlEnd T n : Nat), .int .i64 0]) ∧ KB B W w') := Lib.hid fun W hk n hn => by
    have h := start_in W (hk.ropes _ _ r) d (hk.size sB) sl n (by rw [tx, ← hcl.out]; exact hn)
    rw [tx] at h
    exact h
  have HLs : Hid (∀ W, KB B w1 W → Calls Try.prog 11 #[.pointer (some ⟨g, 0, none⟩)] W fun e w' => e = .returned (.int .i64 ((cl : Int) + 1)) ∧ KB B W w') := Lib.hid fun W hk => by
    have h := lines_in W (hk.ropes _ _ r) (hk.size sB) sl
    rw [tx, ← hcl.out] at h
    exact h
  have HSb : Hid (∀ W, KB B w1 W → Calls Try.prog 12 #[.pointer (some ⟨g, 0, none⟩), .int .i64 ((cl : Int) + 1)] W fun e w' => e = .returned (.tuple #[.int .i64 0, .int .i64 1]) ∧ KB B W w') := Lib.hid fun W hk =>
    (start_bad W (hk.ropes _ _ r) (hk.size sB) sl _ (by rw [tx, ← hcl.out]; omega)).mono fun e w' h => ⟨h.1, h.2.kb⟩
  replace k1 := Lib.hid k1
  replace sB := Lib.hid sB
  clear tx sl d r HN
  go_wp2_with fail
  go_loopg [5, 6, 7, 8] (cl + 1) (fun q v5 v6 v7 v8 w9 => ∃ i : Nat, q = cl + 1 - i ∧ i ≤ cl + 1 ∧ v5 = .int .i64 (lastW T i) ∧ v6 = .int .i64 i ∧ Hid (KB B w1 w9))
  case atStart => exact ⟨0, rfl, Nat.zero_le _, rfl, rfl, Lib.hid (KB.refl _ _)⟩
  case round =>
    obtain ⟨i, hq, hi, rfl, rfl, hk9⟩ := hrel
    replace hq := hq.symm
    subst hq
    have HL1 := Lib.hid (HLs.out wr hk9.out)
    by_cases hic : i ≤ cl
    · have f2 : (i : Int) < (cl : Int) + 1 := by omega
      have f3 : (i : Int) < 1000 := by omega
      have f4 : Hid (cl + 1 - (i + 1) < cl + 1 - i) := Lib.hid (by omega)
      have hzi := hz.out i
      have hlt := lastW_lt (T := T) (i := i) (by rw [← hcl.out]; exact hic)
      cases i with
      | zero =>
        rw [lastW_zero]
        rw [nlEnd_zero] at hlt hzi
        go_wp2_with fail
        refine HL1.out.mono ?_
        rintro e wa ⟨rfl, ka⟩
        have HS1 := HSt.out wa (hk9.out.trans ka) 0 (by omega)
        rw [nlEnd_zero] at HS1
        replace HS1 := Lib.hid HS1
        replace ka := Lib.hid (hk9.out.trans ka)
        go_wp2_with fail
        refine HS1.out.mono ?_
        rintro e wb ⟨rfl, kb⟩
        replace kb := Lib.hid (ka.out.trans kb)
        go_wp2_with fail
        go_roundg (cl + 1 - (0 + 1))
        case measure => exact f4.out
        case rel => exact ⟨1, rfl, by omega, by rw [lastW_succ, nlEnd_zero]; rfl, rfl, kb⟩
      | succ i =>
        rw [lastW_succ] at hlt ⊢
        have hla := nlEnd_last T i (by rw [← hcl.out]; omega)
        obtain ⟨y, hy⟩ : ∃ y, nlEnd T (i + 1) = y + 1 := ⟨nlEnd T (i + 1) - 1, by omega⟩
        have hys : y < a0.size := by omega
        rw [hy, Nat.add_sub_cancel, hget.out y hys] at hla
        have hby : ((a0[y]'hys).toNat : Int) = 10 := by rw [Option.some.inj hla]; rfl
        obtain ⟨pv, hpv⟩ : ∃ p, p = nlEnd T i := ⟨_, rfl⟩
        rw [← hpv] at hlt ⊢
        rw [hy] at hlt
        have f5 : (y : Int) < a0.size := by omega
        have f6 : ¬ (y : Int) + 1 ≤ (pv : Int) := by omega
        have f7 : ¬ (a0.size : Int) < (y : Int) + 1 := by omega
        clear hla hlt hzi
        replace hpv := Lib.hid hpv
        go_wp2_with fail
        refine HL1.out.mono ?_
        rintro e wa ⟨rfl, ka⟩
        have HS1 := HSt.out wa (hk9.out.trans ka) (i + 1) (by omega)
        rw [hy] at HS1
        replace HS1 := Lib.hid HS1
        replace ka := Lib.hid (hk9.out.trans ka)
        go_wp2_with fail
        refine HS1.out.mono ?_
        rintro e wb ⟨rfl, kb⟩
        replace kb := Lib.hid (ka.out.trans kb)
        have hy' := Lib.hid hy
        go_wp2_with fail
        go_roundg (cl + 1 - (i + 1 + 1))
        case measure => have := f4.out; omega
        case rel => exact ⟨i + 1 + 1, rfl, by omega, by rw [lastW_succ, hy'.out]; rfl, rfl, kb⟩
    · obtain rfl : i = cl + 1 := by omega
      have f2 : ¬ ((cl + 1 : Nat) : Int) < (cl : Int) + 1 := by omega
      obtain ⟨lw, hlw⟩ : ∃ x, x = lastW T (cl + 1) := ⟨_, rfl⟩
      rw [← hlw]
      replace hlw := Lib.hid hlw
      go_wp2_with fail
      refine HL1.out.mono ?_
      rintro e wa ⟨rfl, ka⟩
      replace ka := Lib.hid (hk9.out.trans ka)
      go_wp2_with fail
      go_loopg [9, 10, 11, 12, 13, 14, 15] (a0.size + 1) (fun q v9 v10 v11 v12 v13 v14 v15 w9 => ∃ j : Nat, q = a0.size + 1 - j ∧ j ≤ a0.size + 1 ∧ v9 = .int .i64 j ∧ Hid (KB B w1 w9))
      case atStart => exact ⟨0, rfl, Nat.zero_le _, rfl, ka⟩
      case round =>
        obtain ⟨j, hq, hj, rfl, hk9⟩ := hrel
        replace hq := hq.symm
        subst hq
        by_cases hja : j ≤ a0.size
        · have f3 : (j : Int) ≤ a0.size := by omega
          have f4 : Hid (a0.size + 1 - (j + 1) < a0.size + 1 - j) := Lib.hid (by omega)
          have HA1 := HLn.out wr hk9.out j hja
          have hcj := hc.out j
          have hzj := nlEnd_take_le T j
          have hclr : Hid (∀ k, nlEnd T ((T.take j).count 10) ≤ k → k < j → T[k]? ≠ some 10) := Lib.hid (by
            intro k h1 h2 h3
            have hk : k < T.length := by rw [sT.out]; omega
            rw [List.getElem?_eq_getElem hk] at h3
            exact nlEnd_clear h1 h2 hk (Option.some.inj h3))
          obtain ⟨c, hcc⟩ : ∃ c, c = (T.take j).count 10 := ⟨_, rfl⟩
          rw [← hcc] at HA1 hcj hzj hclr
          have HSc : Hid (∀ W, KB B w1 W → Calls Try.prog 12 #[.pointer (some ⟨g, 0, none⟩), .int .i64 c] W fun e w' => e = .returned (.tuple #[.int .i64 (nlEnd T c : Nat), .int .i64 0]) ∧ KB B W w') := Lib.hid fun W hk => HSt.out W hk c hcj
          obtain ⟨z, hzz⟩ : ∃ z, z = nlEnd T c := ⟨_, rfl⟩
          rw [← hzz] at HA1 hzj hclr HSc
          have z1 : (z : Int) ≤ (j : Int) := by omega
          obtain ⟨co, hco⟩ : ∃ co : Nat, (co : Int) = (j : Int) - (z : Int) := ⟨j - z, by omega⟩
          rw [← hco] at HA1
          have z2 : (z : Int) + (co : Int) = (j : Int) := by omega
          have z3 : ¬ (co : Int) < 0 := by omega
          replace hco := Lib.hid hco
          have z4 : ¬ (z : Int) < 0 := by omega
          replace HA1 := Lib.hid HA1
          replace hcc := Lib.hid hcc
          replace hzz := Lib.hid hzz
          clear HL1
          go_wp2_with fail
          refine HA1.out.mono ?_
          rintro e wb ⟨rfl, kb⟩
          have HS1 := Lib.hid (HSc.out wb (hk9.out.trans kb))
          replace kb := Lib.hid (hk9.out.trans kb)
          go_wp2_with fail
          refine HS1.out.mono ?_
          rintro e wd ⟨rfl, kd⟩
          replace kd := Lib.hid (kb.out.trans kd)
          go_wp2_with fail
          go_loopg [15] (j - z) (fun q v15 w9 => ∃ k : Nat, q = j - k ∧ z ≤ k ∧ k ≤ j ∧ v15 = .int .i64 k ∧ w9 = wd)
          case atStart => exact ⟨z, rfl, Nat.le_refl _, by omega, rfl, rfl⟩
          case round =>
            obtain ⟨k, hq, hk1, hk2, rfl, hwr⟩ := hrel
            replace hwr := hwr.symm
            subst hwr
            replace hq := hq.symm
            subst hq
            by_cases hkj : (k : Int) < (j : Int)
            · have hks : k < a0.size := by omega
              have f5 : (k : Int) < a0.size := by omega
              have x10 := u8_isR (c := a0[k]'hks) (n := 10) (by decide)
              have hne : a0[k]'hks ≠ 10 := fun h => hclr.out k hk1 (by omega) (by rw [hget.out k hks, h])
              have h10 : (((a0[k]'hks).toNat : Int) == 10) = false := by
                rw [show (10 : Int) = ((10 : Nat) : Int) from rfl, x10]
                exact decide_eq_false hne
              clear x10
              replace hne := Lib.hid hne
              go_wp2_with fail
              go_roundg (j - (k + 1))
              case measure => omega
              case rel => exact ⟨k + 1, rfl, by omega, by omega, rfl, rfl⟩
            · go_wp2_with fail
              go_roundg (a0.size + 1 - (j + 1))
              case measure => exact f4.out
              case rel => exact ⟨j + 1, rfl, by omega, rfl, kd⟩
        · have f3 : ¬ (j : Int) ≤ a0.size := by omega
          have HL2 := Lib.hid (HLs.out wr hk9.out)
          clear HL1
          go_wp2_with fail
          refine HL2.out.mono ?_
          rintro e wb ⟨rfl, kb⟩
          have HS2 := Lib.hid (HSb.out wb (hk9.out.trans kb))
          replace kb := Lib.hid (hk9.out.trans kb)
          go_wp2_with fail
          refine HS2.out.mono ?_
          rintro e wd ⟨rfl, kd⟩
          have kk := Lib.hid (k1.out.trans (kb.out.trans kd))
          have HAw := Lib.hid (awake_in wd (kk.out.size hB))
          clear kd
          go_wp2_with fail
          refine HAw.out.mono ?_
          rintro e we ⟨rfl, ke⟩
          replace ke := Lib.hid ke
          go_wp2
          go_ret
          exact ⟨rfl, kk.out.below.trans ke.out⟩
end Go.Proofs.Ytnmlijngnnlejaa
