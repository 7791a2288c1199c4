/- oxbowref4's next. -/
import Derived.Test.YthbicbfdldpemaaLx6
namespace Go.Proofs.Ythbicbfdldpemaa
open Go.RowKit
set_option linter.unusedVariables false

def restL (A : List UInt8) (i : Nat) : Nat × Nat × Bool :=
  if letterB (chAt A i) then (1, i + 1 + ((A.drop (i + 1)).takeWhile idB).length, false)
  else if i < numL A i then (2, numL A i, false)
  else if 0 < punctL A i then (5, i + punctL A i, false)
  else (6, i + 1, false)

theorem nextI (A : List UInt8) (i : Nat) : nextL A i = if 0 ≤ lettersL A i ∧ 0 < quotedL A (i + (lettersL A i).toNat) ∧ ((chAt A (i + (lettersL A i).toNat)).toNat : Int) = 34 then (4, quotedL A (i + (lettersL A i).toNat), false)
    else if 0 ≤ lettersL A i ∧ 0 < quotedL A (i + (lettersL A i).toNat) then (3, quotedL A (i + (lettersL A i).toNat), false)
    else if lettersL A i = 0 then (6, i + 1, true) else restL A i := by
  unfold nextL restL
  simp only [u8eq]
  rfl

theorem id_go (A : List UInt8) (j : Nat) : ((A.drop j).takeWhile idB).length = if (letterB (chAt A j) || digitB (chAt A j)) = true then ((A.drop (j + 1)).takeWhile idB).length + 1 else 0 := by
  by_cases h : j < A.length
  · exact while_step h
  · rw [while_end (by omega), chAt_ge (by omega)]
    rfl

theorem letters_range (A : List UInt8) (i : Nat) : -1 ≤ lettersL A i ∧ lettersL A i ≤ 2 := by
  unfold lettersL
  repeat' split
  all_goals decide

theorem takeWhile_le (p : UInt8 → Bool) (A : List UInt8) : (A.takeWhile p).length ≤ A.length := (List.takeWhile_sublist p).length_le

theorem numL_ge (A : List UInt8) (i : Nat) : i ≤ numL A i := by
  unfold numL
  split <;> omega

theorem numL_le (A : List UInt8) (i : Nat) : numL A i ≤ i + 1 + A.length := by
  unfold numL
  split
  · have := numRun_le (A.drop (i + 1))
    rw [List.length_drop] at this
    omega
  · omega

theorem punctL_le (A : List UInt8) (i : Nat) : punctL A i ≤ 4 := by
  unfold punctL
  cases h : punctsL.find? fun p => p.isPrefixOf (A.drop i) with
  | none => simp
  | some p => exact (puncts_ne p (List.mem_of_find?_eq_some h)).2

set_option maxHeartbeats 2000000 in
set_option maxRecDepth 100000 in
theorem rnext_any (R : List Rn) (ao : Option Addr) (cap i : Nat) (hn : R.length ≤ 1000001) (hi : i < R.length) (w : World) (hrow : Row w 3 ao (R.map Rn.v)) :
    Calls Try.prog 55 #[.slice ao R.length cap, .int .i64 i] w fun e w' => e = .returned (.tuple #[.int .i64 ((nextL (cs R) i).1 : Nat), .int .i64 ((nextL (cs R) i).2.1 : Nat), .bool (nextL (cs R) i).2.2]) ∧ Below w.heap.size w w' := by
  have HA := Lib.hid (fun k => rat_any R ao cap k (by omega) w hrow)
  have HD := Lib.hid (fun c => rDigit_any c w)
  have HT := Lib.hid (fun c => rLetter_any c w)
  have H0 := rletters_any R ao cap i (by omega) (by omega) w hrow
  have HQ := Lib.hid (fun k (hk : k ≤ 1000003) => rquoted_any R ao cap k hn hk w hrow)
  have HM := Lib.hid (rnumber_any R ao cap i hn (by omega) w hrow)
  have HP := Lib.hid (rpunct_any R ao cap i hn (by omega) w hrow)
  have HC := nextI (cs R) i
  have hkr := letters_range (cs R) i
  have HLEN := Lib.hid (cs_len R)
  have HML := numL_le (cs R) i
  have HMG := numL_ge (cs R) i
  have HPL := punctL_le (cs R) i
  rw [cs_len] at HML
  have HRE : restL (cs R) i = if letterB (chAt (cs R) i) = true then (1, i + 1 + (((cs R).drop (i + 1)).takeWhile idB).length, false) else if i < numL (cs R) i then (2, numL (cs R) i, false) else if 0 < punctL (cs R) i then (5, i + punctL (cs R) i, false) else (6, i + 1, false) := rfl
  obtain ⟨m, hm⟩ : ∃ m, m = numL (cs R) i := ⟨_, rfl⟩
  obtain ⟨p, hp⟩ : ∃ p, p = punctL (cs R) i := ⟨_, rfl⟩
  rw [← hm] at HM HML HMG HRE
  rw [← hp] at HP HPL HRE
  clear hm hp
  obtain ⟨k, hk⟩ : ∃ k, k = lettersL (cs R) i := ⟨_, rfl⟩
  rw [← hk] at H0 HC hkr
  clear hk hrow
  replace HC := Lib.hid HC
  replace HRE := Lib.hid HRE
  replace H0 := Lib.hid H0
  obtain ⟨n, hnn⟩ : ∃ n, n = R.length := ⟨_, rfl⟩
  rw [← hnn] at hn hi H0 HA HQ HM HP HML HLEN ⊢
  clear hnn
  go_enter Try.func55, Try.ntmps55
  go_wp2_with fail
  refine H0.out.mono ?_
  rintro e w' ⟨rfl, rfl⟩
  by_cases hk0 : 0 ≤ k
  · obtain ⟨K, rfl⟩ : ∃ K : Nat, k = (K : Int) := ⟨k.toNat, by omega⟩
    have HQ1 := HQ.out (i + K) (by omega)
    have A1 := HA.out (i + K)
    rw [show ((i + K : Nat) : Int) = (i : Int) + K by omega] at HQ1 A1
    rw [Int.toNat_natCast] at HC
    obtain ⟨E, hE⟩ : ∃ E, E = quotedL (cs R) (i + K) := ⟨_, rfl⟩
    obtain ⟨y, hy⟩ : ∃ y : Int, y = ((chAt (cs R) (i + K)).toNat : Int) := ⟨_, rfl⟩
    rw [← hE] at HQ1 HC
    rw [← hy] at A1 HC
    replace A1 := Lib.hid A1
    replace HQ1 := Lib.hid HQ1
    clear hE hy
    go_wp2_with fail
    refine HQ1.out.mono ?_
    rintro e w' ⟨rfl, rfl⟩
    by_cases hE0 : 0 < E
    · have hEi : (0 : Int) < E := by omega
      by_cases hy34 : y = 34
      · subst hy34
        have HV : Hid (nextL (cs R) i = (4, E, false)) := Lib.hid (HC.out.trans (if_pos ⟨hk0, hE0, rfl⟩))
        clear HC
        go_wp2_with fail
        refine A1.out.mono ?_
        rintro e w' ⟨rfl, rfl⟩
        go_wp2
        go_ret3
        exact ⟨by rw [HV.out]; rfl, Below.refl _ _⟩
      · have hy34' : (y == 34) = false := by simpa using hy34
        have HV : Hid (nextL (cs R) i = (3, E, false)) := Lib.hid (HC.out.trans ((if_neg (fun h => hy34 h.2.2)).trans (if_pos ⟨hk0, hE0⟩)))
        clear HC
        go_wp2_with fail
        refine A1.out.mono ?_
        rintro e w' ⟨rfl, rfl⟩
        go_wp2
        go_ret3
        exact ⟨by rw [HV.out]; rfl, Below.refl _ _⟩
    · obtain rfl : E = 0 := by omega
      by_cases hK : K = 0
      · subst hK
        have HV : Hid (nextL (cs R) i = (6, i + 1, true)) := Lib.hid (HC.out.trans ((if_neg (fun h => Nat.lt_irrefl _ h.2.1)).trans ((if_neg (fun h => Nat.lt_irrefl _ h.2)).trans (if_pos rfl))))
        clear HC
        go_wp2
        go_ret3
        exact ⟨by rw [HV.out]; rfl, Below.refl _ _⟩
      · have hKi : ((K : Int) == 0) = false := by simp; omega
        have hrest : Hid (nextL (cs R) i = restL (cs R) i) := Lib.hid (HC.out.trans ((if_neg (fun h => Nat.lt_irrefl _ h.2.1)).trans ((if_neg (fun h => Nat.lt_irrefl _ h.2)).trans (if_neg (by omega)))))
        clear HC
        have A0 := HA.out i
        have L0 := HT.out (chAt (cs R) i)
        obtain ⟨la, hla⟩ : ∃ b, b = letterB (chAt (cs R) i) := ⟨_, rfl⟩
        obtain ⟨x, hx⟩ : ∃ x : Int, x = ((chAt (cs R) i).toNat : Int) := ⟨_, rfl⟩
        rw [← hla] at L0 HRE
        rw [← hx] at A0 L0
        replace A0 := Lib.hid A0
        replace L0 := Lib.hid L0
        clear hla hx
        go_wp2_with fail
        refine A0.out.mono ?_
        rintro e w' ⟨rfl, rfl⟩
        go_wp2_with fail
        refine L0.out.mono ?_
        rintro e w' ⟨rfl, rfl⟩
        cases la with
        | true =>
          have HV : Hid (nextL (cs R) i = (1, i + 1 + (((cs R).drop (i + 1)).takeWhile idB).length, false)) := Lib.hid (hrest.out.trans (HRE.out.trans (if_pos rfl)))
          have hwl : Hid ((((cs R).drop (i + 1)).takeWhile idB).length ≤ n) := Lib.hid (Nat.le_trans (takeWhile_le _ _) (by rw [List.length_drop, HLEN.out]; omega))
          clear HRE hrest A0 L0 HM HP HQ H0
          go_wp2_with fail
          go_loopg [9] ((((cs R).drop (i + 1)).takeWhile idB).length) (fun u v w9 => ∃ j : Nat, u = (((cs R).drop j).takeWhile idB).length ∧ v = .int .i64 j ∧ w9 = w' ∧ Hid (i + 1 + (((cs R).drop (i + 1)).takeWhile idB).length = j + (((cs R).drop j).takeWhile idB).length))
          case atStart => exact ⟨i + 1, rfl, by go_num, rfl, Lib.hid rfl⟩
          case round =>
            obtain ⟨j, rfl, rfl, rfl, hs⟩ := hrel
            have hj : j ≤ 2000003 := by have := hs.out; have := hwl.out; omega
            have A1 := HA.out j
            have L1 := HT.out (chAt (cs R) j)
            have D1 := HD.out (chAt (cs R) j)
            have HG := id_go (cs R) j
            obtain ⟨lz, hlz⟩ : ∃ b, b = letterB (chAt (cs R) j) := ⟨_, rfl⟩
            obtain ⟨dz, hdz⟩ : ∃ b, b = digitB (chAt (cs R) j) := ⟨_, rfl⟩
            obtain ⟨z, hz⟩ : ∃ z : Int, z = ((chAt (cs R) j).toNat : Int) := ⟨_, rfl⟩
            rw [← hlz] at L1 HG
            rw [← hdz] at D1 HG
            rw [← hz] at A1 L1 D1
            replace A1 := Lib.hid A1
            replace L1 := Lib.hid L1
            replace D1 := Lib.hid D1
            replace HG := Lib.hid HG
            clear hlz hdz hz
            go_wp2_with fail
            refine A1.out.mono ?_
            rintro e w' ⟨rfl, rfl⟩
            go_wp2_with fail
            refine L1.out.mono ?_
            rintro e w' ⟨rfl, rfl⟩
            cases lz with
            | true =>
              have hv := Lib.hid (HG.out.trans (if_pos rfl))
              clear HG
              go_wp2_with fail
              go_roundg ((((cs R).drop (j + 1)).takeWhile idB).length)
              case measure => have := hv.out; omega
              case rel => exact ⟨j + 1, rfl, by go_num, rfl, Lib.hid (by have := hs.out; have := hv.out; omega)⟩
            | false =>
              go_wp2_with fail
              refine A1.out.mono ?_
              rintro e w' ⟨rfl, rfl⟩
              go_wp2_with fail
              refine D1.out.mono ?_
              rintro e w' ⟨rfl, rfl⟩
              cases dz with
              | true =>
                have hv := Lib.hid (HG.out.trans (if_pos rfl))
                clear HG
                go_wp2_with fail
                go_roundg ((((cs R).drop (j + 1)).takeWhile idB).length)
                case measure => have := hv.out; omega
                case rel => exact ⟨j + 1, rfl, by go_num, rfl, Lib.hid (by have := hs.out; have := hv.out; omega)⟩
              | false =>
                have hv := Lib.hid (HG.out.trans (if_neg (by decide)))
                clear HG
                have HV2 : Hid (nextL (cs R) i = (1, j, false)) := Lib.hid (by rw [HV.out, hs.out, hv.out]; rfl)
                go_wp2
                go_ret3
                exact ⟨by rw [HV2.out]; rfl, Below.refl _ _⟩
        | false =>
          have HRE2 : Hid (restL (cs R) i = if i < m then (2, m, false) else if 0 < p then (5, i + p, false) else (6, i + 1, false)) := Lib.hid (HRE.out.trans (if_neg (by decide)))
          clear HRE A0 L0 H0 HQ
          go_wp2_with fail
          refine HM.out.mono ?_
          rintro e w' ⟨rfl, rfl⟩
          by_cases him : i < m
          · have HV : Hid (nextL (cs R) i = (2, m, false)) := Lib.hid (hrest.out.trans (HRE2.out.trans (if_pos him)))
            have himi : (i : Int) < m := by omega
            clear HRE2 hrest
            go_wp2
            go_ret3
            exact ⟨by rw [HV.out]; rfl, Below.refl _ _⟩
          · have hmi : m = i := by omega
            subst hmi
            clear him
            go_wp2_with fail
            refine HP.out.mono ?_
            rintro e w9 ⟨rfl, hb9⟩
            by_cases hp0 : 0 < p
            · have HV : Hid (nextL (cs R) m = (5, m + p, false)) := Lib.hid (hrest.out.trans (HRE2.out.trans ((if_neg (Nat.lt_irrefl _)).trans (if_pos hp0))))
              have hpi : (0 : Int) < p := by omega
              clear HRE2 hrest
              go_wp2
              go_ret3
              exact ⟨by rw [HV.out]; rfl, hb9⟩
            · obtain rfl : p = 0 := by omega
              have HV : Hid (nextL (cs R) m = (6, m + 1, false)) := Lib.hid (hrest.out.trans (HRE2.out.trans ((if_neg (Nat.lt_irrefl _)).trans (if_neg (Nat.lt_irrefl _)))))
              clear HRE2 hrest
              go_wp2
              go_ret3
              exact ⟨by rw [HV.out]; rfl, hb9⟩
  · obtain rfl : k = -1 := by omega
    have hrest : Hid (nextL (cs R) i = restL (cs R) i) := Lib.hid (HC.out.trans ((if_neg (fun h => hk0 h.1)).trans ((if_neg (fun h => hk0 h.1)).trans (if_neg (by decide)))))
    clear HC
    have A0 := HA.out i
    have L0 := HT.out (chAt (cs R) i)
    obtain ⟨la, hla⟩ : ∃ b, b = letterB (chAt (cs R) i) := ⟨_, rfl⟩
    obtain ⟨x, hx⟩ : ∃ x : Int, x = ((chAt (cs R) i).toNat : Int) := ⟨_, rfl⟩
    rw [← hla] at L0 HRE
    rw [← hx] at A0 L0
    replace A0 := Lib.hid A0
    replace L0 := Lib.hid L0
    clear hla hx
    go_wp2_with fail
    refine A0.out.mono ?_
    rintro e w' ⟨rfl, rfl⟩
    go_wp2_with fail
    refine L0.out.mono ?_
    rintro e w' ⟨rfl, rfl⟩
    cases la with
    | true =>
      have HV : Hid (nextL (cs R) i = (1, i + 1 + (((cs R).drop (i + 1)).takeWhile idB).length, false)) := Lib.hid (hrest.out.trans (HRE.out.trans (if_pos rfl)))
      have hwl : Hid ((((cs R).drop (i + 1)).takeWhile idB).length ≤ n) := Lib.hid (Nat.le_trans (takeWhile_le _ _) (by rw [List.length_drop, HLEN.out]; omega))
      clear HRE hrest A0 L0 HM HP HQ H0
      go_wp2_with fail
      go_loopg [9] ((((cs R).drop (i + 1)).takeWhile idB).length) (fun u v w9 => ∃ j : Nat, u = (((cs R).drop j).takeWhile idB).length ∧ v = .int .i64 j ∧ w9 = w' ∧ Hid (i + 1 + (((cs R).drop (i + 1)).takeWhile idB).length = j + (((cs R).drop j).takeWhile idB).length))
      case atStart => exact ⟨i + 1, rfl, by go_num, rfl, Lib.hid rfl⟩
      case round =>
        obtain ⟨j, rfl, rfl, rfl, hs⟩ := hrel
        have hj : j ≤ 2000003 := by have := hs.out; have := hwl.out; omega
        have A1 := HA.out j
        have L1 := HT.out (chAt (cs R) j)
        have D1 := HD.out (chAt (cs R) j)
        have HG := id_go (cs R) j
        obtain ⟨lz, hlz⟩ : ∃ b, b = letterB (chAt (cs R) j) := ⟨_, rfl⟩
        obtain ⟨dz, hdz⟩ : ∃ b, b = digitB (chAt (cs R) j) := ⟨_, rfl⟩
        obtain ⟨z, hz⟩ : ∃ z : Int, z = ((chAt (cs R) j).toNat : Int) := ⟨_, rfl⟩
        rw [← hlz] at L1 HG
        rw [← hdz] at D1 HG
        rw [← hz] at A1 L1 D1
        replace A1 := Lib.hid A1
        replace L1 := Lib.hid L1
        replace D1 := Lib.hid D1
        replace HG := Lib.hid HG
        clear hlz hdz hz
        go_wp2_with fail
        refine A1.out.mono ?_
        rintro e w' ⟨rfl, rfl⟩
        go_wp2_with fail
        refine L1.out.mono ?_
        rintro e w' ⟨rfl, rfl⟩
        cases lz with
        | true =>
          have hv := Lib.hid (HG.out.trans (if_pos rfl))
          clear HG
          go_wp2_with fail
          go_roundg ((((cs R).drop (j + 1)).takeWhile idB).length)
          case measure => have := hv.out; omega
          case rel => exact ⟨j + 1, rfl, by go_num, rfl, Lib.hid (by have := hs.out; have := hv.out; omega)⟩
        | false =>
          go_wp2_with fail
          refine A1.out.mono ?_
          rintro e w' ⟨rfl, rfl⟩
          go_wp2_with fail
          refine D1.out.mono ?_
          rintro e w' ⟨rfl, rfl⟩
          cases dz with
          | true =>
            have hv := Lib.hid (HG.out.trans (if_pos rfl))
            clear HG
            go_wp2_with fail
            go_roundg ((((cs R).drop (j + 1)).takeWhile idB).length)
            case measure => have := hv.out; omega
            case rel => exact ⟨j + 1, rfl, by go_num, rfl, Lib.hid (by have := hs.out; have := hv.out; omega)⟩
          | false =>
            have hv := Lib.hid (HG.out.trans (if_neg (by decide)))
            clear HG
            have HV2 : Hid (nextL (cs R) i = (1, j, false)) := Lib.hid (by rw [HV.out, hs.out, hv.out]; rfl)
            go_wp2
            go_ret3
            exact ⟨by rw [HV2.out]; rfl, Below.refl _ _⟩
    | false =>
      have HRE2 : Hid (restL (cs R) i = if i < m then (2, m, false) else if 0 < p then (5, i + p, false) else (6, i + 1, false)) := Lib.hid (HRE.out.trans (if_neg (by decide)))
      clear HRE A0 L0 H0 HQ
      go_wp2_with fail
      refine HM.out.mono ?_
      rintro e w' ⟨rfl, rfl⟩
      by_cases him : i < m
      · have HV : Hid (nextL (cs R) i = (2, m, false)) := Lib.hid (hrest.out.trans (HRE2.out.trans (if_pos him)))
        have himi : (i : Int) < m := by omega
        clear HRE2 hrest
        go_wp2
        go_ret3
        exact ⟨by rw [HV.out]; rfl, Below.refl _ _⟩
      · have hmi : m = i := by omega
        subst hmi
        clear him
        go_wp2_with fail
        refine HP.out.mono ?_
        rintro e w9 ⟨rfl, hb9⟩
        by_cases hp0 : 0 < p
        · have HV : Hid (nextL (cs R) m = (5, m + p, false)) := Lib.hid (hrest.out.trans (HRE2.out.trans ((if_neg (Nat.lt_irrefl _)).trans (if_pos hp0))))
          have hpi : (0 : Int) < p := by omega
          clear HRE2 hrest
          go_wp2
          go_ret3
          exact ⟨by rw [HV.out]; rfl, hb9⟩
        · obtain rfl : p = 0 := by omega
          have HV : Hid (nextL (cs R) m = (6, m + 1, false)) := Lib.hid (hrest.out.trans (HRE2.out.trans ((if_neg (Nat.lt_irrefl _)).trans (if_neg (Nat.lt_irrefl _)))))
          clear HRE2 hrest
          go_wp2
          go_ret3
          exact ⟨by rw [HV.out]; rfl, hb9⟩
end Go.Proofs.Ythbicbfdldpemaa
