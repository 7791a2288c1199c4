/- oxbowref4's text, comment. -/
import Derived.Test.YthbicbfdldpemaaLx5
namespace Go.Proofs.Ythbicbfdldpemaa
open Go.RowKit
set_option linter.unusedVariables false

set_option maxHeartbeats 1000000 in
theorem rtext_any (R : List Rn) (ao : Option Addr) (n cap : Nat) (hl : R.length = n) (hn : n ≤ 1000001) (w : World) (hrow : Row w 3 ao (R.map Rn.v)) :
    Calls Try.prog 56 #[.slice ao n cap] w fun e w' => e = .returned (.string ⟨(cs R).toArray⟩) ∧ Below w.heap.size w w' := by
  have HL := Lib.hid hl
  clear hl
  go_enter Try.func56, Try.ntmps56
  go_wp2
  go_loopg [3, 4] n (fun u v i wr => ∃ k : Nat, u = n - k ∧ k ≤ n ∧ i = .int .i64 k ∧ Own wr w.heap.size 5 1 v ((cs (R.take k)).map fun c => [.int .u8 c.toNat]) ∧ Below w.heap.size w wr)
  case atStart => exact ⟨0, rfl, Nat.zero_le _, rfl, Own.nil _ _ _ _, Below.refl _ _⟩
  case round =>
    obtain ⟨k, rfl, hk, rfl, hown, hb⟩ := hrel
    have htl : (cs (R.take k)).length ≤ k := by rw [cs_len]; exact List.length_take_le ..
    by_cases hlt : k < n
    · obtain ⟨r, hr⟩ : ∃ r, R[k]? = some r := ⟨R[k]'(by rw [HL.out]; exact hlt), by simp⟩
      obtain ⟨b, o, rfl, hat⟩ := (hrow.below hb) (by intro h; simp at h; subst h; simp at hr)
      have c0 := hat.cell (i := k) (cs := r.v) (by simp [hr]) (j := 0) (u := .int .u8 r.c.toNat) rfl
      simp only [Nat.add_zero] at c0
      have HS : Hid (cs (R.take (k + 1)) = cs (R.take k) ++ [r.c]) := Lib.hid (by simp [cs, List.take_add_one, hr])
      clear hr hat hrow
      go_wp2_with (at_builtin; go_must (refine wpList_append1 E36 rfl rfl hown rfl rfl (news := [.int .u8 r.c.toNat]) rfl rfl (by simp [Value.oneCell']) (by rw [List.length_map]; omega) (by decide) hb.size ?_); intro v2 w3 hown2 hg2)
      go_roundg (n - (k + 1))
      case measure => omega
      case rel =>
        refine ⟨k + 1, rfl, by omega, by go_num, ?_, bapp hb hown hg2 hb.size⟩
        rw [HS.out, List.map_append]
        exact hown2
    · have hcv := run_str_own (P := Try.prog) hown 45 9 Try.underlying45 Try.underlying5 Try.underlying9
      go_wp2
      go_ret
      refine ⟨?_, hb⟩
      rw [show R.take k = R by rw [List.take_of_length_le]; rw [HL.out]; omega]
      rfl

theorem comI (A : List UInt8) (i : Nat) : commentL A i = if ¬ ((chAt A i).toNat : Int) = 47 then (i, false)
    else if ((chAt A (i + 1)).toNat : Int) = 47 then (i + ((A.drop i).takeWhile (· != 10)).length, false)
    else if ¬ ((chAt A (i + 1)).toNat : Int) = 42 then (i, false)
    else match comEnd (i + 2) (A.drop (i + 2)) with
      | some e => (e, false)
      | none => (A.length, true) := by
  unfold commentL
  simp only [u8eq, ne_eq]
  rfl

theorem com_go (A : List UInt8) (j : Nat) (h : j < A.length) : comEnd j (A.drop j) = if ((chAt A j).toNat : Int) = 42 ∧ ((chAt A (j + 1)).toNat : Int) = 47 then some (j + 2) else comEnd (j + 1) (A.drop (j + 1)) := by
  rw [com_step h]
  simp only [u8eq]
  rfl

theorem line_go (A : List UInt8) (j : Nat) (h : j < A.length) : ((A.drop j).takeWhile (· != 10)).length = if ((chAt A j).toNat : Int) = 10 then 0 else ((A.drop (j + 1)).takeWhile (· != 10)).length + 1 := by
  rw [while_step h]
  have h10 : chAt A j = 10 ↔ ((chAt A j).toNat : Int) = 10 := u8eq _ _
  by_cases hc : chAt A j = 10
  · rw [if_neg (by simp [hc]), if_pos (h10.1 hc)]
  · rw [if_pos (by simpa using hc), if_neg (fun h => hc (h10.2 h))]

set_option maxHeartbeats 2000000 in
set_option maxRecDepth 100000 in
theorem rcomment_any (R : List Rn) (ao : Option Addr) (cap i : Nat) (hn : R.length ≤ 1000001) (hi : i ≤ R.length) (w : World) (hrow : Row w 3 ao (R.map Rn.v)) :
    Calls Try.prog 54 #[.slice ao R.length cap, .int .i64 i] w fun e w' => e = .returned (.tuple #[.int .i64 (commentL (cs R) i).1, .bool (commentL (cs R) i).2]) ∧ w' = w := by
  have H0 := rat_any R ao cap i (by omega) w hrow
  have H1 := rat_any R ao cap (i + 1) (by omega) w hrow
  have HA := fun k => rat_any R ao cap k (by omega) w hrow
  rw [show ((i + 1 : Nat) : Int) = (i : Int) + 1 by omega] at H1
  have HC := comI (cs R) i
  obtain ⟨x, hx⟩ : ∃ x : Int, x = ((chAt (cs R) i).toNat : Int) := ⟨_, rfl⟩
  obtain ⟨y, hy⟩ : ∃ y : Int, y = ((chAt (cs R) (i + 1)).toNat : Int) := ⟨_, rfl⟩
  rw [← hx] at H0 HC
  rw [← hy] at H1 HC
  clear hx hy
  obtain ⟨n, hnn⟩ : ∃ n, n = R.length := ⟨_, rfl⟩
  have HNN : Hid ((cs R).length = n) := Lib.hid (by rw [cs_len, hnn])
  have HN2 : Hid (R.length = n) := Lib.hid hnn.symm
  rw [← hnn] at hn hi H0 H1 HA ⊢
  clear hnn
  replace HC := Lib.hid HC
  replace H0 := Lib.hid H0
  replace H1 := Lib.hid H1
  replace HA := Lib.hid HA
  go_enter Try.func54, Try.ntmps54
  go_wp2_with fail
  refine H0.out.mono ?_
  rintro e w' ⟨rfl, rfl⟩
  by_cases hx47 : x = 47
  · subst hx47
    by_cases hy47 : y = 47
    · subst hy47
      go_wp2_with fail
      refine H1.out.mono ?_
      rintro e w' ⟨rfl, rfl⟩
      have HV : Hid (commentL (cs R) i = (i + (((cs R).drop i).takeWhile (· != 10)).length, false)) := Lib.hid (HC.out.trans (by simp))
      clear HC
      go_wp2_with fail
      go_loopg [6] (n - i) (fun u v w9 => ∃ j : Nat, u = n - j ∧ j ≤ n ∧ v = .int .i64 j ∧ w9 = w' ∧ Hid (i + (((cs R).drop i).takeWhile (· != 10)).length = j + (((cs R).drop j).takeWhile (· != 10)).length))
      case atStart => exact ⟨i, rfl, hi, rfl, rfl, Lib.hid rfl⟩
      case round =>
        obtain ⟨j, rfl, hj, rfl, rfl, hs⟩ := hrel
        by_cases hlt : j < n
        · have HG := Lib.hid (line_go (cs R) j (by rw [HNN.out]; exact hlt))
          obtain ⟨r, hr⟩ : ∃ r, R[j]? = some r := ⟨R[j]'(by rw [HN2.out]; exact hlt), by simp⟩
          obtain ⟨b, o, rfl, hat⟩ := hrow (by intro h; simp at h; subst h; simp at hr)
          have c0 := hat.cell (i := j) (cs := r.v) (by simp [hr]) (j := 0) (u := .int .u8 r.c.toNat) rfl
          rw [cs_at hr] at HG
          simp only [Nat.add_zero] at c0
          obtain ⟨z, hz⟩ : ∃ z : Int, z = (r.c.toNat : Int) := ⟨_, rfl⟩
          rw [← hz] at HG c0
          clear hz hr hat
          by_cases hz10 : z = 10
          · subst hz10
            have hv := HG.out.trans (if_pos rfl)
            clear HG
            replace hv := Lib.hid hv
            go_wp2
            go_ret2
            exact ⟨by rw [HV.out, hs.out, hv.out]; rfl, rfl⟩
          · have hz10' : (z == 10) = false := by simpa using hz10
            have hv := Lib.hid (HG.out.trans (if_neg hz10))
            clear HG
            go_wp2_with fail
            go_roundg (n - (j + 1))
            case measure => omega
            case rel => exact ⟨j + 1, rfl, by omega, by go_num, rfl, Lib.hid (by rw [hs.out, hv.out]; omega)⟩
        · have hv : (((cs R).drop j).takeWhile (· != 10)).length = 0 := while_end (by rw [HNN.out]; omega)
          replace hv := Lib.hid hv
          go_wp2
          go_ret2
          exact ⟨by rw [HV.out, hs.out, hv.out]; rfl, rfl⟩
    · have hy47' : (y == 47) = false := by simpa using hy47
      by_cases hy42 : y = 42
      · subst hy42
        go_wp2_with fail
        refine H1.out.mono ?_
        rintro e w' ⟨rfl, rfl⟩
        have HV : Hid (commentL (cs R) i = match comEnd (i + 2) ((cs R).drop (i + 2)) with | some e => (e, false) | none => (n, true)) := Lib.hid (HC.out.trans (by rw [HNN.out]; simp))
        clear HC
        go_wp2_with fail
        refine H1.out.mono ?_
        rintro e w' ⟨rfl, rfl⟩
        go_wp2_with fail
        go_loopg [7] (n + 4 - (i + 2)) (fun u v w9 => ∃ j : Nat, u = n + 4 - j ∧ 2 ≤ j ∧ j ≤ n + 2 ∧ v = .int .i64 j ∧ w9 = w' ∧ Hid (comEnd (i + 2) ((cs R).drop (i + 2)) = comEnd j ((cs R).drop j)))
        case atStart => exact ⟨i + 2, rfl, by omega, by omega, by go_num, rfl, Lib.hid rfl⟩
        case round =>
          obtain ⟨j, rfl, hj2, hj, rfl, rfl, hs⟩ := hrel
          by_cases hlt : j < n
          · have HG := Lib.hid (com_go (cs R) j (by rw [HNN.out]; exact hlt))
            have A1 := HA.out (j + 1)
            rw [show ((j + 1 : Nat) : Int) = (j : Int) + 1 by omega] at A1
            obtain ⟨t, ht⟩ : ∃ t : Int, t = ((chAt (cs R) (j + 1)).toNat : Int) := ⟨_, rfl⟩
            rw [← ht] at A1 HG
            replace A1 := Lib.hid A1
            clear ht
            obtain ⟨r, hr⟩ : ∃ r, R[j]? = some r := ⟨R[j]'(by rw [HN2.out]; exact hlt), by simp⟩
            obtain ⟨b, o, rfl, hat⟩ := hrow (by intro h; simp at h; subst h; simp at hr)
            have c0 := hat.cell (i := j) (cs := r.v) (by simp [hr]) (j := 0) (u := .int .u8 r.c.toNat) rfl
            rw [cs_at hr] at HG
            simp only [Nat.add_zero] at c0
            obtain ⟨z, hz⟩ : ∃ z : Int, z = (r.c.toNat : Int) := ⟨_, rfl⟩
            rw [← hz] at HG c0
            clear hz hr hat
            by_cases hz42 : z = 42
            · subst hz42
              by_cases ht47 : t = 47
              · subst ht47
                have hv := Lib.hid (HG.out.trans (if_pos ⟨rfl, rfl⟩))
                clear HG
                go_wp2_with fail
                refine A1.out.mono ?_
                rintro e w' ⟨rfl, rfl⟩
                go_wp2
                go_ret2
                exact ⟨by rw [HV.out, hs.out, hv.out]; rfl, rfl⟩
              · have ht47' : (t == 47) = false := by simpa using ht47
                have hv := Lib.hid (HG.out.trans (if_neg (fun h => ht47 h.2)))
                clear HG
                go_wp2_with fail
                refine A1.out.mono ?_
                rintro e w' ⟨rfl, rfl⟩
                go_wp2_with fail
                go_roundg (n + 4 - (j + 1))
                case measure => omega
                case rel => exact ⟨j + 1, rfl, by omega, by omega, by go_num, rfl, Lib.hid (hs.out.trans hv.out)⟩
            · have hz42' : (z == 42) = false := by simpa using hz42
              have hv := Lib.hid (HG.out.trans (if_neg (fun h => hz42 h.1)))
              clear HG
              go_wp2_with fail
              go_roundg (n + 4 - (j + 1))
              case measure => omega
              case rel => exact ⟨j + 1, rfl, by omega, by omega, by go_num, rfl, Lib.hid (hs.out.trans hv.out)⟩
          · have hv : comEnd j ((cs R).drop j) = none := com_end (by rw [HNN.out]; omega)
            replace hv := Lib.hid hv
            go_wp2
            go_ret2
            exact ⟨by rw [HV.out, hs.out, hv.out]; rfl, rfl⟩
      · have hy42' : (y == 42) = false := by simpa using hy42
        go_wp2_with fail
        refine H1.out.mono ?_
        rintro e w' ⟨rfl, rfl⟩
        go_wp2_with fail
        refine H1.out.mono ?_
        rintro e w' ⟨rfl, rfl⟩
        have hv : Hid (commentL (cs R) i = (i, false)) := Lib.hid (HC.out.trans (by simp [hy47, hy42]))
        go_wp2
        go_ret2
        exact ⟨by rw [hv.out]; rfl, rfl⟩
  · have hx47' : (x == 47) = false := by simpa using hx47
    have hv : Hid (commentL (cs R) i = (i, false)) := Lib.hid (HC.out.trans (by simp [hx47]))
    go_wp2
    go_ret2
    exact ⟨by rw [hv.out]; rfl, rfl⟩
end Go.Proofs.Ythbicbfdldpemaa
