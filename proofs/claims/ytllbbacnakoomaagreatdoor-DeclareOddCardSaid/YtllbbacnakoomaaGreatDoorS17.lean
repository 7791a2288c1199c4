/- Texts of this seat's proofs, laid into one file. -/
import Derived.Test.YtllbbacnakoomaaGreatDoorS16
import Derived.Test.YtllbbacnakoomaaGreatDoorS7
import Derived.Deep.QuietTactic
import Derived.Deep.RegionHeld3
set_option maxRecDepth 100000
set_option maxHeartbeats 16000000
namespace Go.Proofs.YtllbbacnakoomaaGreatDoor
open Go.RowKit
set_option linter.unusedVariables false
def escZ : List (UInt8 × UInt8) := escFrom.zip escTo
theorem esc_at {i : Nat} (h : i < 11) : ∃ f t, escZ.drop i = (f, t) :: escZ.drop (i + 1) ∧ ((⟨#[39,34,63,92,97,98,102,110,114,116,118]⟩ : ByteArray)[i]'h) = f ∧ ((⟨#[39,34,63,92,7,8,12,10,13,9,11]⟩ : ByteArray)[i]'h) = t := by
 match i, h with
 | 0, _ => exact ⟨_, _, rfl, rfl, rfl⟩
 | 1, _ => exact ⟨_, _, rfl, rfl, rfl⟩
 | 2, _ => exact ⟨_, _, rfl, rfl, rfl⟩
 | 3, _ => exact ⟨_, _, rfl, rfl, rfl⟩
 | 4, _ => exact ⟨_, _, rfl, rfl, rfl⟩
 | 5, _ => exact ⟨_, _, rfl, rfl, rfl⟩
 | 6, _ => exact ⟨_, _, rfl, rfl, rfl⟩
 | 7, _ => exact ⟨_, _, rfl, rfl, rfl⟩
 | 8, _ => exact ⟨_, _, rfl, rfl, rfl⟩
 | 9, _ => exact ⟨_, _, rfl, rfl, rfl⟩
 | 10, _ => exact ⟨_, _, rfl, rfl, rfl⟩
theorem u8_nb {a b : UInt8} (h : a ≠ b) : ¬ (a.toNat : Int) = b.toNat ∧ ((a.toNat : Int) == (b.toNat : Int)) = false := by
 have : ¬ (a.toNat : Int) = b.toNat := fun e => h (by rw [← UInt8.toNat_inj]; omega)
 exact ⟨this, beq_false_of_ne this⟩
def escR (s : List UInt8) : UInt8 × Nat :=
 if chAt s 0 = 120 ∧ s ≠ [] then (if digL 16 (s.drop 1) = 0 then (0,0) else (UInt8.ofNat (escNum 16 ((s.drop 1).take (digL 16 (s.drop 1)))), 1 + digL 16 (s.drop 1)))
 else if min (digL 8 s) 3 = 0 then (0,0) else (UInt8.ofNat (escNum 8 (s.take (min (digL 8 s) 3))), min (digL 8 s) 3)
theorem esc_R (s : List UInt8) : escV s = if s = [] then (0,0) else match escZ.find? (fun p => p.1 = chAt s 0) with | some p => (p.2,1) | none => escR s := by
 cases s with
 | nil => rfl
 | cons c r =>
   have e : ¬ (c :: r : List UInt8) = [] := by simp
   rw [if_neg e, chAt_cons0]
   show (match escZ.find? (fun p => p.1 = c) with | some p => (p.2,1) | none => _) = _
   cases escZ.find? (fun p => p.1 = c) with
   | some p => rfl
   | none =>
     simp only
     unfold escR
     rw [chAt_cons0]
     by_cases h : c = 120
     ·rw [if_pos h, if_pos (show c = 120 ∧ ¬ (c :: r : List UInt8) = [] from ⟨h, e⟩)]; rfl
     ·rw [if_neg h, if_neg (show ¬ (c = 120 ∧ ¬ (c :: r : List UInt8) = []) from fun k => h k.1)]
theorem escNum_snoc (b : Nat) (l : List UInt8) (c : UInt8) : escNum b (l ++ [c]) = (escNum b l * b + valC c) % 256 := by
 unfold escNum; rw [List.foldl_append]; rfl
theorem escNum_lt (b : Nat) (l : List UInt8) : escNum b l < 256 := by
 unfold escNum
 rcases List.eq_nil_or_concat l with rfl | ⟨l', c, rfl⟩
 ·exact Nat.zero_lt_succ _
 ·rw [List.concat_eq_append, List.foldl_append]; exact Nat.mod_lt _ (by decide)
theorem rescape_any (s : ByteArray) (hs : s.size ≤ 1000000) (w : World) :
 Calls Tryz.prog 154 #[.string s] w fun e w' => e = .returned (.tuple #[.int .u8 (escV s.data.toList).1.toNat, .int .i64 (escV s.data.toList).2]) ∧ Below w.heap.size w w' := by
 obtain ⟨V, hV⟩ : ∃ V, V = escV s.data.toList := ⟨_, rfl⟩
 rw [← hV]
 rw [esc_R] at hV
 have hnil : (s.data.toList = []) ↔ s.size = 0 := by rw [← sz_list]; exact List.length_eq_zero_iff.symm
 obtain ⟨c, hc⟩ : ∃ c, c = chAt s.data.toList 0 := ⟨_, rfl⟩
 have hci : Hid (∀ h : 0 < s.size, (s[0]'h) = c) := Hd (fun h => by rw [hc]; exact byte_chAt _)
 rw [← hc] at hV
 obtain ⟨F, hF⟩ : ∃ F, F = escZ.find? (fun p => p.1 = c) := ⟨_, rfl⟩
 rw [← hF] at hV
 have hF0 : Hid ((escZ.drop 0).find? (fun p => p.1 = c) = F) := Hd hF.symm
 clear hF
 replace hV := Hd hV
 replace hnil := Hd hnil
 replace hc := Hd hc
 have hbw : Hid (Below w.heap.size w w) := Hd (Below.refl _ _)
 go_enter Tryz.func154, Tryz.ntmps154
 go_wp2_with fail
 go_loopg [4] 11 (fun q v4 wx => ∃ i : Nat, q = 11 - i ∧ i ≤ 11 ∧ v4 = .int .i64 i ∧ Hid (s.size ≠ 0 → (escZ.drop i).find? (fun p => p.1 = c) = F) ∧ Hid (Below w.heap.size w wx))
 case atStart => exact ⟨0, rfl, Nat.zero_le _, rfl, Hd (fun _ => hF0.out), hbw⟩
 case round =>
  clear hF0 hbw
  obtain ⟨i, hq, hi, rfl, hf, hb⟩ := hrel
  replace hq := hq.symm
  subst hq
  have hsB := hb.out.size
  by_cases hin : i < 11
  ·have hin' : (i : Int) < 11 := by omega
   have f4 : Hid (11 - (i + 1) < 11 - i) := Hd (by omega)
   have g1 : IntKind.i64.wrap ((i : Int) + 1) = (i : Int) + 1 := IntWalk.i64_in _ (by omega)
   obtain ⟨f, t, hft, hfi, hti⟩ := esc_at hin
   by_cases hz : s.size = 0
   ·have hz' : decide ((0 : Int) < (s.size : Int)) = false := decide_eq_false (by omega)
    have hz2 : decide (0 < s.size) = false := decide_eq_false (by omega)
    replace hft := Hd hft
    have hz3 := Hd hz
    clear hz
    go_wp2_with fail
    go_quiet (fail)
    have hbn := Hd (hb.out.trans ((below_drN (Below.refl _ wr) nq).mono hsB))
    go_wp2_with fail
    go_roundg (11 - (i + 1))
    case measure => exact f4.out
    case rel => exact ⟨i + 1, rfl, by omega, by simp, Hd (fun h => absurd hz3.out h), hbn⟩
   ·have hz' : decide ((0 : Int) < (s.size : Int)) = true := decide_eq_true (by omega)
    have hz2 : decide (0 < s.size) = true := decide_eq_true (by omega)
    have hzp : 0 < s.size := by omega
    have hc0 := hci.out hzp
    have hst := hf.out hz
    rw [hft, List.find?_cons] at hst
    by_cases hfc : f = c
    ·subst hfc
     have hV2 : Hid (V = (t, 1)) := Hd (by
      have h1 := hV.out
      rw [if_neg (fun h => hz (hnil.out.1 h))] at h1
      have h2 : F = some (f, t) := by rw [← hst]; simp
      rw [h2] at h1
      exact h1)
     clear hst hft hf
     go_wp2_with fail
     go_quiet (fail)
     have hbn := Hd (hb.out.trans ((below_drN (Below.refl _ wr) nq).mono hsB))
     go_wp2
     go_ret2
     exact ⟨by rw [hV2.out]; rfl, hbn.out⟩
    ·obtain ⟨n1, n2⟩ := u8_nb (fun e => hfc e.symm : c ≠ f)
     have hst' : Hid ((escZ.drop (i + 1)).find? (fun p => p.1 = c) = F) := Hd (by rw [← hst]; simp [hfc])
     clear hst hft hfc hf
     go_wp2_with fail
     go_quiet (fail)
     have hbn := Hd (hb.out.trans ((below_drN (Below.refl _ wr) nq).mono hsB))
     go_wp2_with fail
     go_roundg (11 - (i + 1))
     case measure => exact f4.out
     case rel => exact ⟨i + 1, rfl, by omega, by simp, Hd (fun _ => hst'.out), hbn⟩
  ·obtain rfl : i = 11 := by omega
   have hN : Hid (s.size ≠ 0 → F = none) := Hd (fun h => (hf.out h).symm.trans rfl)
   have hVR : Hid (V = if s.size = 0 then (0,0) else escR s.data.toList) := Hd (by
    have h1 := hV.out
    by_cases h : s.size = 0
    ·rw [if_pos (hnil.out.2 h)] at h1; rw [if_pos h]; exact h1
    ·rw [if_neg (fun k => h (hnil.out.1 k)), hN.out h] at h1; rw [if_neg h]; exact h1)
   clear hV hN hf hin hi
   have HD := Hd (rdigits_any s hs 0 8 (by omega) (by omega) wr)
   rw [List.drop_zero] at HD
   obtain ⟨n8, hn8⟩ : ∃ n8, n8 = digL 8 s.data.toList := ⟨_, rfl⟩
   rw [← hn8] at HD
   obtain ⟨k, hk⟩ : ∃ k, k = min n8 3 := ⟨_, rfl⟩
   have gm : min (n8 : Int) 3 = (k : Int) := by rw [hk]; omega
   have hkl : k ≤ s.size := by
    have := digL_le 8 s.data.toList
    rw [← hn8, sz_list] at this
    omega
   obtain ⟨isx, hisx⟩ : ∃ isx, isx = decide (0 < s.size ∧ c = 120) := ⟨_, rfl⟩
   obtain ⟨n16, hn16⟩ : ∃ n16, n16 = digL 16 (s.data.toList.drop 1) := ⟨_, rfl⟩
   have hn16l : isx = true → n16 + 1 ≤ s.size := fun h => by
    rw [h] at hisx
    have h1 := (of_decide_eq_true hisx.symm).1
    have := digL_le 16 (s.data.toList.drop 1)
    rw [← hn16, List.length_drop, sz_list] at this
    omega
   obtain ⟨B, A, n, hBAn⟩ : ∃ B A n, (B, A, n) = (if isx = true then (16,1, n16) else (8,0, k)) := ⟨_, _, _, rfl⟩
   have hVn : Hid (V = if n = 0 then (0,0) else (UInt8.ofNat (escNum B ((s.data.toList.drop A).take n)), A + n)) := Hd (by
    rw [hVR.out]
    by_cases h0 : s.size = 0
    ·have h1 : isx = false := by rw [hisx]; exact decide_eq_false (by omega)
     rw [h1] at hBAn
     obtain ⟨rfl, rfl, rfl⟩ : B = 8 ∧ A = 0 ∧ n = k := by simpa using hBAn
     rw [if_pos h0, if_pos (by omega)]
    ·rw [if_neg h0]
     unfold escR
     rw [← hc.out, ← hn16, ← hn8, ← hk]
     have hne : s.data.toList ≠ [] := fun h => h0 (hnil.out.1 h)
     by_cases h1 : c = 120
     ·have h2 : isx = true := by rw [hisx]; exact decide_eq_true ⟨by omega, h1⟩
      rw [h2] at hBAn
      obtain ⟨rfl, rfl, rfl⟩ : B = 16 ∧ A = 1 ∧ n = n16 := by simpa using hBAn
      rw [if_pos ⟨h1, hne⟩]
     ·have h2 : isx = false := by rw [hisx]; exact decide_eq_false (fun h => h1 h.2)
      rw [h2] at hBAn
      obtain ⟨rfl, rfl, rfl⟩ : B = 8 ∧ A = 0 ∧ n = k := by simpa using hBAn
      rw [if_neg (fun h => h1 h.1), Nat.zero_add, List.drop_zero])
   have hAn : A + n ≤ s.size ∧ B ≤ 16 ∧ A ≤ 1 := by
    cases h : isx with
    | true =>
      rw [h] at hBAn
      obtain ⟨rfl, rfl, rfl⟩ : B = 16 ∧ A = 1 ∧ n = n16 := by simpa using hBAn
      have := hn16l h
      omega
    | false =>
      rw [h] at hBAn
      obtain ⟨rfl, rfl, rfl⟩ : B = 8 ∧ A = 0 ∧ n = k := by simpa using hBAn
      omega
   clear hVR hn8 hk hkl hn16l
   replace hBAn := Hd hBAn
   replace hn16 := Hd hn16
   replace hisx := Hd hisx
   go_wp2_with fail
   refine HD.out.mono ?_
   rintro e w1 ⟨rfl, rfl⟩
   clear HD
   go_upto_region 9 with fail
   go_cut [36] from 29 to 36 (fun v36 wx => v36 = .bool isx ∧ wx = w1)
   case first =>
    clear hVn hAn hBAn hn16 gm
    by_cases hz : s.size = 0
    ·have hz' : ¬ (0 : Int) < s.size := by omega
     obtain rfl : isx = false := by rw [hisx.out]; exact decide_eq_false (by omega)
     clear hisx
     go_wp2_with fail
     go_meet
     exact ⟨rfl, rfl⟩
    ·have hz' : (0 : Int) < s.size := by omega
     have hzp : 0 < s.size := by omega
     have hc0 := hci.out hzp
     by_cases c120 : c = 120
     ·subst c120
      have l120 : ((UInt8.toNat 120 : Nat) : Int) = 120 := rfl
      obtain rfl : isx = true := by rw [hisx.out]; exact decide_eq_true ⟨by omega, rfl⟩
      clear hisx
      go_wp2_with fail
      go_meet
      exact ⟨rfl, rfl⟩
     ·skip
      obtain ⟨ca120, cb120⟩ := u8_int (n := 120) (by decide) c120
      replace ca120 : ¬ (c.toNat : Int) = 120 := ca120
      replace cb120 : ((c.toNat : Int) == 120) = false := cb120
      obtain rfl : isx = false := by rw [hisx.out]; exact decide_eq_false (fun h => c120 h.2)
      clear hisx c120
      go_wp2_with fail
      go_meet
      exact ⟨rfl, rfl⟩
   case rest =>
   obtain ⟨rfl, rfl⟩ := hcut
   go_upto_if 36 with fail
   go_cut [6,7,8] from 37 to 38 (fun v6 v7 v8 wx => v6 = .int .i64 n ∧ v7 = .int .i64 B ∧ v8 = .int .i64 A ∧ wx = wc)
   case first =>
    clear hVn
    have hb3 := hBAn.out
    clear hBAn
    cases isx with
    | true =>
      obtain ⟨rfl, rfl, rfl⟩ : B = 16 ∧ A = 1 ∧ n = n16 := by simpa using hb3
      have HD := rdigits_any s hs 1 16 (by omega) (by omega) wc
      rw [← hn16.out] at HD
      replace HD := Hd HD
      clear hb3 hisx
      go_wp2_with fail
      refine HD.out.mono ?_
      rintro e w2 ⟨rfl, rfl⟩
      go_wp2_with fail
      go_meet
      exact ⟨rfl, rfl, rfl, rfl⟩
    | false =>
      obtain ⟨rfl, rfl, rfl⟩ : B = 8 ∧ A = 0 ∧ n = k := by simpa using hb3
      clear hb3 hisx
      go_wp2_with fail
      go_meet
      exact ⟨rfl, rfl, rfl, rfl⟩
   case rest =>
   obtain ⟨rfl, rfl, rfl, rfl⟩ := hcut
   clear hBAn hisx hn16 gm hc hnil
   by_cases hn0 : n = 0
   ·subst hn0
    have hV2 : Hid (V = (0,0)) := Hd (by have := hVn.out; simpa using this)
    clear hVn
    go_wp2
    go_ret2
    exact ⟨by rw [hV2.out]; rfl, hb.out⟩
   ·have hn0' : ¬ (n : Int) = 0 := by omega
    have hn0b : ((n : Int) == 0) = false := beq_false_of_ne hn0'
    obtain ⟨Y, hY⟩ : ∃ Y, Y = (s.data.toList.drop A).take n := ⟨_, rfl⟩
    obtain ⟨E, hE⟩ : ∃ E, E = A + n := ⟨_, rfl⟩
    have hV2 : Hid (V = (UInt8.ofNat (escNum B Y), E)) := Hd (by have := hVn.out; rw [if_neg hn0, ← hY, ← hE] at this; exact this)
    have gE : IntKind.i64.wrap ((A : Int) + n) = (E : Int) := by rw [IntWalk.i64_in _ (by omega)]; omega
    have hYl : Y.length = n := by rw [hY, List.length_take, List.length_drop, sz_list]; omega
    have hYd : Hid (∀ j, j < n → Y.take (j + 1) = Y.take j ++ [chAt s.data.toList (A + j)]) := Hd (by
     intro j hj
     rw [List.take_add_one, List.getElem?_eq_getElem (by omega)]
     congr 1
     have : Y[j]'(by omega) = chAt s.data.toList (A + j) := by
      unfold chAt
      rw [List.getD_eq_getElem?_getD]
      have h2 : Y[j]? = s.data.toList[A + j]? := by rw [hY, List.getElem?_take_of_lt hj, List.getElem?_drop]
      rw [← h2, List.getElem?_eq_getElem (by omega)]; rfl
     rw [this]; rfl)
    have hYn : Hid (Y.take n = Y) := Hd (List.take_of_length_le (by omega))
    have hEs : E ≤ s.size := by omega
    have hEn : Hid (E = A + n) := Hd hE
    have hv0 : Hid (0 = escNum B (Y.take 0)) := Hd rfl
    clear hVn hY hE hYl
    go_wp2_with fail
    go_loopg [5,9] n (fun q v5 v9 wx => ∃ j i v : Nat, q = n - j ∧ j ≤ n ∧ v5 = .int .i64 v ∧ v9 = .int .i64 i ∧ Hid (i = A + j) ∧ wx = wc ∧ Hid (v = escNum B (Y.take j)) ∧ v < 256)
    case atStart => exact ⟨0, A, 0, rfl, Nat.zero_le _, rfl, rfl, Hd rfl, rfl, hv0, by omega⟩
    case round =>
     clear hv0
     obtain ⟨j, i, v, hq, hj, rfl, rfl, hi, rfl, hv, hv256⟩ := hrel
     replace hq := hq.symm
     subst hq
     by_cases hin : j < n
     ·have hiE : i < E := by have h1 := hi.out; have h2 := hEn.out; omega
      have hin' : (i : Int) < E := by omega
      have his : i < s.size := by omega
      have g1 : IntKind.i64.wrap ((i : Int) + 1) = (i : Int) + 1 := IntWalk.i64_in _ (by omega)
      have f4 : Hid (n - (j + 1) < n - j) := Hd (by omega)
      obtain ⟨e, he⟩ : ∃ e, e = chAt s.data.toList i := ⟨_, rfl⟩
      have hei : (s[i]'his) = e := by rw [he]; exact byte_chAt _
      have hst := hYd.out j hin
      rw [← hi.out, ← he] at hst
      have HV := Hd (rvalue_any e wr)
      have hd99 := valC_le e
      obtain ⟨d, hd⟩ : ∃ d, d = valC e := ⟨_, rfl⟩
      obtain ⟨x, hx⟩ : ∃ x, x = v * B := ⟨_, rfl⟩
      obtain ⟨y, hy⟩ : ∃ y, y = x + d := ⟨_, rfl⟩
      obtain ⟨z, hz⟩ : ∃ z, z = y % 256 := ⟨_, rfl⟩
      have hz2 : Hid (z = escNum B (Y.take (j + 1))) := Hd (by rw [hst, escNum_snoc, ← hv.out, ← hd, ← hx, ← hy]; exact hz)
      rw [← hd] at HV hd99
      have hxl : x ≤ 256 * 16 := by rw [hx]; exact Nat.mul_le_mul (by omega) (by omega)
      have g7 : IntKind.i64.wrap ((v : Int) * B) = (x : Int) := by rw [IntWalk.i64_in _ (by rw [show (v : Int) * B = ((v * B : Nat) : Int) by simp, ← hx]; omega), hx]; simp
      have g8 : IntKind.i64.wrap ((x : Int) + d) = (y : Int) := by rw [IntWalk.i64_in _ (by omega)]; omega
      have g9 : Int.tmod (y : Int) 256 = (z : Int) := by rw [hz]; rfl
      have g10 : IntKind.i64.wrap (z : Int) = (z : Int) := IntWalk.i64_in _ (by omega)
      have hz256 : z < 256 := by rw [hz]; exact Nat.mod_lt _ (by decide)
      clear he hst hd hx hy hz hv
      go_wp2_with fail
      refine HV.out.mono ?_
      rintro e w2 ⟨rfl, rfl⟩
      go_wp2_with fail
      go_roundg (n - (j + 1))
      case measure => exact f4.out
      case rel => exact ⟨j + 1, i + 1, z, rfl, by omega, rfl, by simp, Hd (by have := hi.out; omega), rfl, hz2, hz256⟩
     ·obtain rfl : j = n := by omega
      have hiE : i = E := by have h1 := hi.out; have h2 := hEn.out; omega
      subst hiE
      have hin' : ¬ (i : Int) < (i : Int) := by omega
      have g2 : IntKind.u8.wrap (v : Int) = (v : Int) := IntWalk.u8_in _ (by omega)
      have hV3 : Hid (V = (UInt8.ofNat v, i)) := Hd (by rw [hV2.out, hv.out, hYn.out])
      have hvo : Hid ((UInt8.ofNat v).toNat = v) := Hd (by rw [UInt8.toNat_ofNat']; exact Nat.mod_eq_of_lt (by omega))
      clear hV2 hv
      go_wp2
      go_ret2
      exact ⟨by rw [hV3.out]; show _ = Ending.returned (.tuple #[.int .u8 (UInt8.ofNat v).toNat, .int .i64 i]); rw [hvo.out]; rfl, hb.out⟩
end Go.Proofs.YtllbbacnakoomaaGreatDoor
namespace Go.Proofs.YtllbbacnakoomaaGreatDoor
open Go.RowKit
set_option linter.unusedVariables false
def aheadQV (o : Option Nat) : Int := match o with | some n => n | none => -1
def aheadQB (q : UInt8) (A p : List UInt8) : Bool := decide (p.length + 2 ≤ A.length) && (A.take p.length == p) && decide (chAt A p.length = q) && decide (chAt A (A.length - 1) = q)
theorem ahead_Q (q : UInt8) (A : List UInt8) : aheadQ q A = (prefs.find? (aheadQB q A)).map List.length := rfl
theorem prefsQ_at {i : Nat} {p : ByteArray} (h : prefsB[i]? = some p) : p.size ≤ 2 ∧ prefs.drop i = p.data.toList :: prefs.drop (i + 1) := by
 have hi := (List.getElem?_eq_some_iff.1 h).1
 match i, hi with
 | 0, _ => simp [prefsB] at h; subst h; exact ⟨by decide, rfl⟩
 | 1, _ => simp [prefsB] at h; subst h; exact ⟨by decide, rfl⟩
 | 2, _ => simp [prefsB] at h; subst h; exact ⟨by decide, rfl⟩
 | 3, _ => simp [prefsB] at h; subst h; exact ⟨by decide, rfl⟩
 | 4, _ => simp [prefsB] at h; subst h; exact ⟨by decide, rfl⟩
theorem rAheadQ_any (q : UInt8) (s : ByteArray) (hs : s.size ≤ 1000000) (w : World) :
 Calls Tryz.prog 185 #[.string s, .int .u8 q.toNat] w fun e w' => e = .returned (.int .i64 (aheadQV (aheadQ q s.data.toList))) ∧ Below w.heap.size w w' := by
 obtain ⟨R, hR⟩ : ∃ R, R = aheadQV (aheadQ q s.data.toList) := ⟨_, rfl⟩
 rw [← hR]
 rw [ahead_Q] at hR
 have hR0 : Hid (aheadQV (((prefs.drop 0).find? (aheadQB q s.data.toList)).map List.length) = R) := Hd hR.symm
 clear hR
 have hrow0 : Hid (Row (w.alloc (.cells #[.string ⟨#[]⟩, .string ⟨#[76]⟩, .string ⟨#[117]⟩, .string ⟨#[85]⟩, .string ⟨#[117,56]⟩] 9)) 1 (some ⟨w.heap.size, 0, none⟩) (prefsB.map fun p => [.string p])) := Hd (row_new w (css := prefsB.map fun p => [.string p]) (by simp [prefsB]) 9 (by simp [prefsB]) rfl)
 have hb0 : Hid (Below w.heap.size w (w.alloc (.cells #[.string ⟨#[]⟩, .string ⟨#[76]⟩, .string ⟨#[117]⟩, .string ⟨#[85]⟩, .string ⟨#[117,56]⟩] 9))) := Hd ((Below.refl _ w).alloc (Nat.le_refl _) _)
 go_enter Tryz.func185, Tryz.ntmps185
 go_wp2_with fail
 go_loopg [6,7] 5 (fun k v6 v7 wx => ∃ i : Nat, k = 5 - i ∧ i ≤ 5 ∧ v6 = .int .i64 i ∧ Hid (aheadQV (((prefs.drop i).find? (aheadQB q s.data.toList)).map List.length) = R) ∧ Hid (Row wx 1 (some ⟨w.heap.size, 0, none⟩) (prefsB.map fun p => [.string p])) ∧ Hid (Below w.heap.size w wx))
 case atStart => exact ⟨0, rfl, Nat.zero_le _, rfl, hR0, hrow0, hb0⟩
 case round =>
  clear hR0 hrow0 hb0
  obtain ⟨i, hq, hi, rfl, hR, hrow, hb⟩ := hrel
  replace hq := hq.symm
  subst hq
  have hsB := hb.out.size
  by_cases hin : i < 5
  ·have hin' : (i : Int) < 5 := by omega
   have f4 : Hid (5 - (i + 1) < 5 - i) := Hd (by omega)
   have g1 : IntKind.i64.wrap ((i : Int) + 1) = (i : Int) + 1 := IntWalk.i64_in _ (by omega)
   obtain ⟨p, hp⟩ : ∃ p, prefsB[i]? = some p := ⟨_, List.getElem?_eq_getElem hin⟩
   obtain ⟨hp2, hpd⟩ := prefsQ_at hp
   have x0 : wr.cell? ⟨w.heap.size, i, none⟩ = some (.string p) := by
    obtain ⟨b', o', e, hat⟩ := hrow.out (by simp [prefsB])
    simp only [Option.some.injEq, Addr.mk.injEq, and_true] at e
    obtain ⟨rfl, rfl⟩ := e
    have := hat i [.string p] (by rw [List.getElem?_map, hp]; rfl) 0 _ rfl
    simpa using this
   have hstep := hR.out
   rw [hpd, List.find?_cons] at hstep
   have g2 : IntKind.i64.wrap ((p.size : Int) + 2) = (p.size : Int) + 2 := IntWalk.i64_in _ (by omega)
   have g3 : IntKind.i64.wrap ((s.size : Int) - 1) = (s.size : Int) - 1 := IntWalk.i64_in _ (by omega)
   clear hp hpd
   by_cases h1 : p.size + 2 ≤ s.size
   ·have h1b : decide ((p.size : Int) + 2 ≤ (s.size : Int)) = true := decide_eq_true (by omega)
    have h1i : (p.size : Int) ≤ (s.size : Int) := by omega
    have h1l : (p.size : Int) < (s.size : Int) := by omega
    have h1z : (0 : Int) ≤ (s.size : Int) - 1 := by omega
    have h1y : (s.size : Int) - 1 < (s.size : Int) := by omega
    have h1t : ((s.size : Int) - 1).toNat = s.size - 1 := by omega
    have hb1 : ((s.extract 0 p.size).toList == p.toList) = (s.data.toList.take p.data.toList.length == p.data.toList) := by
     rw [beq_list]
     have := ext_list s 0 p.size
     rw [Nat.zero_add] at this
     rw [this, sz_list]; rfl
    have hb2 : (s[p.size]'(by omega)) = chAt s.data.toList p.size := byte_chAt _
    have hb3 : (s[s.size - 1]'(by omega)) = chAt s.data.toList (s.size - 1) := byte_chAt _
    have hab : aheadQB q s.data.toList p.data.toList = ((s.data.toList.take p.data.toList.length == p.data.toList) && decide (chAt s.data.toList p.size = q) && decide (chAt s.data.toList (s.size - 1) = q)) := by
     unfold aheadQB
     rw [sz_list, sz_list, decide_eq_true h1, Bool.true_and]
    rw [hab] at hstep
    generalize (s.data.toList.take p.data.toList.length == p.data.toList) = e1 at hb1 hstep
    generalize chAt s.data.toList p.size = c2 at hb2 hstep
    generalize chAt s.data.toList (s.size - 1) = c3 at hb3 hstep
    clear hab
    replace hstep := Hd hstep
    have h1n : decide (p.size + 2 ≤ s.size) = true := decide_eq_true h1
    cases e1 with
    | false =>
      go_wp2_with fail
      go_quiet (fail)
      have hbn := Hd (hb.out.trans ((below_drN (Below.refl _ wr) nq).mono hsB))
      have hrn := Hd (hrow.out.below (below_drN (Below.refl _ wr) nq))
      go_wp2_with fail
      go_roundg (5 - (i + 1))
      case measure => exact f4.out
      case rel => exact ⟨i + 1, rfl, by omega, by simp, Hd (by have := hstep.out; simpa using this), hrn, hbn⟩
    | true =>
      by_cases hc2 : c2 = q
      ·subst hc2
       by_cases hc3 : c3 = c2
       ·subst hc3
        go_wp2_with fail
        go_quiet (fail)
        have hbn := Hd (hb.out.trans ((below_drN (Below.refl _ wr) nq).mono hsB))
        have hR2 : Hid ((p.size : Int) = R) := Hd (by have := hstep.out; simpa [aheadQV, sz_list] using this)
        go_wp2
        go_ret
        exact ⟨by rw [← hR2.out]; rfl, hbn.out⟩
       ·obtain ⟨n1, n2⟩ := u8_nb hc3
        replace hc3 := Hd hc3
        go_wp2_with fail
        go_quiet (fail)
        have hbn := Hd (hb.out.trans ((below_drN (Below.refl _ wr) nq).mono hsB))
        have hrn := Hd (hrow.out.below (below_drN (Below.refl _ wr) nq))
        go_wp2_with fail
        go_roundg (5 - (i + 1))
        case measure => exact f4.out
        case rel => exact ⟨i + 1, rfl, by omega, by simp, Hd (by have := hstep.out; simpa [hc3.out] using this), hrn, hbn⟩
      ·obtain ⟨n1, n2⟩ := u8_nb hc2
       replace hc2 := Hd hc2
       go_wp2_with fail
       go_quiet (fail)
       have hbn := Hd (hb.out.trans ((below_drN (Below.refl _ wr) nq).mono hsB))
       have hrn := Hd (hrow.out.below (below_drN (Below.refl _ wr) nq))
       go_wp2_with fail
       go_roundg (5 - (i + 1))
       case measure => exact f4.out
       case rel => exact ⟨i + 1, rfl, by omega, by simp, Hd (by have := hstep.out; simpa [hc2.out] using this), hrn, hbn⟩
   ·have h1b : decide ((p.size : Int) + 2 ≤ (s.size : Int)) = false := decide_eq_false (by omega)
    have h1n : decide (p.size + 2 ≤ s.size) = false := decide_eq_false h1
    have hab : aheadQB q s.data.toList p.data.toList = false := by
     unfold aheadQB
     rw [sz_list, sz_list, h1n]
     simp
    rw [hab] at hstep
    replace hstep := Hd hstep
    clear hab h1
    go_wp2_with fail
    go_quiet (fail)
    have hbn := Hd (hb.out.trans ((below_drN (Below.refl _ wr) nq).mono hsB))
    have hrn := Hd (hrow.out.below (below_drN (Below.refl _ wr) nq))
    go_wp2_with fail
    go_roundg (5 - (i + 1))
    case measure => exact f4.out
    case rel => exact ⟨i + 1, rfl, by omega, by simp, Hd (by have := hstep.out; simpa using this), hrn, hbn⟩
  ·obtain rfl : i = 5 := by omega
   have hR2 : Hid ((-1 : Int) = R) := Hd hR.out
   clear hin hi
   go_wp2
   go_ret
   exact ⟨by rw [← hR2.out]; rfl, hb.out⟩
end Go.Proofs.YtllbbacnakoomaaGreatDoor
namespace Go.Proofs.YtllbbacnakoomaaGreatDoor
open Go.RowKit
set_option linter.unusedVariables false
theorem aheadQ_le {q : UInt8} {A : List UInt8} {n : Nat} (h : aheadQ q A = some n) : n + 2 ≤ A.length ∧ n ≤ 2 := by
 rw [ahead_Q] at h
 obtain ⟨p, hp, rfl⟩ := Option.map_eq_some_iff.1 h
 have hm := List.mem_of_find?_eq_some hp
 have hb := List.find?_some hp
 unfold aheadQB at hb
 simp only [Bool.and_eq_true, decide_eq_true_eq] at hb
 refine ⟨hb.1.1.1, ?_⟩
 simp only [prefs, List.mem_cons, List.not_mem_nil, or_false] at hm
 rcases hm with rfl | rfl | rfl | rfl | rfl <;> decide
def letV (s : ByteArray) (o : Option (Nat × UInt8)) : Value := match o with
 | none => .tuple #[.string ⟨#[]⟩, .int .u8 0, .bool false]
 | some p => .tuple #[.string (s.extract 0 p.1), .int .u8 p.2.toNat, .bool true]
theorem letQ_of {A : List UInt8} : lettersQ A = match aheadQ 39 A with | some n => some (n, 39) | none => match aheadQ 34 A with | some n => some (n, 34) | none => none := by
 unfold lettersQ
 cases aheadQ 39 A with
 | some n => rfl
 | none => cases aheadQ 34 A <;> rfl
theorem rLetters_any (s : ByteArray) (hs : s.size ≤ 1000000) (w : World) :
 Calls Tryz.prog 153 #[.string s] w fun e w' => e = .returned (letV s (lettersQ s.data.toList)) ∧ Below w.heap.size w w' := by
 obtain ⟨Q, hQ⟩ : ∃ Q, Q = lettersQ s.data.toList := ⟨_, rfl⟩
 rw [← hQ]
 rw [letQ_of] at hQ
 obtain ⟨W, hW⟩ : ∃ W, W = w.alloc (.cells #[.int .u8 39, .int .u8 34] 5) := ⟨_, rfl⟩
 have hbW : Below w.heap.size w W := by rw [hW]; exact (Below.refl _ w).alloc (Nat.le_refl _) _
 have hgW : W.heap[w.heap.size]? = some (.cells #[.int .u8 39, .int .u8 34] 5 (0,0)) := by rw [hW]; exact heap_alloc_new w _
 have HF : Hid (∀ x, Below W.heap.size W x → x.cell? ⟨w.heap.size, 0, none⟩ = some (.int .u8 39) ∧ x.cell? ⟨w.heap.size, 1, none⟩ = some (.int .u8 34)) := Hd fun x hx => by
  have h := (hx.block _ (lt_of_block hgW)).trans hgW
  constructor <;> rw [Lib.cell_of_heap h] <;> rfl
 have hb0 : Hid (Below W.heap.size W W) := Hd (Below.refl _ _)
 replace hbW := Hd hbW
 replace hQ := Hd hQ
 clear hgW
 go_enter Tryz.func153, Tryz.ntmps153
 go_upto_region 2 with fail
 rw [← hW]
 replace hW := Hd hW
 go_wp2_with fail
 go_loopg [6,7] 2 (fun k v6 v7 wx => ∃ i : Nat, k = 2 - i ∧ i ≤ 2 ∧ v6 = .int .i64 i ∧ Hid ((1 ≤ i → aheadQ 39 s.data.toList = none) ∧ (2 ≤ i → aheadQ 34 s.data.toList = none)) ∧ Hid (Below W.heap.size W wx))
 case atStart => exact ⟨0, rfl, Nat.zero_le _, rfl, Hd ⟨fun h => by omega, fun h => by omega⟩, hb0⟩
 case round =>
  clear hb0
  obtain ⟨i, hk, hi, rfl, hno, hb⟩ := hrel
  replace hk := hk.symm
  subst hk
  have hsB := hb.out.size
  by_cases hin : i < 2
  ·obtain ⟨q, hq⟩ : ∃ q : UInt8, q = if i = 0 then 39 else 34 := ⟨_, rfl⟩
   have hin' : (i : Int) < 2 := by omega
   have f4 : Hid (2 - (i + 1) < 2 - i) := Hd (by omega)
   have g1 : IntKind.i64.wrap ((i : Int) + 1) = (i : Int) + 1 := IntWalk.i64_in _ (by omega)
   have hcell : ∀ x, Below W.heap.size W x → x.cell? ⟨w.heap.size, i, none⟩ = some (.int .u8 q.toNat) := fun x hx => by
    rw [hq]
    by_cases h0 : i = 0
    ·subst h0; exact (HF.out x hx).1
    ·obtain rfl : i = 1 := by omega
     exact (HF.out x hx).2
   have x0 := hcell _ hb.out
   replace hcell := Hd hcell
   have HA := rAheadQ_any q s hs wr
   cases ha : aheadQ q s.data.toList with
   | none =>
     rw [ha] at HA
     replace HA : Calls Tryz.prog 185 #[.string s, .int .u8 q.toNat] wr fun e w' => e = .returned (.int .i64 (-1)) ∧ Below wr.heap.size wr w' := HA
     replace HA := Hd HA
     have hno2 : Hid ((1 ≤ i + 1 → aheadQ 39 s.data.toList = none) ∧ (2 ≤ i + 1 → aheadQ 34 s.data.toList = none)) := Hd (by
      rw [hq] at ha
      by_cases h0 : i = 0
      ·rw [if_pos h0] at ha; exact ⟨fun _ => ha, fun h => by omega⟩
      ·rw [if_neg h0] at ha; exact ⟨fun _ => hno.out.1 (by omega), fun _ => ha⟩)
     clear ha hq hno
     go_wp2_with fail
     refine HA.out.mono ?_
     rintro e w1 ⟨rfl, hb1⟩
     have hbn := Hd (hb.out.trans (hb1.mono hsB))
     go_wp2_with fail
     go_roundg (2 - (i + 1))
     case measure => exact f4.out
     case rel => exact ⟨i + 1, rfl, by omega, by simp, hno2, hbn⟩
   | some n =>
     have hle := aheadQ_le ha
     rw [sz_list] at hle
     rw [ha] at HA
     replace HA : Calls Tryz.prog 185 #[.string s, .int .u8 q.toNat] wr fun e w' => e = .returned (.int .i64 (n : Nat)) ∧ Below wr.heap.size wr w' := HA
     replace HA := Hd HA
     have hQ2 : Hid (Q = some (n, q)) := Hd (by
      rw [hQ.out]
      by_cases h0 : i = 0
      ·rw [if_pos h0] at hq; subst hq; rw [ha]
      ·rw [if_neg h0] at hq; subst hq; rw [hno.out.1 (by omega), ha])
     clear ha hq hno hQ
     have hn0 : (0 : Int) ≤ n := by omega
     have hns : (n : Int) ≤ s.size := by omega
     have hns2 : n ≤ s.size := by omega
     have hi0 : (0 : Int) ≤ i := by omega
     go_wp2_with fail
     refine HA.out.mono ?_
     rintro e w1 ⟨rfl, hb1⟩
     have hbn := hb.out.trans (hb1.mono hsB)
     have x1 := hcell.out _ hbn
     have hbn2 := Hd ((hbW.out.trans (hbn.mono hbW.out.size)))
     clear hbn hb1
     go_upto_region 7 with fail
     go_region
     all_goals
      go_wp2
      go_ret3
      exact ⟨by rw [hQ2.out]; rfl, hbn2.out.drew⟩
  ·obtain rfl : i = 2 := by omega
   have hQ2 : Hid (Q = none) := Hd (by rw [hQ.out, hno.out.1 (by omega), hno.out.2 (by omega)])
   have hbn2 := Hd (hbW.out.trans (hb.out.mono hbW.out.size))
   go_wp2
   go_ret3
   exact ⟨by rw [hQ2.out]; rfl, hbn2.out⟩
end Go.Proofs.YtllbbacnakoomaaGreatDoor
namespace Go.Proofs.YtllbbacnakoomaaGreatDoor
open Go.RowKit
set_option linter.unusedVariables false
def bytV (o : Option (List UInt8)) : Value := match o with
 | none => .tuple #[.string ⟨#[]⟩, .bool false]
 | some b => .tuple #[.string ⟨b.toArray⟩, .bool true]
theorem letQ_le {A : List UInt8} {n : Nat} {q : UInt8} (h : lettersQ A = some (n, q)) : n + 2 ≤ A.length ∧ n ≤ 2 ∧ (q = 39 ∨ q = 34) := by
 rw [letQ_of] at h
 cases h1 : aheadQ 39 A with
 | some m =>
   rw [h1] at h
   simp only [Option.some.injEq, Prod.mk.injEq] at h
   obtain ⟨rfl, rfl⟩ := h
   exact ⟨(aheadQ_le h1).1, (aheadQ_le h1).2, .inl rfl⟩
 | none =>
   rw [h1] at h
   cases h2 : aheadQ 34 A with
   | some m =>
     rw [h2] at h
     simp only [Option.some.injEq, Prod.mk.injEq] at h
     obtain ⟨rfl, rfl⟩ := h
     exact ⟨(aheadQ_le h2).1, (aheadQ_le h2).2, .inr rfl⟩
   | none => rw [h2] at h; cases h
theorem escV_le (s : List UInt8) : (escV s).2 ≤ s.length := by
 rw [esc_R]
 by_cases h0 : s = []
 ·rw [if_pos h0]; exact Nat.zero_le _
 rw [if_neg h0]
 have hl : 0 < s.length := by
  rcases Nat.eq_zero_or_pos s.length with h | h
  ·exact absurd (List.eq_nil_of_length_eq_zero h) h0
  ·exact h
 cases escZ.find? (fun p => p.1 = chAt s 0) with
 | some p => simp only; omega
 | none =>
   simp only
   unfold escR
   have h1 := digL_le 16 (s.drop 1)
   have h2 := digL_le 8 s
   rw [List.length_drop] at h1
   split
   ·split
    ·exact Nat.zero_le _
    ·simp only; omega
   ·split
    ·exact Nat.zero_le _
    ·simp only; omega
theorem bytesIn_more {q : UInt8} : ∀ (k : Nat) (l : List UInt8), l.length < k → ∀ m, l.length < m → bytesIn q k l = bytesIn q m l
 | 0, l, h, m, hm => by omega
 | k + 1, [], h, m, hm => by cases m <;> simp [bytesIn]
 | k + 1, c :: r, h, 0, hm => by omega
 | k + 1, c :: r, h, m + 1, hm => by
   simp only [List.length_cons] at h hm
   simp only [bytesIn]
   split
   ·rfl
   split
   ·split
    ·rfl
    ·have := escV_le r
     rw [bytesIn_more k (r.drop (escV r).2) (by rw [List.length_drop]; omega) m (by rw [List.length_drop]; omega)]
   ·rw [bytesIn_more k r (by omega) m (by omega)]
def bIn (q : UInt8) (l : List UInt8) : Option (List UInt8) := bytesIn q (l.length + 1) l
theorem bIn_nil (q : UInt8) : bIn q [] = some [] := rfl
theorem bIn_cons (q c : UInt8) (r : List UInt8) : bIn q (c :: r) = if c = q then none else if c = 92 then (if (escV r).2 = 0 then none else (bIn q (r.drop (escV r).2)).map ((escV r).1 :: ·)) else (bIn q r).map (c :: ·) := by
 unfold bIn
 simp only [bytesIn]
 split
 ·rfl
 split
 ·split
  ·rfl
  ·rw [bytesIn_more (List.length (c :: r)) (r.drop (escV r).2) (by rw [List.length_drop, List.length_cons]; omega) ((r.drop (escV r).2).length + 1) (by omega)]
 ·rw [bytesIn_more (List.length (c :: r)) r (by simp) (r.length + 1) (by omega)]
theorem bytesV_eq (A : List UInt8) : bytesV A = (lettersQ A).bind fun p => bIn p.2 ((A.drop (p.1 + 1)).take (A.length - 1 - (p.1 + 1))) := by
 unfold bytesV
 cases lettersQ A with
 | none => rfl
 | some p =>
   simp only [Option.bind_some]
   unfold bIn
   exact bytesIn_more _ _ (by rw [List.length_take, List.length_drop]; omega) _ (by omega)
theorem rBytes_any (s : ByteArray) (hs : s.size ≤ 1000000) (w : World) :
 Calls Tryz.prog 96 #[.string s] w fun e w' => e = .returned (bytV (bytesV s.data.toList)) ∧ Below w.heap.size w w' := by
 rw [bytesV_eq]
 have HL := Hd (rLetters_any s hs w)
 cases hl : lettersQ s.data.toList with
 | none =>
   rw [hl] at HL
   replace HL : Hid (Calls Tryz.prog 153 #[.string s] w fun e w' => e = .returned (.tuple #[.string ⟨#[]⟩, .int .u8 0, .bool false]) ∧ Below w.heap.size w w') := HL
   clear hl
   go_enter Tryz.func96, Tryz.ntmps96
   go_wp2_with fail
   refine HL.out.mono ?_
   rintro e w1 ⟨rfl, hb1⟩
   replace hb1 := Hd hb1
   go_wp2
   go_ret2
   exact ⟨rfl, hb1.out⟩
 | some nq =>
   obtain ⟨n, q⟩ := nq
   obtain ⟨hn2, hnn, hq⟩ := letQ_le hl
   rw [sz_list] at hn2
   rw [hl] at HL
   replace HL : Hid (Calls Tryz.prog 153 #[.string s] w fun e w' => e = .returned (.tuple #[.string (s.extract 0 n), .int .u8 q.toNat, .bool true]) ∧ Below w.heap.size w w') := HL
   simp only [Option.bind_some]
   obtain ⟨X, hX⟩ : ∃ X, X = (s.data.toList.drop (n + 1)).take (s.data.toList.length - 1 - (n + 1)) := ⟨_, rfl⟩
   obtain ⟨R, hR⟩ : ∃ R, R = bIn q X := ⟨_, rfl⟩
   rw [← hX, ← hR]
   obtain ⟨P, hP⟩ : ∃ P, P = s.extract 0 n := ⟨_, rfl⟩
   have hPs : P.size = n := by rw [hP, ByteArray.size_extract]; omega
   rw [← hP] at HL
   obtain ⟨I, hI⟩ : ∃ I, I = s.extract (n + 1) (s.size - 1) := ⟨_, rfl⟩
   have hIX : I.data.toList = X := by
    rw [hI, show s.size - 1 = (n + 1) + (s.size - 1 - (n + 1)) by omega, ext_list, hX, sz_list]
   obtain ⟨m, hm⟩ : ∃ m, m = X.length := ⟨_, rfl⟩
   have hIm : I.size = m := by rw [← sz_list, hIX]; exact hm.symm
   have hm6 : m ≤ 1000000 := by rw [← hIm, hI, ByteArray.size_extract]; omega
   have g1 : IntKind.i64.wrap ((n : Int) + 1) = (n : Int) + 1 := IntWalk.i64_in _ (by omega)
   have g2 : IntKind.i64.wrap ((s.size : Int) - 1) = (s.size : Int) - 1 := IntWalk.i64_in _ (by omega)
   have g3 : ((s.size : Int) - 1).toNat = s.size - 1 := by omega
   have g4 : (n : Int) + 1 ≤ (s.size : Int) - 1 := by omega
   have g5 : (s.size : Int) - 1 ≤ (s.size : Int) := by omega
   have g6 : ((n : Int) + 1).toNat = n + 1 := by omega
   have g7 : ¬ (n : Int) + 1 < 0 := by omega
   have hXm := Hd hm.symm
   have hIXh := Hd hIX
   have hR0 : Hid ((bIn q (X.drop 0)).map (fun x => ([] : List UInt8) ++ x) = R) := Hd (by rw [hR, List.drop_zero]; cases bIn q X <;> rfl)
   replace hI := hI.symm
   have hq92 : Hid (q ≠ 92) := Hd (by rcases hq with rfl | rfl <;> decide)
   clear hR hX hP hm hIX hl hq
   go_enter Tryz.func96, Tryz.ntmps96
   go_wp2_with fail
   refine HL.out.mono ?_
   rintro e w1 ⟨rfl, b1⟩
   replace b1 := Hd b1
   go_wp2_with fail
   clear HL g1 g2 g3 g4 g5 g6 g7
   go_loopg [8,9,10,11,36,43,46] (m + 1) (fun k v8 v9 v10 v11 v36 v43 v46 wx => ∃ (i : Nat) (Y : List UInt8), k = m + 1 - i ∧ i ≤ m ∧ v9 = .int .i64 i ∧ Hid (Own wx w.heap.size 5 1 v8 (byC Y)) ∧ Hid (Y.length ≤ i) ∧ Hid ((bIn q (X.drop i)).map (fun x => Y ++ x) = R) ∧ Hid (Below w.heap.size w wx))
   case atStart => exact ⟨0, [], rfl, Nat.zero_le _, rfl, Hd (Own.nil _ _ _ _), Hd (Nat.zero_le _), hR0, b1⟩
   case round =>
    clear hR0 b1
    obtain ⟨i, Y, hk, hi, rfl, ho, hYi, hR, hb⟩ := hrel
    replace hk := hk.symm
    subst hk
    have hsB := hb.out.size
    have hlen : Hid ((byC Y).length + 3 ≤ 1000000000) := Hd (by rw [byC_len]; have := hYi.out; omega)
    by_cases hin : i < m
    ·have hin' : (i : Int) < m := by omega
     have f4 : Hid (m + 1 - (i + 1) < m + 1 - i) := Hd (by omega)
     have g1 : IntKind.i64.wrap ((i : Int) + 1) = (i : Int) + 1 := IntWalk.i64_in _ (by omega)
     obtain ⟨c, hc⟩ : ∃ c, X[i]? = some c := ⟨_, List.getElem?_eq_getElem (by rw [hXm.out]; exact hin)⟩
     have hci : (I[i]'(by omega)) = c := by
      rw [byte_chAt, hIXh.out]; unfold chAt; rw [List.getD_eq_getElem?_getD, hc]; rfl
     have hd : X.drop i = c :: X.drop (i + 1) := by
      rw [List.drop_eq_getElem_cons (by rw [hXm.out]; exact hin)]; congr 1; exact (List.getElem?_eq_some_iff.1 hc).2
     have hst := hR.out
     rw [hd, bIn_cons] at hst
     clear hc hR hd
     by_cases cq : c = q
     ·subst cq
      rw [if_pos rfl] at hst
      have hRn : Hid (R = none) := Hd hst.symm
      clear hst
      go_wp2
      go_ret2
      exact ⟨by rw [hRn.out]; rfl, hb.out⟩
     rw [if_neg cq] at hst
     obtain ⟨cqa, cqb⟩ := u8_nb cq
     replace cq := Hd cq
     by_cases c92 : c = 92
     ·subst c92
      have l92 : ((UInt8.toNat 92 : Nat) : Int) = 92 := rfl
      rw [if_pos rfl] at hst
      obtain ⟨Z, hZ⟩ : ∃ Z, Z = I.extract (i + 1) m := ⟨_, rfl⟩
      have hZl : Z.data.toList = X.drop (i + 1) := by
       rw [hZ, show m = (i + 1) + (m - (i + 1)) by omega, ext_list, hIXh.out, List.take_of_length_le (by rw [List.length_drop, hXm.out]; omega)]
      have hZs : Z.size ≤ 1000000 := by rw [← sz_list, hZl, List.length_drop, hXm.out]; omega
      have HE := Hd (rescape_any Z hZs wr)
      have hel := escV_le (X.drop (i + 1))
      rw [List.length_drop, hXm.out] at hel
      rw [hZl] at HE
      obtain ⟨e, x, hex⟩ : ∃ e x, escV (X.drop (i + 1)) = (e, x) := ⟨_, _, rfl⟩
      rw [hex] at HE hst hel
      simp only at HE hst hel
      replace hZ := hZ.symm
      have hii : (0 : Int) ≤ (i : Int) + 1 := by omega
      have hit : ((i : Int) + 1).toNat = i + 1 := by omega
      have his2 : (i : Int) + 1 ≤ m := by omega
      clear hZl hex
      go_wp2_with fail
      refine HE.out.mono ?_
      rintro en w2 ⟨rfl, hb2⟩
      clear HE
      have hbn := hb.out.trans (hb2.mono hsB)
      have ho2 := ho.out.below hb2
      have hsn := hbn.size
      by_cases x0 : x = 0
      ·subst x0
       rw [if_pos rfl] at hst
       have hRn : Hid (R = none) := Hd hst.symm
       replace hbn := Hd hbn
       clear hst
       go_wp2
       go_ret2
       exact ⟨by rw [hRn.out]; rfl, hbn.out⟩
      ·rw [if_neg x0] at hst
       have x0' : ¬ (x : Int) = 0 := by omega
       have x0b : ((x : Int) == 0) = false := beq_false_of_ne x0'
       obtain ⟨j, hj⟩ : ∃ j, j = i + x := ⟨_, rfl⟩
       have g3 : IntKind.i64.wrap ((i : Int) + x) = (j : Int) := by rw [IntWalk.i64_in _ (by omega)]; omega
       have g4 : IntKind.i64.wrap ((j : Int) + 1) = (j : Int) + 1 := IntWalk.i64_in _ (by omega)
       have hjm : j + 1 ≤ m := by omega
       have f5 : Hid (m + 1 - (j + 1) < m + 1 - i) := Hd (by omega)
       have hst' : Hid ((bIn q (X.drop (j + 1))).map (fun x => (Y ++ [e]) ++ x) = R) := Hd (by rw [← hst, map_app2, List.drop_drop, hj, show i + 1 + x = i + x + 1 by omega])
       have hYj : Hid ((Y ++ [e]).length ≤ j + 1) := Hd (by rw [List.length_append]; have := hYi.out; simp; omega)
       clear hst hj hel
       go_wp2_with (at_builtin; first
        | (refine wpList_append1 Eb5 rfl rfl ho2 rfl rfl (news := [.int .u8 e.toNat]) (by simp) rfl (by simp [Value.oneCell']) (by have := hlen.out; omega) (by decide) hsn ?_; intro v0 w3 hown0 hg0; have hb0 := bapp hbn ho2 hg0 hsn; have hs0 := hb0.size))
       go_roundg (m + 1 - (j + 1))
       case measure => exact f5.out
       case rel => exact ⟨j + 1, Y ++ [e], rfl, hjm, by simp, Hd (by simpa [byC] using hown0), hYj, hst', Hd hb0⟩
     rw [if_neg c92] at hst
     obtain ⟨ca92, cb92⟩ := u8_int (n := 92) (by decide) c92
     replace ca92 : ¬ (c.toNat : Int) = 92 := ca92
     replace cb92 : ((c.toNat : Int) == 92) = false := cb92
     have hst' : Hid ((bIn q (X.drop (i + 1))).map (fun x => (Y ++ [c]) ++ x) = R) := Hd (by rw [← hst, map_app2])
     have hYj : Hid ((Y ++ [c]).length ≤ i + 1) := Hd (by rw [List.length_append]; have := hYi.out; simp; omega)
     clear hst
     replace c92 := Hd c92
     go_wp2_with (at_builtin; first
      | (refine wpList_append1 Eb5 rfl rfl ho.out rfl rfl (news := [.int .u8 c.toNat]) (by simp) rfl (by simp [Value.oneCell']) (by have := hlen.out; omega) (by decide) hsB ?_; intro v0 w2 hown0 hg0; have hb0 := bapp hb.out ho.out hg0 hsB; have hs0 := hb0.size))
     go_roundg (m + 1 - (i + 1))
     case measure => exact f4.out
     case rel => exact ⟨i + 1, Y ++ [c], rfl, by omega, by simp, Hd (by simpa [byC] using hown0), hYj, hst', Hd hb0⟩
    ·obtain rfl : i = m := by omega
     have hin' : ¬ (i : Int) < (i : Int) := by omega
     have hRY : Hid (R = some Y) := Hd (by
      have := hR.out
      rw [List.drop_eq_nil_of_le (by rw [hXm.out]; exact Nat.le_refl _), bIn_nil] at this
      rw [← this]; simp)
     have hcv := run_str_own (P := Tryz.prog) (l := Y) (by simpa [byC] using ho.out) 115 9 Tryz.underlying115 Tryz.underlying5 Tryz.underlying9
     go_wp2
     go_ret2
     exact ⟨by rw [hRY.out]; rfl, hb.out⟩
end Go.Proofs.YtllbbacnakoomaaGreatDoor
