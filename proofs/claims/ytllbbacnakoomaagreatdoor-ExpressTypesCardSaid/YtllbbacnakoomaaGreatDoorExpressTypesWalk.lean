
/- ExpressTypes: the walk. -/
import Derived.Test.YtllbbacnakoomaaGreatDoorLwX
import Derived.Test.YtllbbacnakoomaaGreatDoorExpressTypesSpec
namespace Go.Proofs.YtllbbacnakoomaaGreatDoor
open Go.RowKit
set_option linter.unusedVariables false
set_option linter.unusedSimpArgs false

set_option maxHeartbeats 8000000 in
set_option maxRecDepth 100000 in
theorem expressTypes_walk (s : ByteArray) (hS0 : s.size ≤ maxLen) (w : World) (hsp : SpTab w) :
    Calls Tryz.prog 5 #[.string s] w fun e w' => e = .returned (.bool true) ∧ Below w.heap.size w w' := by
  have hA := Lib.hid (fun (y : World) (hy : Below w.heap.size w y) => awake20_any y (hsp.below hy))
  have hS1 : s.size ≤ 9223372036854775807 := by unfold maxLen at hS0; omega
  clear hS0
  replace hsp := Lib.hid hsp
  have hb0 : Hid (Below w.heap.size w w) := Lib.hid (Below.refl _ _)
  go_enter Tryz.func5, Tryz.ntmps5
  go_upto_region 2 with fail
  go_loopg [3] s.size (fun k v3 wx => ∃ (i : Nat), k = s.size - i ∧ i ≤ s.size ∧ v3 = .int .i64 i ∧ wx = w ∧ Hid (∀ j, j < i → 65 ≤ chAt s.data.toList j ∧ chAt s.data.toList j ≤ 90))
  case atStart => exact ⟨0, rfl, Nat.zero_le _, rfl, rfl, Lib.hid fun j h => absurd h (Nat.not_lt_zero j)⟩
  case round =>
    obtain ⟨i, hk, hi, rfl, rfl, hup⟩ := hrel
    replace hk := hk.symm
    subst hk
    by_cases hin : i < s.size
    · have hin' : (i : Int) < s.size := by omega
      have g1 : IntKind.i64.wrap ((i : Int) + 1) = (i : Int) + 1 := IntWalk.i64_in _ (by omega)
      have f4 : Hid (s.size - (i + 1) < s.size - i) := Lib.hid (by omega)
      obtain ⟨c, hc⟩ : ∃ c, c = chAt s.data.toList i := ⟨_, rfl⟩
      have hci : (s[i]'(by omega)) = c := by rw [hc]; exact byte_chAt _
      by_cases h1 : c < 65
      · have h1' : (c.toNat : Int) < 65 := by have := UInt8.lt_iff_toNat_lt.1 h1; have e : (65 : UInt8).toNat = 65 := rfl; omega
        replace h1 := Lib.hid h1
        clear hc
        go_wp2_with fail
        refine (hA.out _ hb0.out).mono ?_
        rintro e w2 ⟨rfl, hb2⟩
        go_wp2_with fail
        go_ret
        exact ⟨rfl, hb2⟩
      · have h1' : ¬ (c.toNat : Int) < 65 := by have := mt UInt8.lt_iff_toNat_lt.2 h1; have e : (65 : UInt8).toNat = 65 := rfl; omega
        by_cases h2 : 90 < c
        · have h2' : (90 : Int) < (c.toNat : Int) := by have := UInt8.lt_iff_toNat_lt.1 h2; have e : (90 : UInt8).toNat = 90 := rfl; omega
          replace h1 := Lib.hid h1
          replace h2 := Lib.hid h2
          clear hc
          go_wp2_with fail
          refine (hA.out _ hb0.out).mono ?_
          rintro e w2 ⟨rfl, hb2⟩
          go_wp2_with fail
          go_ret
          exact ⟨rfl, hb2⟩
        · have h2' : ¬ (90 : Int) < (c.toNat : Int) := by have := mt UInt8.lt_iff_toNat_lt.2 h2; have e : (90 : UInt8).toNat = 90 := rfl; omega
          have hcc : Hid (65 ≤ chAt s.data.toList i ∧ chAt s.data.toList i ≤ 90) := Lib.hid (by rw [← hc]; exact ⟨UInt8.not_lt.1 h1, UInt8.not_lt.1 h2⟩)
          replace h1 := Lib.hid h1
          replace h2 := Lib.hid h2
          clear hc
          go_wp2
          go_roundg (s.size - (i + 1))
          case measure => exact f4.out
          case rel => exact ⟨i + 1, rfl, by omega, by simp, rfl, Lib.hid fun j hj => by
            by_cases e : j < i
            · exact hup.out j e
            · have : j = i := by omega
              rw [this]; exact hcc.out⟩
    · obtain rfl : i = s.size := by omega
      have hin' : ¬ (s.size : Int) < (s.size : Int) := by omega
      have hup2 : ∀ c ∈ s.data.toList, 65 ≤ c ∧ c ≤ 90 := fun c hc => by
        obtain ⟨j, hj⟩ := List.getElem?_of_mem hc
        have hl : j < s.data.toList.length := by
          rcases Nat.lt_or_ge j s.data.toList.length with h | h
          · exact h
          · rw [List.getElem?_eq_none h] at hj; cases hj
        have := hup.out j (by rw [dsz] at hl; exact hl)
        rw [chAt_lt hj] at this
        exact this
      clear hup hi
      by_cases he0 : s = ⟨#[]⟩
      · subst he0
        go_wp2_with fail
        refine (hA.out _ hb0.out).mono ?_
        rintro e w2 ⟨rfl, hb2⟩
        go_wp2_with fail
        go_ret
        exact ⟨rfl, hb2⟩
      have hne := eqb_nl [] he0
      by_cases h20 : 20 < s.size
      · have h20' : (20 : Int) < (s.size : Int) := by omega
        replace he0 := Lib.hid he0
        go_wp2_with fail
        refine (hA.out _ hb0.out).mono ?_
        rintro e w2 ⟨rfl, hb2⟩
        go_wp2_with fail
        go_ret
        exact ⟨rfl, hb2⟩
      have h20' : ¬ (20 : Int) < (s.size : Int) := by omega
      by_cases hL : s = (⟨#[76]⟩ : ByteArray)
      · subst hL
        replace he0 := Lib.hid he0
        go_wp2_with fail
        refine (hA.out _ hb0.out).mono ?_
        rintro e w2 ⟨rfl, hb2⟩
        go_wp2_with fail
        go_ret
        exact ⟨rfl, hb2⟩
      have hLb := eqb_nl ([76] : List UInt8) hL
      by_cases hU : s = (⟨#[85]⟩ : ByteArray)
      · subst hU
        replace he0 := Lib.hid he0
        replace hL := Lib.hid hL
        go_wp2_with fail
        refine (hA.out _ hb0.out).mono ?_
        rintro e w2 ⟨rfl, hb2⟩
        go_wp2_with fail
        go_ret
        exact ⟨rfl, hb2⟩
      have hUb := eqb_nl ([85] : List UInt8) hU
      have hN : NmOk s.data.toList := ⟨fun e => he0 (bs_list e), hup2⟩
      have hSb : bs s.data.toList = s := (bs_list rfl).symm
      have hSn : s.size ≠ 0 := fun e => he0 (bs_list (List.eq_nil_of_length_eq_zero (by rw [dsz]; exact e)))
      have hSl : s.data.toList.length ≤ 20 := by rw [dsz]; omega
      have hsp := hsp.out
      have H0 := Lib.hid (wr20_s hsp ((⟨#[40]⟩ : ByteArray) ++ s ++ (⟨#[41, 40, 121, 41]⟩ : ByteArray) : ByteArray) ((⟨#[40, 99, 97, 108, 108, 32]⟩ : ByteArray) ++ ((⟨#[40, 110, 97, 109, 101, 32]⟩ : ByteArray) ++ s ++ (⟨#[41]⟩ : ByteArray)) ++ (⟨#[32, 40, 110, 97, 109, 101, 32, 121, 41, 41]⟩ : ByteArray) : ByteArray) (typ_w0 hN) (by simp [da, typS]) (by simp [da, xW, tW]) (by simp [typS]; omega) (by simp [xW, tW]; omega))
      have H1 := Lib.hid (wr20n_s hsp ((⟨#[40]⟩ : ByteArray) ++ s ++ (⟨#[41, 40, 121, 41]⟩ : ByteArray) : ByteArray) ((⟨#[40, 99, 97, 115, 116, 32]⟩ : ByteArray) ++ ((⟨#[40, 116, 121, 112, 101, 110, 97, 109, 101, 32, 40, 115, 112, 101, 99, 115, 32, 40, 116, 121, 112, 101, 110, 97, 109, 101, 32]⟩ : ByteArray) ++ s ++ (⟨#[41, 41, 32]⟩ : ByteArray)) ++ (⟨#[40, 110, 111, 110, 101, 41, 41, 32, 40, 110, 97, 109, 101, 32, 121, 41, 41]⟩ : ByteArray) : ByteArray) s hSn (by have h := typ_w1 hN; rw [hSb] at h; exact h) (by simp [da, typS]) (by simp [da, xW, tW]) (by simp [typS]; omega) (by simp [xW, tW]; omega))
      have H2 := Lib.hid (wr20n_s hsp ((⟨#[40]⟩ : ByteArray) ++ s ++ (⟨#[42, 41, 121]⟩ : ByteArray) : ByteArray) ((⟨#[40, 99, 97, 115, 116, 32]⟩ : ByteArray) ++ ((⟨#[40, 116, 121, 112, 101, 110, 97, 109, 101, 32, 40, 115, 112, 101, 99, 115, 32, 40, 116, 121, 112, 101, 110, 97, 109, 101, 32]⟩ : ByteArray) ++ s ++ (⟨#[41, 41, 32]⟩ : ByteArray)) ++ (⟨#[40, 112, 111, 105, 110, 116, 101, 114, 32, 40, 110, 111, 110, 101, 41, 41, 41, 32, 40, 110, 97, 109, 101, 32, 121, 41, 41]⟩ : ByteArray) : ByteArray) s hSn (by have h := typ_w2 hN; rw [hSb] at h; exact h) (by simp [da, typS]) (by simp [da, xW, tW]) (by simp [typS]; omega) (by simp [xW, tW]; omega))
      have H3 := Lib.hid (wr20_s hsp ((⟨#[115, 105, 122, 101, 111, 102, 40]⟩ : ByteArray) ++ s ++ (⟨#[41]⟩ : ByteArray) : ByteArray) ((⟨#[40, 115, 105, 122, 101, 111, 102, 32]⟩ : ByteArray) ++ ((⟨#[40, 110, 97, 109, 101, 32]⟩ : ByteArray) ++ s ++ (⟨#[41]⟩ : ByteArray)) ++ (⟨#[41]⟩ : ByteArray) : ByteArray) (typ_w3 hN) (by simp [da, typS]) (by simp [da, xW, tW]) (by simp [typS]; omega) (by simp [xW, tW]; omega))
      have H4 := Lib.hid (wr20n_s hsp ((⟨#[115, 105, 122, 101, 111, 102, 40]⟩ : ByteArray) ++ s ++ (⟨#[41]⟩ : ByteArray) : ByteArray) ((⟨#[40, 115, 105, 122, 101, 111, 102, 116, 121, 112, 101, 32]⟩ : ByteArray) ++ ((⟨#[40, 116, 121, 112, 101, 110, 97, 109, 101, 32, 40, 115, 112, 101, 99, 115, 32, 40, 116, 121, 112, 101, 110, 97, 109, 101, 32]⟩ : ByteArray) ++ s ++ (⟨#[41, 41, 32]⟩ : ByteArray)) ++ (⟨#[40, 110, 111, 110, 101, 41, 41, 41]⟩ : ByteArray) : ByteArray) s hSn (by have h := typ_w4 hN; rw [hSb] at h; exact h) (by simp [da, typS]) (by simp [da, xW, tW]) (by simp [typS]; omega) (by simp [xW, tW]; omega))
      have H5 := Lib.hid (wr20n_s hsp ((⟨#[40]⟩ : ByteArray) ++ s ++ (⟨#[40, 42, 41, 40]⟩ : ByteArray) ++ s ++ (⟨#[44, 32, 46, 46, 46, 41, 41, 48]⟩ : ByteArray) : ByteArray) ((⟨#[40, 99, 97, 115, 116, 32]⟩ : ByteArray) ++ ((⟨#[40, 116, 121, 112, 101, 110, 97, 109, 101, 32, 40, 115, 112, 101, 99, 115, 32, 40, 116, 121, 112, 101, 110, 97, 109, 101, 32]⟩ : ByteArray) ++ s ++ (⟨#[41, 41, 32]⟩ : ByteArray)) ++ (⟨#[40, 102, 117, 110, 99, 32, 40, 112, 111, 105, 110, 116, 101, 114, 32, 40, 110, 111, 110, 101, 41, 41, 32, 40, 112, 97, 114, 97, 109, 32, 40, 115, 112, 101, 99, 115, 32, 40, 116, 121, 112, 101, 110, 97, 109, 101, 32]⟩ : ByteArray) ++ s ++ (⟨#[41, 41, 32, 40, 110, 111, 110, 101, 41, 41, 32, 40, 100, 111, 116, 115, 41, 41, 41, 32, 40, 105, 110, 116, 32, 48, 41, 41]⟩ : ByteArray) : ByteArray) s hSn (by have h := typ_w5 hN; rw [hSb] at h; exact h) (by simp [da, typS]) (by simp [da, xW, tW]) (by simp [typS]; omega) (by simp [xW, tW]; omega))
      have H6 := Lib.hid (wr20n_s hsp ((⟨#[40]⟩ : ByteArray) ++ s ++ (⟨#[41, 123, 49, 44, 32, 46, 97, 91, 50, 93, 32, 61, 32, 51, 125, 46, 98]⟩ : ByteArray) : ByteArray) ((⟨#[40, 109, 101, 109, 98, 101, 114, 32, 46, 98, 32, 40, 108, 105, 116, 101, 114, 97, 108, 32]⟩ : ByteArray) ++ ((⟨#[40, 116, 121, 112, 101, 110, 97, 109, 101, 32, 40, 115, 112, 101, 99, 115, 32, 40, 116, 121, 112, 101, 110, 97, 109, 101, 32]⟩ : ByteArray) ++ s ++ (⟨#[41, 41, 32]⟩ : ByteArray)) ++ (⟨#[40, 110, 111, 110, 101, 41, 41, 32, 40, 105, 110, 105, 116, 115, 32, 40, 105, 110, 116, 32, 49, 41, 32, 40, 97, 116, 32, 40, 102, 105, 101, 108, 100, 32, 97, 41, 32, 40, 105, 110, 100, 101, 120, 32, 40, 105, 110, 116, 32, 50, 41, 41, 32, 40, 105, 110, 116, 32, 51, 41, 41, 41, 41, 41]⟩ : ByteArray) : ByteArray) s hSn (by have h := typ_w6 hN; rw [hSb] at h; exact h) (by simp [da, typS]) (by simp [da, xW, tW]) (by simp [typS]; omega) (by simp [xW, tW]; omega))
      clear hsp hSb hN hup2 hSl
      replace he0 := Lib.hid he0
      replace hL := Lib.hid hL
      replace hU := Lib.hid hU
      have hS20 : s.size ≤ 20 := by omega
      have hb := hb0
      clear hb0
      go_wp2_with fail
      refine (H0.out _ hb.out).mono ?_
      rintro e w2 ⟨rfl, hb2⟩
      replace hb := Lib.hid (hb.out.trans (hb2.mono hb.out.size))
      clear hb2 H0
      go_wp2_with fail
      refine (H1.out _ hb.out).mono ?_
      rintro e w3 ⟨rfl, hb2⟩
      replace hb := Lib.hid (hb.out.trans (hb2.mono hb.out.size))
      clear hb2 H1
      go_wp2_with fail
      refine (H2.out _ hb.out).mono ?_
      rintro e w4 ⟨rfl, hb2⟩
      replace hb := Lib.hid (hb.out.trans (hb2.mono hb.out.size))
      clear hb2 H2
      go_wp2_with fail
      refine (H3.out _ hb.out).mono ?_
      rintro e w5 ⟨rfl, hb2⟩
      replace hb := Lib.hid (hb.out.trans (hb2.mono hb.out.size))
      clear hb2 H3
      go_wp2_with fail
      refine (H4.out _ hb.out).mono ?_
      rintro e w6 ⟨rfl, hb2⟩
      replace hb := Lib.hid (hb.out.trans (hb2.mono hb.out.size))
      clear hb2 H4
      go_wp2_with fail
      refine (H5.out _ hb.out).mono ?_
      rintro e w7 ⟨rfl, hb2⟩
      replace hb := Lib.hid (hb.out.trans (hb2.mono hb.out.size))
      clear hb2 H5
      go_wp2_with fail
      refine (H6.out _ hb.out).mono ?_
      rintro e w8 ⟨rfl, hb2⟩
      replace hb := Lib.hid (hb.out.trans (hb2.mono hb.out.size))
      clear hb2 H6
      go_wp2_with fail
      refine (hA.out _ hb.out).mono ?_
      rintro e w9 ⟨rfl, hb2⟩
      replace hb := Lib.hid (hb.out.trans (hb2.mono hb.out.size))
      clear hb2
      go_wp2_with fail
      go_ret
      exact ⟨rfl, hb.out⟩
end Go.Proofs.YtllbbacnakoomaaGreatDoor
