/- Texts of this seat's proofs, laid into one file. -/
import Derived.Test.YtllbbacnakoomaaGreatDoorS9
import Derived.Test.YtllbbacnakoomaaGreatDoorS15
import Derived.Deep.Cut
import Derived.Deep.CutRange
import Derived.Deep.CutBlock
set_option maxRecDepth 100000
set_option maxHeartbeats 16000000
namespace Go.Proofs.YtllbbacnakoomaaGreatDoor
open Go.RowKit
set_option linter.unusedVariables false
def IntPost (x : Bool) (e : Ending) : Prop := ∃ (u : Int) (b : Bool), e = .returned (.tuple #[.agg #[.int .u64 u, .bool b], .bool x])
abbrev inZ : Obj := .cells #[.int .u64 0, .bool false] 163 (0,0)
theorem base_cases (s : ByteArray) : (baseL s.data.toList = (10,0) ∧ (s.size = 0 ∨ chAt s.data.toList 0 ≠ 48)) ∨
 (baseL s.data.toList = (8,0) ∧ 0 < s.size ∧ chAt s.data.toList 0 = 48 ∧ (s.size = 1 ∨ 1 < s.size ∧ chAt s.data.toList 1 ≠ 120 ∧ chAt s.data.toList 1 ≠ 88)) ∨
 (baseL s.data.toList = (16,2) ∧ 1 < s.size ∧ chAt s.data.toList 0 = 48 ∧ (chAt s.data.toList 1 = 120 ∨ chAt s.data.toList 1 ≠ 120 ∧ chAt s.data.toList 1 = 88)) := by
 have hs := sz_list s
 have h0 : s.data.toList ≠ [] ↔ s.size ≠ 0 := by rw [← hs]; exact not_congr List.length_eq_zero_iff.symm
 unfold baseL
 by_cases h1 : s.size = 0
 ·left; rw [if_neg (fun h => (h0.1 h.2) h1)]; exact ⟨rfl, .inl h1⟩
 by_cases h2 : chAt s.data.toList 0 = 48
 ·rw [if_pos ⟨h2, h0.2 h1⟩, hs]
  by_cases h3 : 1 < s.size ∧ (chAt s.data.toList 1 = 120 ∨ chAt s.data.toList 1 = 88)
  ·right; right; rw [if_pos h3]
   refine ⟨rfl, h3.1, h2, ?_⟩
   by_cases h4 : chAt s.data.toList 1 = 120
   ·exact .inl h4
   ·exact .inr ⟨h4, h3.2.resolve_left h4⟩
  ·right; left; rw [if_neg h3]
   refine ⟨rfl, by omega, h2, ?_⟩
   by_cases h4 : s.size = 1
   ·exact .inl h4
   ·refine .inr ⟨by omega, ?_, ?_⟩
    ·intro h; exact h3 ⟨by omega, .inl h⟩
    ·intro h; exact h3 ⟨by omega, .inr h⟩
 ·left; rw [if_neg (fun h => h2 h.1)]; exact ⟨rfl, .inr h2⟩
theorem bne_of {a b : Int} (h : ¬ a = b) : (a == b) = false := beq_false_of_ne h
theorem rNumber_any (s : ByteArray) (hs : s.size ≤ 1000000) (w : World) :
 Calls Tryz.prog 92 #[.string s] w fun e w' => IntPost (numberB s.data.toList) e ∧ Below w.heap.size w w' := by
 obtain ⟨B, A, hBA⟩ : ∃ B A, baseL s.data.toList = (B, A) := ⟨_, _, rfl⟩
 obtain ⟨W, hW⟩ : ∃ W, W = w.alloc inZ := ⟨_, rfl⟩
 have hbW : Below w.heap.size w W := by rw [hW]; exact (Below.refl _ w).alloc (Nat.le_refl _) _
 have hgW : W.heap[w.heap.size]? = some inZ := by rw [hW]; exact heap_alloc_new w _
 replace hbW := Hd hbW
 replace hgW := Hd hgW
 have hBase := base_cases s
 rw [hBA] at hBase
 obtain ⟨nb, hnb⟩ : ∃ nb, nb = numberB s.data.toList := ⟨_, rfl⟩
 rw [← hnb]
 have hN : nb = (decide (digL B (s.data.toList.drop A) ≠ 0) && (accL B 0 ((s.data.toList.drop A).take (digL B (s.data.toList.drop A)))).isSome && sufB (s.data.toList.drop (A + digL B (s.data.toList.drop A)))) := by rw [hnb]; unfold numberB; rw [hBA]
 clear hnb
 have hAs : A ≤ s.size ∧ A ≤ 2 ∧ B ≤ 16 ∧ 8 ≤ B := by
  rcases hBase with ⟨e, h⟩ | ⟨e, h⟩ | ⟨e, h⟩ <;> (simp only [Prod.mk.injEq] at e; omega)
 go_enter Tryz.func92, Tryz.ntmps92
 go_upto_region 2 with fail
 rw [← hW]
 replace hW := Hd hW
 obtain ⟨b1, hb1⟩ : ∃ b1, b1 = decide (0 < s.size ∧ chAt s.data.toList 0 = 48) := ⟨_, rfl⟩
 replace hb1 := Hd hb1
 go_cut [19] from 12 to 19 (fun v19 wx => v19 = .bool b1 ∧ wx = W)
 case first =>
  clear hN hAs hBase hBA
  by_cases hz : s.size = 0
  ·have hz' : ¬ (0 : Int) < s.size := by omega
   obtain rfl : b1 = false := by rw [hb1.out]; exact decide_eq_false (by omega)
   clear hb1
   go_wp2_with fail
   go_meet
   exact ⟨rfl, rfl⟩
  ·have hz' : (0 : Int) < s.size := by omega
   have hz2 : 0 < s.size := by omega
   obtain ⟨c, hc⟩ : ∃ c, c = chAt s.data.toList 0 := ⟨_, rfl⟩
   have hci : (s[0]'hz2) = c := by rw [hc]; exact byte_chAt _
   rw [← hc] at hb1
   clear hc
   by_cases h48 : c = 48
   ·subst h48
    obtain rfl : b1 = true := by rw [hb1.out]; exact decide_eq_true ⟨hz2, rfl⟩
    have l48 : ((UInt8.toNat 48 : Nat) : Int) = 48 := rfl
    clear hb1
    go_wp2_with fail
    go_meet
    exact ⟨rfl, rfl⟩
   ·obtain rfl : b1 = false := by rw [hb1.out]; exact decide_eq_false (fun h => h48 h.2)
    obtain ⟨n1, n2⟩ := u8_int (n := 48) (by decide) h48
    replace n1 : ¬ (c.toNat : Int) = 48 := n1
    replace n2 : ((c.toNat : Int) == 48) = false := n2
    clear hb1 h48
    go_wp2_with fail
    go_meet
    exact ⟨rfl, rfl⟩
 case rest =>
 obtain ⟨rfl, rfl⟩ := hcut
 go_upto_if 19 with fail
 go_cut [4,5] from 20 to 32 (fun v4 v5 wx => v4 = .int .i64 B ∧ v5 = .int .i64 A ∧ wx = wc)
 case first =>
  clear hN hAs
  rcases hBase with ⟨e, h⟩ | ⟨e, h0, h48, h⟩ | ⟨e, h0, h48, h⟩
  ·obtain ⟨rfl, rfl⟩ := Prod.mk.inj e
   obtain rfl : b1 = false := by rw [hb1.out]; exact decide_eq_false (by rintro ⟨k1, k2⟩; rcases h with h | h; omega; exact h k2)
   clear h hb1
   go_wp2_with fail
   go_meet
   exact ⟨rfl, rfl, rfl⟩
  all_goals
   obtain ⟨rfl, rfl⟩ := Prod.mk.inj e
   obtain rfl : b1 = true := by rw [hb1.out]; exact decide_eq_true ⟨by omega, h48⟩
   clear h48 e hb1
  ·by_cases h1 : s.size = 1
   ·have h1' : ¬ (1 : Int) < s.size := by omega
    clear h
    go_wp2_with fail
    go_meet
    exact ⟨rfl, rfl, rfl⟩
   ·have h2 := h.resolve_left h1
    have h1' : (1 : Int) < s.size := by omega
    obtain ⟨c, hc⟩ : ∃ c, c = chAt s.data.toList 1 := ⟨_, rfl⟩
    have hci1 : (s[1]'(by omega)) = c := by rw [hc]; exact byte_chAt _
    rw [← hc] at h2
    obtain ⟨n1, n2⟩ := u8_int (n := 120) (by decide) h2.2.1
    replace n1 : ¬ (c.toNat : Int) = 120 := n1
    replace n2 : ((c.toNat : Int) == 120) = false := n2
    obtain ⟨n3, n4⟩ := u8_int (n := 88) (by decide) h2.2.2
    replace n3 : ¬ (c.toNat : Int) = 88 := n3
    replace n4 : ((c.toNat : Int) == 88) = false := n4
    clear h h2 hc
    go_wp2_with fail
    go_meet
    exact ⟨rfl, rfl, rfl⟩
  ·have h1' : (1 : Int) < s.size := by omega
   rcases h with h | ⟨h, h2⟩
   ·have hci1 : (s[1]'(by omega)) = 120 := by rw [← h]; exact byte_chAt _
    have l120 : ((UInt8.toNat 120 : Nat) : Int) = 120 := rfl
    clear h
    go_wp2_with fail
    go_meet
    exact ⟨rfl, rfl, rfl⟩
   ·have hci1 : (s[1]'(by omega)) = 88 := by rw [← h2]; exact byte_chAt _
    have l88 : ((UInt8.toNat 88 : Nat) : Int) = 88 := rfl
    clear h h2
    go_wp2_with fail
    go_meet
    exact ⟨rfl, rfl, rfl⟩
 case rest =>
  obtain ⟨rfl, rfl, rfl⟩ := hcut
  clear hBase hBA
  obtain ⟨n, hn⟩ : ∃ n, n = digL B (s.data.toList.drop A) := ⟨_, rfl⟩
  have HD := Hd (rdigits_any s hs A B (by omega) (by omega) wc)
  rw [← hn] at HD hN
  have hnl : n + A ≤ s.size := by
   have := digL_le B (s.data.toList.drop A)
   rw [← hn, List.length_drop, sz_list] at this
   omega
  replace hn := Hd hn
  go_wp2_with fail
  refine HD.out.mono ?_
  rintro e w1 ⟨rfl, rfl⟩
  clear HD
  by_cases hn0 : n = 0
  ·subst hn0
   have hF : Hid (nb = false) := Hd (by rw [hN]; rfl)
   clear hN
   have hcc := hgW.out
   go_wp2_with (refine wpList_store_row rfl 163 _ _ rfl w.heap.size _ rfl rfl 163 _ hcc (by kernel_rfl) rfl (by simp [Value.oneCell']) ?_)
   refine bodyPost_ret (results_row_tmp rfl _ _ w.heap.size 163 _ (0,0) _ rfl (setRow_heap _ _ _ _ _ _ hcc) Tryz.underlying163 rfl (by kernel_rfl)) rfl ?_
   exact ⟨⟨_, _, by rw [hF.out]; rfl⟩, Below.row hbW.out (Nat.le_refl _) _⟩
  ·have hn0' : ¬ (n : Int) = 0 := by omega
   have hn0b : ((n : Int) == 0) = false := beq_false_of_ne hn0'
   rw [decide_eq_true hn0, Bool.true_and] at hN
   obtain ⟨Y, hY⟩ : ∃ Y, Y = (s.data.toList.drop A).take n := ⟨_, rfl⟩
   obtain ⟨R, hR⟩ : ∃ R, R = accL B 0 Y := ⟨_, rfl⟩
   obtain ⟨E, hE⟩ : ∃ E, E = A + n := ⟨_, rfl⟩
   rw [← hY, ← hR, ← hE] at hN
   have hR0 : Hid (accL B 0 (Y.drop 0) = R) := Hd hR.symm
   have gE : IntKind.i64.wrap ((A : Int) + n) = (E : Int) := by rw [IntWalk.i64_in _ (by omega)]; omega
   have hYd : Hid (∀ j, j < n → Y.drop j = chAt s.data.toList (A + j) :: Y.drop (j + 1)) := Hd (by
    intro j hj
    have hl : j < Y.length := by rw [hY, List.length_take, List.length_drop, sz_list]; omega
    rw [drop_at hl]
    congr 1
    unfold chAt
    rw [List.getD_eq_getElem?_getD, List.getD_eq_getElem?_getD, hY, List.getElem?_take_of_lt hj, List.getElem?_drop])
   have hYn : Hid (Y.length = n) := Hd (by rw [hY, List.length_take, List.length_drop, sz_list]; omega)
   have hEs : E ≤ s.size := by omega
   have hEn : Hid (E = A + n) := Hd hE
   replace hN := Hd hN
   clear hY hR hE
   go_wp2_with fail
   go_loopg [7,8,9] n (fun q v7 v8 v9 wx => ∃ j i u : Nat, q = n - j ∧ j ≤ n ∧ v7 = .int .u64 u ∧ v8 = .int .i64 i ∧ Hid (i = A + j) ∧ wx = w1 ∧ Hid (accL B u (Y.drop j) = R) ∧ u ≤ 18446744073709551615)
   case atStart => exact ⟨0, A, 0, rfl, Nat.zero_le _, rfl, rfl, Hd rfl, rfl, hR0, by omega⟩
   case round =>
    clear hR0
    obtain ⟨j, i, u, hq, hj, rfl, rfl, hi, rfl, hR, hu⟩ := hrel
    replace hq := hq.symm
    subst hq
    by_cases hin : j < n
    ·have hiE : i < E := by have h1 := hi.out; have h2 := hEn.out; omega
     have hin' : (i : Int) < E := by omega
     have his : i < s.size := by omega
     have g1 : IntKind.i64.wrap ((i : Int) + 1) = (i : Int) + 1 := IntWalk.i64_in _ (by omega)
     have f4 : Hid (n - (j + 1) < n - j) := Hd (by omega)
     obtain ⟨c, hc⟩ : ∃ c, c = chAt s.data.toList i := ⟨_, rfl⟩
     have hci : (s[i]'his) = c := by rw [hc]; exact byte_chAt _
     have hst := hR.out
     rw [hYd.out j hin, ← hi.out, ← hc, accL] at hst
     clear hc hR
     have HV := Hd (rvalue_any c wr)
     have hd99 := valC_le c
     obtain ⟨d, hd⟩ : ∃ d, d = valC c := ⟨_, rfl⟩
     rw [← hd] at hst HV hd99
     clear hd
     obtain ⟨m, hm⟩ : ∃ m, m = 18446744073709551615 - d := ⟨_, rfl⟩
     obtain ⟨qv, hqv⟩ : ∃ qv, qv = m / B := ⟨_, rfl⟩
     rw [← hm, ← hqv] at hst
     have g2 : IntKind.u64.wrap (d : Int) = (d : Int) := IntWalk.u64_in _ (by omega)
     have g3 : IntKind.u64.wrap (18446744073709551615 - (d : Int)) = (m : Int) := by rw [IntWalk.u64_in _ (by omega)]; omega
     have g4 : IntKind.u64.wrap (B : Int) = (B : Int) := IntWalk.u64_in _ (by omega)
     have g5 : Int.tdiv (m : Int) (B : Int) = (qv : Int) := by rw [hqv]; rfl
     have hqm : qv ≤ m := by rw [hqv]; exact Nat.div_le_self _ _
     have g6 : IntKind.u64.wrap (qv : Int) = (qv : Int) := IntWalk.u64_in _ (by omega)
     have hB0 : ¬ (B : Int) = 0 := by omega
     have hB0b : ((B : Int) == 0) = false := beq_false_of_ne hB0
     have hmul : qv * B ≤ m := by rw [hqv]; exact Nat.div_mul_le_self _ _
     replace hqv := Hd hqv
     by_cases hgt : qv < u
     ·rw [if_pos hgt] at hst
      have hgt' : (qv : Int) < u := by omega
      have hF : Hid (nb = false) := Hd (by rw [hN.out, ← hst]; rfl)
      clear hst hN hm hmul hqm
      have hcc := hgW.out
      go_wp2_with fail
      refine HV.out.mono ?_
      rintro e w2 ⟨rfl, rfl⟩
      go_wp2_with (refine wpList_store_row rfl 163 _ _ rfl w.heap.size _ rfl rfl 163 _ hcc (by kernel_rfl) rfl (by simp [Value.oneCell']) ?_)
      refine bodyPost_ret (results_row_tmp rfl _ _ w.heap.size 163 _ (0,0) _ rfl (setRow_heap _ _ _ _ _ _ hcc) Tryz.underlying163 rfl (by kernel_rfl)) rfl ?_
      exact ⟨⟨_, _, by rw [hF.out]; rfl⟩, Below.row hbW.out (Nat.le_refl _) _⟩
     ·rw [if_neg hgt] at hst
      have hgt' : ¬ (qv : Int) < u := by omega
      obtain ⟨x, hx⟩ : ∃ x, x = u * B := ⟨_, rfl⟩
      have hxm : x ≤ m := by rw [hx]; exact Nat.le_trans (Nat.mul_le_mul_right B (by omega)) hmul
      obtain ⟨y, hy⟩ : ∃ y, y = x + d := ⟨_, rfl⟩
      have g7 : IntKind.u64.wrap ((u : Int) * B) = (x : Int) := by rw [IntWalk.u64_in _ (by rw [show (u : Int) * B = ((u * B : Nat) : Int) by simp, ← hx]; omega), hx]; simp
      have g8 : IntKind.u64.wrap ((x : Int) + d) = (y : Int) := by rw [IntWalk.u64_in _ (by omega)]; omega
      have hst' : Hid (accL B y (Y.drop (j + 1)) = R) := Hd (by rw [hy, hx]; exact hst)
      have hy' : y ≤ 18446744073709551615 := by omega
      clear hst hm hmul hqm hx hxm hy
      go_wp2_with fail
      refine HV.out.mono ?_
      rintro e w2 ⟨rfl, rfl⟩
      go_wp2_with fail
      go_roundg (n - (j + 1))
      case measure => exact f4.out
      case rel => exact ⟨j + 1, i + 1, y, rfl, by omega, rfl, by simp, Hd (by have := hi.out; omega), rfl, hst', hy'⟩
    ·have hiE : i = E := by have h1 := hi.out; have h2 := hEn.out; omega
     subst hiE
     have hin' : ¬ (i : Int) < (i : Int) := by omega
     have hR2 : Hid (R.isSome = true) := Hd (by
      have := hR.out
      rw [List.drop_eq_nil_of_le (by rw [hYn.out]; omega)] at this
      rw [← this]; rfl)
     obtain ⟨Z, hZ⟩ : ∃ Z, Z = s.extract i s.size := ⟨_, rfl⟩
     have hZl : Z.data.toList = s.data.toList.drop i := by
      rw [hZ, show s.size = i + (s.size - i) by omega, ext_list, List.take_of_length_le (by rw [List.length_drop, sz_list]; omega)]
     have hZs : Z.size ≤ 1000000 := by rw [← sz_list, hZl, List.length_drop, sz_list]; omega
     have HS := Hd (rsuffix_any Z hZs wr)
     have hF : Hid (nb = sufB Z.data.toList) := Hd (by rw [hN.out, hR2.out, hZl, Bool.true_and])
     replace hZ := hZ.symm
     clear hN hR hZl hR2
     have hii : (0 : Int) ≤ (i : Int) := by omega
     have his2 : (i : Int) ≤ s.size := by omega
     go_wp2_with fail
     refine HS.out.mono ?_
     rintro e w2 ⟨⟨b, rfl⟩, hb2⟩
     have hgW2 := Hd ((hb2.block _ (lt_of_block hgW.out)).trans hgW.out)
     have hbW2 := Hd (hbW.out.trans (hb2.mono hbW.out.size))
     have hcc := hgW2.out
     clear HS hb2 hbW hgW hW
     have hbW := hbW2
     clear hbW2
     generalize sufB Z.data.toList = sz at hF
     cases sz with
     | false =>
       go_wp2_with (refine wpList_store_row rfl 163 _ _ rfl w.heap.size _ rfl rfl 163 _ hcc (by kernel_rfl) rfl (by simp [Value.oneCell']) ?_)
       refine bodyPost_ret (results_row_tmp rfl _ _ w.heap.size 163 _ (0,0) _ rfl (setRow_heap _ _ _ _ _ _ hcc) Tryz.underlying163 rfl (by kernel_rfl)) rfl ?_
       exact ⟨⟨_, _, by rw [hF.out]; rfl⟩, Below.row hbW.out (Nat.le_refl _) _⟩
     | true =>
       by_cases hgt : 9223372036854775807 < u
       ·have hgt' : (9223372036854775807 : Int) < u := by omega
        cases b with
        | false =>
          go_wp2_with (refine wpList_store_row rfl 163 _ _ rfl w.heap.size _ rfl rfl 163 _ hcc (by kernel_rfl) rfl (by simp [Value.oneCell']) ?_)
          refine bodyPost_ret (results_row_tmp rfl _ _ w.heap.size 163 _ (0,0) _ rfl (setRow_heap _ _ _ _ _ _ hcc) Tryz.underlying163 rfl (by kernel_rfl)) rfl ?_
          exact ⟨⟨_, _, by rw [hF.out]; rfl⟩, Below.row hbW.out (Nat.le_refl _) _⟩
        | true =>
          go_wp2_with (refine wpList_store_row rfl 163 _ _ rfl w.heap.size _ rfl rfl 163 _ hcc (by kernel_rfl) rfl (by simp [Value.oneCell']) ?_)
          refine bodyPost_ret (results_row_tmp rfl _ _ w.heap.size 163 _ (0,0) _ rfl (setRow_heap _ _ _ _ _ _ hcc) Tryz.underlying163 rfl (by kernel_rfl)) rfl ?_
          exact ⟨⟨_, _, by rw [hF.out]; rfl⟩, Below.row hbW.out (Nat.le_refl _) _⟩
       ·have hgt' : ¬ (9223372036854775807 : Int) < u := by omega
        cases b with
        | false =>
          go_wp2_with (refine wpList_store_row rfl 163 _ _ rfl w.heap.size _ rfl rfl 163 _ hcc (by kernel_rfl) rfl (by simp [Value.oneCell']) ?_)
          refine bodyPost_ret (results_row_tmp rfl _ _ w.heap.size 163 _ (0,0) _ rfl (setRow_heap _ _ _ _ _ _ hcc) Tryz.underlying163 rfl (by kernel_rfl)) rfl ?_
          exact ⟨⟨_, _, by rw [hF.out]; rfl⟩, Below.row hbW.out (Nat.le_refl _) _⟩
        | true =>
          go_wp2_with (refine wpList_store_row rfl 163 _ _ rfl w.heap.size _ rfl rfl 163 _ hcc (by kernel_rfl) rfl (by simp [Value.oneCell']) ?_)
          refine bodyPost_ret (results_row_tmp rfl _ _ w.heap.size 163 _ (0,0) _ rfl (setRow_heap _ _ _ _ _ _ hcc) Tryz.underlying163 rfl (by kernel_rfl)) rfl ?_
          exact ⟨⟨_, _, by rw [hF.out]; rfl⟩, Below.row hbW.out (Nat.le_refl _) _⟩
end Go.Proofs.YtllbbacnakoomaaGreatDoor
namespace Go.Proofs.YtllbbacnakoomaaGreatDoor
open Go.RowKit
set_option linter.unusedVariables false
def exJ (s : List UInt8) (i : Nat) : Nat := if i < s.length ∧ (chAt s i = 43 ∨ chAt s i = 45) then i + 1 else i
theorem expo_I (s : List UInt8) (i : Nat) : expoL s i = if 0 < digL 10 (s.drop (exJ s i)) then some (exJ s i + digL 10 (s.drop (exJ s i))) else none := rfl
theorem rexponent_any (s : ByteArray) (hs : s.size ≤ 1000000) (i : Nat) (hi : i ≤ 1000005) (w : World) :
 Calls Tryz.prog 152 #[.string s, .int .i64 i] w fun e w' => e = .returned (.tuple #[.int .i64 ((exJ s.data.toList i + digL 10 (s.data.toList.drop (exJ s.data.toList i)) : Nat) : Int), .bool (decide (0 < digL 10 (s.data.toList.drop (exJ s.data.toList i))))]) ∧ w' = w := by
 obtain ⟨j, hj⟩ : ∃ j, j = exJ s.data.toList i := ⟨_, rfl⟩
 rw [← hj]
 have hj6 : j ≤ 1000006 := by rw [hj]; unfold exJ; split <;> omega
 have HD := Hd (rdigits_any s hs j 10 (by omega) (by omega) w)
 obtain ⟨n, hn⟩ : ∃ n, n = digL 10 (s.data.toList.drop j) := ⟨_, rfl⟩
 have hnl : n ≤ 1000000 := by
  have := digL_le 10 (s.data.toList.drop j)
  rw [← hn, List.length_drop, sz_list] at this
  omega
 rw [← hn] at HD ⊢
 clear hn
 obtain ⟨m, hm⟩ : ∃ m, m = j + n := ⟨_, rfl⟩
 obtain ⟨b, hb⟩ : ∃ b, b = decide (0 < n) := ⟨_, rfl⟩
 rw [← hm, ← hb]
 have hpos : Hid ((n = 0 ∧ b = false ∧ m = j) ∨ (0 < n ∧ b = true)) := Hd (by
  rcases Nat.eq_zero_or_pos n with h | h
  ·left; subst h; exact ⟨rfl, hb, hm⟩
  ·right; exact ⟨h, by rw [hb]; exact decide_eq_true h⟩)
 have g1 : Hid (IntKind.i64.wrap ((j : Int) + n) = (m : Int)) := Hd (by rw [IntWalk.i64_in _ (by omega)]; omega)
 have gj : IntKind.i64.wrap (j : Int) = (j : Int) := IntWalk.i64_in _ (by omega)
 clear hm hb
 unfold exJ at hj
 rw [sz_list] at hj
 go_enter Tryz.func152, Tryz.ntmps152
 by_cases hin : i < s.size
 ·have hin' : (i : Int) < s.size := by omega
  obtain ⟨c, hc⟩ : ∃ c, c = chAt s.data.toList i := ⟨_, rfl⟩
  have hci : (s[i]'(by omega)) = c := by rw [hc]; exact byte_chAt _
  rw [← hc] at hj
  clear hc
  by_cases c43 : c = 43
  ·subst c43
   have l43 : ((UInt8.toNat 43 : Nat) : Int) = 43 := rfl
   obtain rfl : j = i + 1 := by rw [hj, if_pos ⟨hin, .inl rfl⟩]
   clear hj
   have e1 : ((i + 1 : Nat) : Int) = (i : Int) + 1 := by omega
   have g2 : IntKind.i64.wrap ((i : Int) + 1) = (i : Int) + 1 := IntWalk.i64_in _ (by omega)
   rw [e1] at HD g1 gj
   go_wp2_with fail
   refine HD.out.mono ?_
   rintro e w1 ⟨rfl, rfl⟩
   rcases hpos.out with ⟨rfl, rfl, rfl⟩ | ⟨hp, rfl⟩
   ·go_wp2
    go_ret2
    exact ⟨rfl, rfl⟩
   ·have hp' : (0 : Int) < n := by omega
    have g3 := g1.out
    go_wp2
    go_ret2
    exact ⟨rfl, rfl⟩
  ·skip
   obtain ⟨ca43, cb43⟩ := u8_int (n := 43) (by decide) c43
   replace ca43 : ¬ (c.toNat : Int) = 43 := ca43
   replace cb43 : ((c.toNat : Int) == 43) = false := cb43
   by_cases c45 : c = 45
   ·subst c45
    have l45 : ((UInt8.toNat 45 : Nat) : Int) = 45 := rfl
    obtain rfl : j = i + 1 := by rw [hj, if_pos ⟨hin, .inr rfl⟩]
    clear hj
    have e1 : ((i + 1 : Nat) : Int) = (i : Int) + 1 := by omega
    have g2 : IntKind.i64.wrap ((i : Int) + 1) = (i : Int) + 1 := IntWalk.i64_in _ (by omega)
    rw [e1] at HD g1 gj
    go_wp2_with fail
    refine HD.out.mono ?_
    rintro e w1 ⟨rfl, rfl⟩
    rcases hpos.out with ⟨rfl, rfl, rfl⟩ | ⟨hp, rfl⟩
    ·go_wp2
     go_ret2
     exact ⟨rfl, rfl⟩
    ·have hp' : (0 : Int) < n := by omega
     have g3 := g1.out
     go_wp2
     go_ret2
     exact ⟨rfl, rfl⟩
   ·skip
    obtain ⟨ca45, cb45⟩ := u8_int (n := 45) (by decide) c45
    replace ca45 : ¬ (c.toNat : Int) = 45 := ca45
    replace cb45 : ((c.toNat : Int) == 45) = false := cb45
    obtain rfl : j = i := by rw [hj, if_neg (by rintro ⟨_, h⟩; rcases h with h | h; exact c43 h; exact c45 h)]
    clear c43 c45 hj
    go_wp2_with fail
    refine HD.out.mono ?_
    rintro e w1 ⟨rfl, rfl⟩
    rcases hpos.out with ⟨rfl, rfl, rfl⟩ | ⟨hp, rfl⟩
    ·go_wp2
     go_ret2
     exact ⟨rfl, rfl⟩
    ·have hp' : (0 : Int) < n := by omega
     have g3 := g1.out
     go_wp2
     go_ret2
     exact ⟨rfl, rfl⟩
 ·have hin' : ¬ (i : Int) < s.size := by omega
  obtain rfl : j = i := by rw [hj, if_neg (fun h => hin h.1)]
  clear hj
  go_wp2_with fail
  refine HD.out.mono ?_
  rintro e w1 ⟨rfl, rfl⟩
  rcases hpos.out with ⟨rfl, rfl, rfl⟩ | ⟨hp, rfl⟩
  ·go_wp2
   go_ret2
   exact ⟨rfl, rfl⟩
  ·have hp' : (0 : Int) < n := by omega
   have g3 := g1.out
   go_wp2
   go_ret2
   exact ⟨rfl, rfl⟩
end Go.Proofs.YtllbbacnakoomaaGreatDoor
namespace Go.Proofs.YtllbbacnakoomaaGreatDoor
open Go.RowKit
set_option linter.unusedVariables false
def fEnd (s : List UInt8) (i : Nat) : Bool := decide (i = s.length) || decide (i + 1 = s.length) && (decide (chAt s i = 102) || decide (chAt s i = 70) || decide (chAt s i = 108) || decide (chAt s i = 76))
def fHas (s : List UInt8) (b i : Nat) : Bool := decide (i < s.length) && (decide (b = 10) && (decide (chAt s i = 101) || decide (chAt s i = 69)) || decide (b = 16) && (decide (chAt s i = 112) || decide (chAt s i = 80)))
def floatT (s : List UInt8) (b : Nat) (dot : Bool) (i n : Nat) : Bool :=
 if n = 0 then false
 else if fHas s b i then match expoL s (i + 1) with | none => false | some j => fEnd s j
 else if b = 16 ∨ dot = false then false else fEnd s i
def fBase (s : List UInt8) : Nat × Nat := if 1 < s.length ∧ chAt s 0 = 48 ∧ (chAt s 1 = 120 ∨ chAt s 1 = 88) then (16,2) else (10,0)
def fDot (s : List UInt8) (i : Nat) : Bool := decide (i < s.length) && decide (chAt s i = 46)
def fMore (s : List UInt8) (b i : Nat) : Nat := if fDot s i then digL b (s.drop (i + 1)) else 0
theorem float_T (s : List UInt8) {b a n : Nat} (hb : fBase s = (b, a)) (hn : n = digL b (s.drop a)) : floatB s = floatT s b (fDot s (a + n)) (if fDot s (a + n) then a + n + 1 + fMore s b (a + n) else a + n) (n + fMore s b (a + n)) := by
 subst hn
 have h1 : (fBase s).1 = b := by rw [hb]
 have h2 : (fBase s).2 = a := by rw [hb]
 subst h1 h2
 rfl
theorem rFloat_any (s : ByteArray) (hs : s.size ≤ 1000000) (w : World) :
 Calls Tryz.prog 93 #[.string s] w fun e w' => e = .returned (.bool (floatB s.data.toList)) ∧ w' = w := by
 obtain ⟨B, A, hBA⟩ : ∃ B A, fBase s.data.toList = (B, A) := ⟨_, _, rfl⟩
 obtain ⟨n, hn⟩ : ∃ n, n = digL B (s.data.toList.drop A) := ⟨_, rfl⟩
 have hF := float_T s.data.toList hBA hn
 obtain ⟨fb, hfb⟩ : ∃ fb, fb = floatB s.data.toList := ⟨_, rfl⟩
 rw [← hfb] at hF ⊢
 clear hfb
 obtain ⟨b1, hb1⟩ : ∃ b1, b1 = decide (1 < s.size ∧ chAt s.data.toList 0 = 48 ∧ (chAt s.data.toList 1 = 120 ∨ chAt s.data.toList 1 = 88)) := ⟨_, rfl⟩
 have hAB : Hid (A = (if b1 = true then 2 else 0) ∧ B = (if b1 = true then 16 else 10)) := Hd (by
  unfold fBase at hBA
  rw [sz_list] at hBA
  rw [hb1]
  by_cases h : 1 < s.size ∧ chAt s.data.toList 0 = 48 ∧ (chAt s.data.toList 1 = 120 ∨ chAt s.data.toList 1 = 88)
  ·rw [if_pos h] at hBA; obtain ⟨rfl, rfl⟩ := Prod.mk.inj hBA; simp [h]
  ·rw [if_neg h] at hBA; obtain ⟨rfl, rfl⟩ := Prod.mk.inj hBA; simp [h])
 have hAs : A ≤ s.size ∧ A ≤ 2 ∧ (B = 10 ∨ B = 16) := by
  obtain ⟨h1, h2⟩ := hAB.out
  cases b1 with
  | true => have := (of_decide_eq_true hb1.symm).1; simp at h1 h2; omega
  | false => simp at h1 h2; omega
 clear hBA
 replace hF := Hd hF
 replace hb1 := Hd hb1
 go_enter Tryz.func93, Tryz.ntmps93
 go_upto_region 2 with fail
 go_cut [29] from 12 to 29 (fun v29 wx => v29 = .bool b1 ∧ wx = w)
 case first =>
  clear hF hAB hAs hn
  by_cases hz : 1 < s.size
  ·have hz' : (1 : Int) < s.size := by omega
   obtain ⟨c, hc⟩ : ∃ c, c = chAt s.data.toList 0 := ⟨_, rfl⟩
   have hci : (s[0]'(by omega)) = c := by rw [hc]; exact byte_chAt _
   obtain ⟨d, hd⟩ : ∃ d, d = chAt s.data.toList 1 := ⟨_, rfl⟩
   have hdi : (s[1]'(by omega)) = d := by rw [hd]; exact byte_chAt _
   rw [← hc, ← hd] at hb1
   clear hc hd
   by_cases c48 : c = 48
   ·subst c48
    have l48 : ((UInt8.toNat 48 : Nat) : Int) = 48 := rfl
    by_cases d120 : d = 120
    ·subst d120
     have l120 : ((UInt8.toNat 120 : Nat) : Int) = 120 := rfl
     obtain rfl : b1 = true := by rw [hb1.out]; exact decide_eq_true ⟨hz, rfl, .inl rfl⟩
     clear hb1
     go_wp2_with fail
     go_meet
     exact ⟨rfl, rfl⟩
    ·skip
     obtain ⟨da120, db120⟩ := u8_int (n := 120) (by decide) d120
     replace da120 : ¬ (d.toNat : Int) = 120 := da120
     replace db120 : ((d.toNat : Int) == 120) = false := db120
     by_cases d88 : d = 88
     ·subst d88
      have l88 : ((UInt8.toNat 88 : Nat) : Int) = 88 := rfl
      obtain rfl : b1 = true := by rw [hb1.out]; exact decide_eq_true ⟨hz, rfl, .inr rfl⟩
      clear hb1
      go_wp2_with fail
      go_meet
      exact ⟨rfl, rfl⟩
     ·skip
      obtain ⟨da88, db88⟩ := u8_int (n := 88) (by decide) d88
      replace da88 : ¬ (d.toNat : Int) = 88 := da88
      replace db88 : ((d.toNat : Int) == 88) = false := db88
      obtain rfl : b1 = false := by rw [hb1.out]; exact decide_eq_false (by rintro ⟨_, _, h⟩; rcases h with h | h; exact d120 h; exact d88 h)
      clear d120 d88
      clear hb1
      go_wp2_with fail
      go_meet
      exact ⟨rfl, rfl⟩
   ·skip
    obtain ⟨ca48, cb48⟩ := u8_int (n := 48) (by decide) c48
    replace ca48 : ¬ (c.toNat : Int) = 48 := ca48
    replace cb48 : ((c.toNat : Int) == 48) = false := cb48
    obtain rfl : b1 = false := by rw [hb1.out]; exact decide_eq_false (fun h => c48 h.2.1)
    clear c48
    clear hb1
    go_wp2_with fail
    go_meet
    exact ⟨rfl, rfl⟩
  ·have hz' : ¬ (1 : Int) < s.size := by omega
   obtain rfl : b1 = false := by rw [hb1.out]; exact decide_eq_false (fun h => hz h.1)
   clear hb1
   go_wp2_with fail
   go_meet
   exact ⟨rfl, rfl⟩
 case rest =>
 obtain ⟨rfl, rfl⟩ := hcut
 go_upto_if 29 with fail
 go_cut [3,4] from 29 to 29 (fun v3 v4 wx => v3 = .int .i64 B ∧ v4 = .int .i64 A ∧ wx = wc)
 case first =>
  clear hF hb1 hAs hn
  obtain ⟨h1, h2⟩ := hAB.out
  clear hAB
  cases b1 with
  | true =>
    simp at h1 h2
    subst h1 h2
    go_wp2_with fail
    go_meet
    exact ⟨rfl, rfl, rfl⟩
  | false =>
    simp at h1 h2
    subst h1 h2
    go_wp2_with fail
    go_meet
    exact ⟨rfl, rfl, rfl⟩
 case rest =>
 obtain ⟨rfl, rfl, rfl⟩ := hcut
 clear hAB hb1
 have HD := Hd (rdigits_any s hs A B (by omega) (by omega) wc)
 rw [← hn] at HD
 have hnl : n + A ≤ s.size := by
  have := digL_le B (s.data.toList.drop A)
  rw [← hn, List.length_drop, sz_list] at this
  omega
 clear hn
 obtain ⟨I, hI⟩ : ∃ I, I = A + n := ⟨_, rfl⟩
 rw [← hI] at hF
 have hIs : I ≤ s.size := by omega
 have g1 : IntKind.i64.wrap ((A : Int) + n) = (I : Int) := by rw [IntWalk.i64_in _ (by omega)]; omega
 clear hI
 obtain ⟨dot, hdot⟩ : ∃ dot, dot = fDot s.data.toList I := ⟨_, rfl⟩
 obtain ⟨m, hm⟩ : ∃ m, m = fMore s.data.toList B I := ⟨_, rfl⟩
 rw [← hdot, ← hm] at hF
 unfold fMore at hm
 rw [← hdot] at hm
 unfold fDot at hdot
 rw [sz_list] at hdot
 replace hm := Hd hm
 go_wp2_with fail
 refine HD.out.mono ?_
 rintro e w1 ⟨rfl, rfl⟩
 clear HD
 go_upto_region 7 with fail
 go_cut [7] from 37 to 46 (fun v7 wx => v7 = .bool dot ∧ wx = w1)
 case first =>
  clear hF hm hAs hnl g1
  by_cases hz : I < s.size
  ·have hz' : (I : Int) < s.size := by omega
   obtain ⟨c, hc⟩ : ∃ c, c = chAt s.data.toList I := ⟨_, rfl⟩
   have hci : (s[I]'(by omega)) = c := by rw [hc]; exact byte_chAt _
   rw [← hc, decide_eq_true hz, Bool.true_and] at hdot
   clear hc
   by_cases c46 : c = 46
   ·subst c46
    have l46 : ((UInt8.toNat 46 : Nat) : Int) = 46 := rfl
    obtain rfl : dot = true := hdot
    go_wp2_with fail
    go_meet
    exact ⟨rfl, rfl⟩
   ·skip
    obtain ⟨ca46, cb46⟩ := u8_int (n := 46) (by decide) c46
    replace ca46 : ¬ (c.toNat : Int) = 46 := ca46
    replace cb46 : ((c.toNat : Int) == 46) = false := cb46
    obtain rfl : dot = false := by rw [hdot, decide_eq_false c46]
    clear c46 hdot
    go_wp2_with fail
    go_meet
    exact ⟨rfl, rfl⟩
  ·have hz' : ¬ (I : Int) < s.size := by omega
   obtain rfl : dot = false := by rw [hdot, decide_eq_false hz]; rfl
   clear hdot
   go_wp2_with fail
   go_meet
   exact ⟨rfl, rfl⟩
 case rest =>
 obtain ⟨rfl, rfl⟩ := hcut
 have hdot2 : Hid (dot = true → I < s.size) := Hd (fun h => by rw [h] at hdot; have := hdot.symm; simp at this; exact this.1)
 clear hdot
 obtain ⟨J, hJ⟩ : ∃ J, J = (if dot = true then I + 1 + m else I) := ⟨_, rfl⟩
 obtain ⟨N, hN⟩ : ∃ N, N = n + m := ⟨_, rfl⟩
 rw [← hJ, ← hN] at hF
 have hJs : J ≤ s.size := by
  rw [hJ]
  cases hd : dot with
  | false => simp; exact hIs
  | true =>
    have h1 := hdot2.out hd
    have h2 := hm.out
    rw [hd, if_pos rfl] at h2
    have h3 := digL_le B (s.data.toList.drop (I + 1))
    rw [← h2, List.length_drop, sz_list] at h3
    simp
    omega
 have hmN : m ≤ 1000000 := by
  have h2 := hm.out
  split at h2
  ·have h3 := digL_le B (s.data.toList.drop (I + 1))
   rw [← h2, List.length_drop, sz_list] at h3
   omega
  ·omega
 go_upto_if 47 with fail
 go_cut [5,6,8] from 48 to 59 (fun v5 v6 v8 wx => v5 = .int .i64 N ∧ v6 = .int .i64 J ∧ wx = wc)
 case first =>
  clear hF hdot2
  have hm2 := hm.out
  clear hm
  cases dot with
  | true =>
    rw [if_pos rfl] at hJ hm2
    have HD := Hd (rdigits_any s hs (I + 1) B (by omega) (by omega) wc)
    rw [← hm2, show ((I + 1 : Nat) : Int) = (I : Int) + 1 by omega] at HD
    have g2 : IntKind.i64.wrap ((I : Int) + 1) = (I : Int) + 1 := IntWalk.i64_in _ (by omega)
    have g3 : IntKind.i64.wrap ((n : Int) + m) = (N : Int) := by rw [IntWalk.i64_in _ (by omega)]; omega
    have g4 : IntKind.i64.wrap ((I : Int) + 1 + m) = (J : Int) := by rw [IntWalk.i64_in _ (by omega)]; omega
    clear hm2 hJ hN
    go_wp2_with fail
    refine HD.out.mono ?_
    rintro e w2 ⟨rfl, rfl⟩
    go_wp2_with fail
    go_meet
    exact ⟨rfl, rfl, rfl⟩
  | false =>
    rw [if_neg (by simp)] at hJ hm2
    subst hm2 hJ
    obtain rfl : N = n := hN
    go_wp2_with fail
    go_meet
    exact ⟨rfl, rfl, rfl⟩
 case rest =>
 obtain ⟨rfl, rfl, rfl⟩ := hcut
 clear hJ hN hm hdot2 hIs hnl g1 hmN
 by_cases hN0 : N = 0
 ·subst hN0
  obtain rfl : fb = false := hF.out.trans (rfl)
  clear hF
  go_wp2
  go_ret
  exact ⟨rfl, rfl⟩
 ·have hN0' : ¬ (N : Int) = 0 := by omega
  have hN0b : ((N : Int) == 0) = false := beq_false_of_ne hN0'
  have hF2 : Hid (fb = if fHas s.data.toList B J = true then (match expoL s.data.toList (J + 1) with | none => false | some j => fEnd s.data.toList j) else if B = 16 ∨ dot = false then false else fEnd s.data.toList J) := Hd (by
   have := hF.out
   unfold floatT at this
   rw [if_neg hN0] at this
   exact this)
  clear hF
  obtain ⟨has, hhas⟩ : ∃ has, has = fHas s.data.toList B J := ⟨_, rfl⟩
  rw [← hhas] at hF2
  have hhl : Hid (has = true → J < s.size) := Hd (fun h => by
   rw [h] at hhas
   unfold fHas at hhas
   rw [sz_list] at hhas
   have := hhas.symm
   simp at this
   exact this.1)
  go_upto_region 14 with fail
  go_cut [9] from 62 to 97 (fun v9 wx => v9 = .bool has ∧ wx = wc)
  case first =>
   clear hF2 hhl
   unfold fHas at hhas
   rw [sz_list] at hhas
   by_cases hz : J < s.size
   ·have hz' : (J : Int) < s.size := by omega
    obtain ⟨c, hc⟩ : ∃ c, c = chAt s.data.toList J := ⟨_, rfl⟩
    have hci : (s[J]'(by omega)) = c := by rw [hc]; exact byte_chAt _
    rw [← hc, decide_eq_true hz, Bool.true_and] at hhas
    clear hc
    rcases hAs.2.2 with rfl | rfl
    ·have hh : has = (decide (c = 101) || decide (c = 69)) := by rw [hhas]; simp
     clear hhas
     by_cases c101 : c = 101
     ·subst c101
      have l101 : ((UInt8.toNat 101 : Nat) : Int) = 101 := rfl
      obtain rfl : has = true := hh
      go_wp2_with fail
      go_meet
      exact ⟨rfl, rfl⟩
     ·skip
      obtain ⟨ca101, cb101⟩ := u8_int (n := 101) (by decide) c101
      replace ca101 : ¬ (c.toNat : Int) = 101 := ca101
      replace cb101 : ((c.toNat : Int) == 101) = false := cb101
      by_cases c69 : c = 69
      ·subst c69
       have l69 : ((UInt8.toNat 69 : Nat) : Int) = 69 := rfl
       obtain rfl : has = true := hh
       go_wp2_with fail
       go_meet
       exact ⟨rfl, rfl⟩
      ·skip
       obtain ⟨ca69, cb69⟩ := u8_int (n := 69) (by decide) c69
       replace ca69 : ¬ (c.toNat : Int) = 69 := ca69
       replace cb69 : ((c.toNat : Int) == 69) = false := cb69
       obtain rfl : has = false := by rw [hh, decide_eq_false c101, decide_eq_false c69]; rfl
       clear c101 c69 hh
       go_wp2_with fail
       go_meet
       exact ⟨rfl, rfl⟩
    ·have hh : has = (decide (c = 112) || decide (c = 80)) := by rw [hhas]; simp
     clear hhas
     by_cases c112 : c = 112
     ·subst c112
      have l112 : ((UInt8.toNat 112 : Nat) : Int) = 112 := rfl
      obtain rfl : has = true := hh
      go_wp2_with fail
      go_meet
      exact ⟨rfl, rfl⟩
     ·skip
      obtain ⟨ca112, cb112⟩ := u8_int (n := 112) (by decide) c112
      replace ca112 : ¬ (c.toNat : Int) = 112 := ca112
      replace cb112 : ((c.toNat : Int) == 112) = false := cb112
      by_cases c80 : c = 80
      ·subst c80
       have l80 : ((UInt8.toNat 80 : Nat) : Int) = 80 := rfl
       obtain rfl : has = true := hh
       go_wp2_with fail
       go_meet
       exact ⟨rfl, rfl⟩
      ·skip
       obtain ⟨ca80, cb80⟩ := u8_int (n := 80) (by decide) c80
       replace ca80 : ¬ (c.toNat : Int) = 80 := ca80
       replace cb80 : ((c.toNat : Int) == 80) = false := cb80
       obtain rfl : has = false := by rw [hh, decide_eq_false c112, decide_eq_false c80]; rfl
       clear c112 c80 hh
       go_wp2_with fail
       go_meet
       exact ⟨rfl, rfl⟩
   ·have hz' : ¬ (J : Int) < s.size := by omega
    obtain rfl : has = false := by rw [hhas, decide_eq_false hz]; rfl
    clear hhas
    go_wp2_with fail
    go_meet
    exact ⟨rfl, rfl⟩
  case rest =>
  obtain ⟨rfl, rfl⟩ := hcut
  clear hhas
  cases has with
  | true =>
    have hJl := hhl.out rfl
    clear hhl
    have g5 : IntKind.i64.wrap ((J : Int) + 1) = (J : Int) + 1 := IntWalk.i64_in _ (by omega)
    have HE := Hd (rexponent_any s hs (J + 1) (by omega) wc)
    have hF3 : Hid (fb = (match expoL s.data.toList (J + 1) with | none => false | some j => fEnd s.data.toList j)) := Hd (by have := hF2.out; simpa using this)
    clear hF2
    rw [expo_I] at hF3
    have hex : exJ s.data.toList (J + 1) ≤ 1000002 := by unfold exJ; split <;> omega
    have hdg := digL_le 10 (s.data.toList.drop (exJ s.data.toList (J + 1)))
    rw [List.length_drop, sz_list] at hdg
    obtain ⟨x, hx⟩ : ∃ x, x = digL 10 (s.data.toList.drop (exJ s.data.toList (J + 1))) := ⟨_, rfl⟩
    obtain ⟨j, hj⟩ : ∃ j, j = exJ s.data.toList (J + 1) + x := ⟨_, rfl⟩
    rw [← hx] at HE hF3 hdg
    rw [← hj] at HE hF3
    rw [show ((J + 1 : Nat) : Int) = (J : Int) + 1 by omega] at HE
    have hj6 : j ≤ 2000002 := by omega
    clear hx hj hdg hex
    obtain ⟨bx, hbx⟩ : ∃ bx, bx = decide (0 < x) := ⟨_, rfl⟩
    rw [← hbx] at HE
    have hF4 : Hid ((bx = false ∧ fb = false) ∨ (bx = true ∧ fb = fEnd s.data.toList j)) := Hd (by
     have := hF3.out
     by_cases h : 0 < x
     ·right; rw [if_pos h] at this; exact ⟨by rw [hbx]; exact decide_eq_true h, this⟩
     ·left; rw [if_neg h] at this; exact ⟨by rw [hbx]; exact decide_eq_false h, this⟩)
    clear hF3 hbx
    go_wp2_with fail
    refine HE.out.mono ?_
    rintro e w2 ⟨rfl, rfl⟩
    rcases hF4.out with ⟨rfl, h⟩ | ⟨rfl, h⟩
    ·have hF := Hd h
     clear hF4 h
     obtain rfl : fb = false := hF.out.trans (rfl)
     clear hF
     go_wp2
     go_ret
     exact ⟨rfl, rfl⟩
    ·have hF := Hd h
     clear hF4 h HE
     by_cases e0 : j = s.size
     ·have e0' : (j : Int) = s.size := by omega
      have e0b : ((j : Int) == (s.size : Int)) = true := by rw [e0']; simp
      obtain rfl : fb = true := hF.out.trans (by unfold fEnd; rw [sz_list, decide_eq_true e0, Bool.true_or])
      clear hF
      go_wp2
      go_ret
      exact ⟨rfl, rfl⟩
     ·have e0' : ¬ (j : Int) = s.size := by omega
      have e0b : ((j : Int) == (s.size : Int)) = false := beq_false_of_ne e0'
      have gi1 : IntKind.i64.wrap ((j : Int) + 1) = (j : Int) + 1 := IntWalk.i64_in _ (by omega)
      by_cases e1 : j + 1 = s.size
      ·have e1' : (j : Int) + 1 = s.size := by omega
       have e1b : ((j : Int) + 1 == (s.size : Int)) = true := by rw [e1']; simp
       have hlt : j < s.size := by omega
       obtain ⟨c, hc⟩ : ∃ c, c = chAt s.data.toList j := ⟨_, rfl⟩
       have hci : (s[j]'(by omega)) = c := by rw [hc]; exact byte_chAt _
       have hFE : Hid (fEnd s.data.toList j = (decide (c = 102) || decide (c = 70) || decide (c = 108) || decide (c = 76))) := Hd (by
        unfold fEnd; rw [sz_list, decide_eq_false e0, decide_eq_true e1, Bool.false_or, Bool.true_and, ← hc])
       clear hc
       by_cases c102 : c = 102
       ·subst c102
        have l102 : ((UInt8.toNat 102 : Nat) : Int) = 102 := rfl
        obtain rfl : fb = true := hF.out.trans (hFE.out.trans (by decide))
        clear hF
        go_wp2
        go_ret
        exact ⟨rfl, rfl⟩
       ·skip
        obtain ⟨ca102, cb102⟩ := u8_int (n := 102) (by decide) c102
        replace ca102 : ¬ (c.toNat : Int) = 102 := ca102
        replace cb102 : ((c.toNat : Int) == 102) = false := cb102
        by_cases c70 : c = 70
        ·subst c70
         have l70 : ((UInt8.toNat 70 : Nat) : Int) = 70 := rfl
         obtain rfl : fb = true := hF.out.trans (hFE.out.trans (by decide))
         clear hF
         go_wp2
         go_ret
         exact ⟨rfl, rfl⟩
        ·skip
         obtain ⟨ca70, cb70⟩ := u8_int (n := 70) (by decide) c70
         replace ca70 : ¬ (c.toNat : Int) = 70 := ca70
         replace cb70 : ((c.toNat : Int) == 70) = false := cb70
         by_cases c108 : c = 108
         ·subst c108
          have l108 : ((UInt8.toNat 108 : Nat) : Int) = 108 := rfl
          obtain rfl : fb = true := hF.out.trans (hFE.out.trans (by decide))
          clear hF
          go_wp2
          go_ret
          exact ⟨rfl, rfl⟩
         ·skip
          obtain ⟨ca108, cb108⟩ := u8_int (n := 108) (by decide) c108
          replace ca108 : ¬ (c.toNat : Int) = 108 := ca108
          replace cb108 : ((c.toNat : Int) == 108) = false := cb108
          by_cases c76 : c = 76
          ·subst c76
           have l76 : ((UInt8.toNat 76 : Nat) : Int) = 76 := rfl
           obtain rfl : fb = true := hF.out.trans (hFE.out.trans (by decide))
           clear hF
           go_wp2
           go_ret
           exact ⟨rfl, rfl⟩
          ·skip
           obtain ⟨ca76, cb76⟩ := u8_int (n := 76) (by decide) c76
           replace ca76 : ¬ (c.toNat : Int) = 76 := ca76
           replace cb76 : ((c.toNat : Int) == 76) = false := cb76
           have hz : (decide (c = 102) || decide (c = 70) || decide (c = 108) || decide (c = 76)) = false := by rw [decide_eq_false c102, decide_eq_false c70, decide_eq_false c108, decide_eq_false c76]; rfl
           replace hz := Hd hz
           clear c102 c70 c108 c76
           obtain rfl : fb = false := hF.out.trans (hFE.out.trans hz.out)
           clear hF
           go_wp2
           go_ret
           exact ⟨rfl, rfl⟩
      ·have e1' : ¬ (j : Int) + 1 = s.size := by omega
       have e1b : ((j : Int) + 1 == (s.size : Int)) = false := beq_false_of_ne e1'
       obtain rfl : fb = false := hF.out.trans (by unfold fEnd; rw [sz_list, decide_eq_false e0, decide_eq_false e1]; rfl)
       clear hF
       go_wp2
       go_ret
       exact ⟨rfl, rfl⟩
  | false =>
    have hF3 : Hid (fb = if B = 16 ∨ dot = false then false else fEnd s.data.toList J) := Hd (by have := hF2.out; simpa using this)
    clear hF2 hhl
    rcases hAs.2.2 with rfl | rfl
    ·cases dot with
     | true =>
       have hF : Hid (fb = fEnd s.data.toList J) := Hd (by have := hF3.out; simpa using this)
       clear hF3
       by_cases e0 : J = s.size
       ·have e0' : (J : Int) = s.size := by omega
        have e0b : ((J : Int) == (s.size : Int)) = true := by rw [e0']; simp
        obtain rfl : fb = true := hF.out.trans (by unfold fEnd; rw [sz_list, decide_eq_true e0, Bool.true_or])
        clear hF
        go_wp2
        go_ret
        exact ⟨rfl, rfl⟩
       ·have e0' : ¬ (J : Int) = s.size := by omega
        have e0b : ((J : Int) == (s.size : Int)) = false := beq_false_of_ne e0'
        have gi1 : IntKind.i64.wrap ((J : Int) + 1) = (J : Int) + 1 := IntWalk.i64_in _ (by omega)
        by_cases e1 : J + 1 = s.size
        ·have e1' : (J : Int) + 1 = s.size := by omega
         have e1b : ((J : Int) + 1 == (s.size : Int)) = true := by rw [e1']; simp
         have hlt : J < s.size := by omega
         obtain ⟨c, hc⟩ : ∃ c, c = chAt s.data.toList J := ⟨_, rfl⟩
         have hci : (s[J]'(by omega)) = c := by rw [hc]; exact byte_chAt _
         have hFE : Hid (fEnd s.data.toList J = (decide (c = 102) || decide (c = 70) || decide (c = 108) || decide (c = 76))) := Hd (by
          unfold fEnd; rw [sz_list, decide_eq_false e0, decide_eq_true e1, Bool.false_or, Bool.true_and, ← hc])
         clear hc
         by_cases c102 : c = 102
         ·subst c102
          have l102 : ((UInt8.toNat 102 : Nat) : Int) = 102 := rfl
          obtain rfl : fb = true := hF.out.trans (hFE.out.trans (by decide))
          clear hF
          go_wp2
          go_ret
          exact ⟨rfl, rfl⟩
         ·skip
          obtain ⟨ca102, cb102⟩ := u8_int (n := 102) (by decide) c102
          replace ca102 : ¬ (c.toNat : Int) = 102 := ca102
          replace cb102 : ((c.toNat : Int) == 102) = false := cb102
          by_cases c70 : c = 70
          ·subst c70
           have l70 : ((UInt8.toNat 70 : Nat) : Int) = 70 := rfl
           obtain rfl : fb = true := hF.out.trans (hFE.out.trans (by decide))
           clear hF
           go_wp2
           go_ret
           exact ⟨rfl, rfl⟩
          ·skip
           obtain ⟨ca70, cb70⟩ := u8_int (n := 70) (by decide) c70
           replace ca70 : ¬ (c.toNat : Int) = 70 := ca70
           replace cb70 : ((c.toNat : Int) == 70) = false := cb70
           by_cases c108 : c = 108
           ·subst c108
            have l108 : ((UInt8.toNat 108 : Nat) : Int) = 108 := rfl
            obtain rfl : fb = true := hF.out.trans (hFE.out.trans (by decide))
            clear hF
            go_wp2
            go_ret
            exact ⟨rfl, rfl⟩
           ·skip
            obtain ⟨ca108, cb108⟩ := u8_int (n := 108) (by decide) c108
            replace ca108 : ¬ (c.toNat : Int) = 108 := ca108
            replace cb108 : ((c.toNat : Int) == 108) = false := cb108
            by_cases c76 : c = 76
            ·subst c76
             have l76 : ((UInt8.toNat 76 : Nat) : Int) = 76 := rfl
             obtain rfl : fb = true := hF.out.trans (hFE.out.trans (by decide))
             clear hF
             go_wp2
             go_ret
             exact ⟨rfl, rfl⟩
            ·skip
             obtain ⟨ca76, cb76⟩ := u8_int (n := 76) (by decide) c76
             replace ca76 : ¬ (c.toNat : Int) = 76 := ca76
             replace cb76 : ((c.toNat : Int) == 76) = false := cb76
             have hz : (decide (c = 102) || decide (c = 70) || decide (c = 108) || decide (c = 76)) = false := by rw [decide_eq_false c102, decide_eq_false c70, decide_eq_false c108, decide_eq_false c76]; rfl
             replace hz := Hd hz
             clear c102 c70 c108 c76
             obtain rfl : fb = false := hF.out.trans (hFE.out.trans hz.out)
             clear hF
             go_wp2
             go_ret
             exact ⟨rfl, rfl⟩
        ·have e1' : ¬ (J : Int) + 1 = s.size := by omega
         have e1b : ((J : Int) + 1 == (s.size : Int)) = false := beq_false_of_ne e1'
         obtain rfl : fb = false := hF.out.trans (by unfold fEnd; rw [sz_list, decide_eq_false e0, decide_eq_false e1]; rfl)
         clear hF
         go_wp2
         go_ret
         exact ⟨rfl, rfl⟩
     | false =>
       have hF : Hid (fb = false) := Hd (by have := hF3.out; simpa using this)
       clear hF3
       obtain rfl : fb = false := hF.out.trans (rfl)
       clear hF
       go_wp2
       go_ret
       exact ⟨rfl, rfl⟩
    ·have hF : Hid (fb = false) := Hd (by have := hF3.out; simpa using this)
     clear hF3
     obtain rfl : fb = false := hF.out.trans (rfl)
     clear hF
     go_wp2
     go_ret
     exact ⟨rfl, rfl⟩
end Go.Proofs.YtllbbacnakoomaaGreatDoor
