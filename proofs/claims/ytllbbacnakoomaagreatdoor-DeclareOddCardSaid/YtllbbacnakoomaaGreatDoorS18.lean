/- Texts of this seat's proofs, laid into one file. -/
import Derived.Test.YtllbbacnakoomaaGreatDoorS17
set_option maxRecDepth 100000
set_option maxHeartbeats 16000000
namespace Go.Proofs.YtllbbacnakoomaaGreatDoor
open Go.RowKit
set_option linter.unusedVariables false
theorem eqb_nl {a : ByteArray} (l : List UInt8) (h : a ≠ ⟨l.toArray⟩) : (a.toList == l) = false := by
 apply beq_false_of_ne
 intro e
 rw [Lib.toList_data] at e
 exact h (by apply ByteArray.ext; simp [← e])
theorem char_eq {A : List UInt8} {n : Nat} {q : UInt8} {b : List UInt8} (h1 : lettersQ A = some (n, q)) (h2 : bytesV A = some b) : charB A = (decide (q = 39) && !(A.take n == [117,56]) && decide (1 ≤ b.length) && decide (b.length ≤ 8)) := by
 unfold charB; rw [h1, h2]
theorem rChar_any (s : ByteArray) (hs : s.size ≤ 1000000) (w : World) :
 Calls Tryz.prog 94 #[.string s] w fun e w' => IntPost (charB s.data.toList) e ∧ Below w.heap.size w w' := by
 obtain ⟨W, hW⟩ : ∃ W, W = w.alloc inZ := ⟨_, rfl⟩
 have hbW : Below w.heap.size w W := by rw [hW]; exact (Below.refl _ w).alloc (Nat.le_refl _) _
 have hgW : W.heap[w.heap.size]? = some inZ := by rw [hW]; exact heap_alloc_new w _
 have HF : Hid (∀ x, Below W.heap.size W x → Hid (Below w.heap.size w x) ∧ x.heap[w.heap.size]? = some inZ) := Hd fun x hx => ⟨Hd (hbW.trans (hx.mono hbW.size)), (hx.block _ (lt_of_block hgW)).trans hgW⟩
 clear hbW hgW
 obtain ⟨nb, hnb⟩ : ∃ nb, nb = charB s.data.toList := ⟨_, rfl⟩
 rw [← hnb]
 have HL := Hd (rLetters_any s hs W)
 have HB := Hd (fun x => rBytes_any s hs x)
 go_enter Tryz.func94, Tryz.ntmps94
 go_upto_region 1 with fail
 rw [← hW]
 replace hW := Hd hW
 cases hl : lettersQ s.data.toList with
 | none =>
   rw [hl] at HL
   replace HL : Hid (Calls Tryz.prog 153 #[.string s] W fun e w' => e = .returned (.tuple #[.string ⟨#[]⟩, .int .u8 0, .bool false]) ∧ Below W.heap.size W w') := HL
   have hbn : bytesV s.data.toList = none := by unfold bytesV; rw [hl]; rfl
   have hF : Hid (nb = false) := Hd (by rw [hnb]; unfold charB; rw [hl])
   rw [hbn] at HB
   replace HB : Hid (∀ x, Calls Tryz.prog 96 #[.string s] x fun e w' => e = .returned (.tuple #[.string ⟨#[]⟩, .bool false]) ∧ Below x.heap.size x w') := HB
   clear hl hbn hnb
   go_wp2_with fail
   refine HL.out.mono ?_
   rintro e w1 ⟨rfl, hb1⟩
   go_wp2_with fail
   refine (HB.out _).mono ?_
   rintro e w2 ⟨rfl, hb2⟩
   obtain ⟨hbW, hcc⟩ := HF.out _ (hb1.trans (hb2.mono hb1.size))
   clear HL HB HF hb1 hb2
   go_wp2_with (refine wpList_store_row rfl 163 _ _ rfl w.heap.size _ rfl rfl 163 _ hcc (by kernel_rfl) rfl (by simp [Value.oneCell']) ?_)
   refine bodyPost_ret (results_row_tmp rfl _ _ w.heap.size 163 _ (0,0) _ rfl (setRow_heap _ _ _ _ _ _ hcc) Tryz.underlying163 rfl (by kernel_rfl)) rfl ?_
   exact ⟨⟨_, _, by rw [hF.out]; rfl⟩, Below.row hbW.out (Nat.le_refl _) _⟩
 | some nq =>
   obtain ⟨n, q⟩ := nq
   rw [hl] at HL
   replace HL : Hid (Calls Tryz.prog 153 #[.string s] W fun e w' => e = .returned (.tuple #[.string (s.extract 0 n), .int .u8 q.toNat, .bool true]) ∧ Below W.heap.size W w') := HL
   obtain ⟨P, hP⟩ : ∃ P, P = s.extract 0 n := ⟨_, rfl⟩
   have hPl : P.data.toList = s.data.toList.take n := by
    have := ext_list s 0 n
    rw [Nat.zero_add, List.drop_zero] at this
    rw [hP, this]
   rw [← hP] at HL
   clear hP
   cases hb : bytesV s.data.toList with
   | none =>
     rw [hb] at HB
     replace HB : Hid (∀ x, Calls Tryz.prog 96 #[.string s] x fun e w' => e = .returned (.tuple #[.string ⟨#[]⟩, .bool false]) ∧ Below x.heap.size x w') := HB
     have hF : Hid (nb = false) := Hd (by rw [hnb]; unfold charB; rw [hl, hb])
     clear hl hb hnb hPl
     go_wp2_with fail
     refine HL.out.mono ?_
     rintro e w1 ⟨rfl, hb1⟩
     go_wp2_with fail
     refine (HB.out _).mono ?_
     rintro e w2 ⟨rfl, hb2⟩
     obtain ⟨hbW, hcc⟩ := HF.out _ (hb1.trans (hb2.mono hb1.size))
     clear HL HB HF hb1 hb2
     go_wp2_with (refine wpList_store_row rfl 163 _ _ rfl w.heap.size _ rfl rfl 163 _ hcc (by kernel_rfl) rfl (by simp [Value.oneCell']) ?_)
     refine bodyPost_ret (results_row_tmp rfl _ _ w.heap.size 163 _ (0,0) _ rfl (setRow_heap _ _ _ _ _ _ hcc) Tryz.underlying163 rfl (by kernel_rfl)) rfl ?_
     exact ⟨⟨_, _, by rw [hF.out]; rfl⟩, Below.row hbW.out (Nat.le_refl _) _⟩
   | some b =>
     rw [hb] at HB
     replace HB : Hid (∀ x, Calls Tryz.prog 96 #[.string s] x fun e w' => e = .returned (.tuple #[.string ⟨b.toArray⟩, .bool true]) ∧ Below x.heap.size x w') := HB
     rw [char_eq hl hb, ← hPl] at hnb
     obtain ⟨D, hD⟩ : ∃ D : ByteArray, D = ⟨b.toArray⟩ := ⟨_, rfl⟩
     have hDs : b.length = D.size := by rw [hD]; rfl
     rw [← hD] at HB
     rw [hDs] at hnb
     clear hl hb hPl hD hDs
     go_wp2_with fail
     refine HL.out.mono ?_
     rintro e w1 ⟨rfl, hb1⟩
     go_wp2_with fail
     refine (HB.out _).mono ?_
     rintro e w2 ⟨rfl, hb2⟩
     obtain ⟨hbW, hcc⟩ := HF.out _ (hb1.trans (hb2.mono hb1.size))
     clear HL HB HF hb1 hb2
     by_cases q39 : q = 39
     ·subst q39
      have l39 : ((UInt8.toNat 39 : Nat) : Int) = 39 := rfl
      rw [decide_eq_true rfl, Bool.true_and] at hnb
      by_cases hP8 : P = (⟨#[117,56]⟩ : ByteArray)
      ·subst hP8
       have hF : Hid (nb = false) := Hd (by rw [hnb]; rfl)
       clear hnb
       go_wp2_with (refine wpList_store_row rfl 163 _ _ rfl w.heap.size _ rfl rfl 163 _ hcc (by kernel_rfl) rfl (by simp [Value.oneCell']) ?_)
       refine bodyPost_ret (results_row_tmp rfl _ _ w.heap.size 163 _ (0,0) _ rfl (setRow_heap _ _ _ _ _ _ hcc) Tryz.underlying163 rfl (by kernel_rfl)) rfl ?_
       exact ⟨⟨_, _, by rw [hF.out]; rfl⟩, Below.row hbW.out (Nat.le_refl _) _⟩
      ·have hP8b := eqb_nl ([117,56] : List UInt8) hP8
       have hnb2 : nb = (decide (1 ≤ D.size) && decide (D.size ≤ 8)) := by
        rw [hnb]
        have : (P.data.toList == [117,56]) = false := by rw [← Lib.toList_data]; exact hP8b
        rw [this]; rfl
       clear hnb
       replace hP8 := Hd hP8
       by_cases h1 : D.size < 1
       ·have h1' : (D.size : Int) < 1 := by omega
        have hF : Hid (nb = false) := Hd (by rw [hnb2, decide_eq_false (by omega : ¬ 1 ≤ D.size)]; rfl)
        clear hnb2
        go_wp2_with (refine wpList_store_row rfl 163 _ _ rfl w.heap.size _ rfl rfl 163 _ hcc (by kernel_rfl) rfl (by simp [Value.oneCell']) ?_)
        refine bodyPost_ret (results_row_tmp rfl _ _ w.heap.size 163 _ (0,0) _ rfl (setRow_heap _ _ _ _ _ _ hcc) Tryz.underlying163 rfl (by kernel_rfl)) rfl ?_
        exact ⟨⟨_, _, by rw [hF.out]; rfl⟩, Below.row hbW.out (Nat.le_refl _) _⟩
       ·have h1' : ¬ (D.size : Int) < 1 := by omega
        by_cases h8 : 8 < D.size
        ·have h8' : (8 : Int) < D.size := by omega
         have hF : Hid (nb = false) := Hd (by rw [hnb2, decide_eq_false (by omega : ¬ D.size ≤ 8)]; simp)
         clear hnb2
         go_wp2_with (refine wpList_store_row rfl 163 _ _ rfl w.heap.size _ rfl rfl 163 _ hcc (by kernel_rfl) rfl (by simp [Value.oneCell']) ?_)
         refine bodyPost_ret (results_row_tmp rfl _ _ w.heap.size 163 _ (0,0) _ rfl (setRow_heap _ _ _ _ _ _ hcc) Tryz.underlying163 rfl (by kernel_rfl)) rfl ?_
         exact ⟨⟨_, _, by rw [hF.out]; rfl⟩, Below.row hbW.out (Nat.le_refl _) _⟩
        ·have h8' : ¬ (8 : Int) < D.size := by omega
         have hF : Hid (nb = true) := Hd (by rw [hnb2, decide_eq_true (by omega : 1 ≤ D.size), decide_eq_true (by omega : D.size ≤ 8)]; rfl)
         clear hnb2
         have hd1 : decide ((D.size : Int) < 1) = false := decide_eq_false (by omega)
         have hd8 : decide ((8 : Int) < D.size) = false := decide_eq_false (by omega)
         by_cases hone : D.size = 1
         ·have hone' : (D.size : Int) = 1 := by omega
          have honeb : ((D.size : Int) == 1) = true := by rw [hone']; rfl
          have hpos : (0 : Int) < D.size := by omega
          have hpos2 : 0 < D.size := by omega
          obtain ⟨c, hc⟩ : ∃ c, (D[0]'hpos2) = c := ⟨_, rfl⟩
          have hc256 := c.toNat_lt
          have g1 : IntKind.i64.wrap (c.toNat : Int) = c.toNat := IntWalk.i64_in _ (by omega)
          by_cases h127 : 127 < c.toNat
          ·have h127' : (127 : Int) < c.toNat := by omega
           have g2 : IntKind.i64.wrap ((c.toNat : Int) - 256) = (c.toNat : Int) - 256 := IntWalk.i64_in _ (by omega)
           clear hone hone'
           by_cases hu : P = (⟨#[117]⟩ : ByteArray)
           ·subst hu
            go_wp2_with (refine wpList_store_row rfl 163 _ _ rfl w.heap.size _ rfl rfl 163 _ hcc (by kernel_rfl) rfl (by simp [Value.oneCell']) ?_)
            refine bodyPost_ret (results_row_tmp rfl _ _ w.heap.size 163 _ (0,0) _ rfl (setRow_heap _ _ _ _ _ _ hcc) Tryz.underlying163 rfl (by kernel_rfl)) rfl ?_
            exact ⟨⟨_, _, by rw [hF.out]; rfl⟩, Below.row hbW.out (Nat.le_refl _) _⟩
           ·have hub := eqb_nl ([117] : List UInt8) hu
            replace hu := Hd hu
            by_cases hU : P = (⟨#[85]⟩ : ByteArray)
            ·subst hU
             go_wp2_with (refine wpList_store_row rfl 163 _ _ rfl w.heap.size _ rfl rfl 163 _ hcc (by kernel_rfl) rfl (by simp [Value.oneCell']) ?_)
             refine bodyPost_ret (results_row_tmp rfl _ _ w.heap.size 163 _ (0,0) _ rfl (setRow_heap _ _ _ _ _ _ hcc) Tryz.underlying163 rfl (by kernel_rfl)) rfl ?_
             exact ⟨⟨_, _, by rw [hF.out]; rfl⟩, Below.row hbW.out (Nat.le_refl _) _⟩
            ·have hUb := eqb_nl ([85] : List UInt8) hU
             replace hU := Hd hU
             go_wp2_with (refine wpList_store_row rfl 163 _ _ rfl w.heap.size _ rfl rfl 163 _ hcc (by kernel_rfl) rfl (by simp [Value.oneCell']) ?_)
             refine bodyPost_ret (results_row_tmp rfl _ _ w.heap.size 163 _ (0,0) _ rfl (setRow_heap _ _ _ _ _ _ hcc) Tryz.underlying163 rfl (by kernel_rfl)) rfl ?_
             exact ⟨⟨_, _, by rw [hF.out]; rfl⟩, Below.row hbW.out (Nat.le_refl _) _⟩
          ·have h127' : ¬ (127 : Int) < c.toNat := by omega
           clear hone hone'
           by_cases hu : P = (⟨#[117]⟩ : ByteArray)
           ·subst hu
            go_wp2_with (refine wpList_store_row rfl 163 _ _ rfl w.heap.size _ rfl rfl 163 _ hcc (by kernel_rfl) rfl (by simp [Value.oneCell']) ?_)
            refine bodyPost_ret (results_row_tmp rfl _ _ w.heap.size 163 _ (0,0) _ rfl (setRow_heap _ _ _ _ _ _ hcc) Tryz.underlying163 rfl (by kernel_rfl)) rfl ?_
            exact ⟨⟨_, _, by rw [hF.out]; rfl⟩, Below.row hbW.out (Nat.le_refl _) _⟩
           ·have hub := eqb_nl ([117] : List UInt8) hu
            replace hu := Hd hu
            by_cases hU : P = (⟨#[85]⟩ : ByteArray)
            ·subst hU
             go_wp2_with (refine wpList_store_row rfl 163 _ _ rfl w.heap.size _ rfl rfl 163 _ hcc (by kernel_rfl) rfl (by simp [Value.oneCell']) ?_)
             refine bodyPost_ret (results_row_tmp rfl _ _ w.heap.size 163 _ (0,0) _ rfl (setRow_heap _ _ _ _ _ _ hcc) Tryz.underlying163 rfl (by kernel_rfl)) rfl ?_
             exact ⟨⟨_, _, by rw [hF.out]; rfl⟩, Below.row hbW.out (Nat.le_refl _) _⟩
            ·have hUb := eqb_nl ([85] : List UInt8) hU
             replace hU := Hd hU
             go_wp2_with (refine wpList_store_row rfl 163 _ _ rfl w.heap.size _ rfl rfl 163 _ hcc (by kernel_rfl) rfl (by simp [Value.oneCell']) ?_)
             refine bodyPost_ret (results_row_tmp rfl _ _ w.heap.size 163 _ (0,0) _ rfl (setRow_heap _ _ _ _ _ _ hcc) Tryz.underlying163 rfl (by kernel_rfl)) rfl ?_
             exact ⟨⟨_, _, by rw [hF.out]; rfl⟩, Below.row hbW.out (Nat.le_refl _) _⟩
         ·have hone' : ¬ (D.size : Int) = 1 := by omega
          have honeb : ((D.size : Int) == 1) = false := beq_false_of_ne hone'
          have hD8 : D.size ≤ 8 := by omega
          clear hone hone'
          go_wp2_with fail
          go_loopg [9,10] D.size (fun k v9 v10 wx => ∃ i v : Nat, k = D.size - i ∧ i ≤ D.size ∧ v9 = .int .i64 v ∧ v10 = .int .i64 i ∧ wx = w2 ∧ v < 4294967296)
          case atStart => exact ⟨0,0, rfl, Nat.zero_le _, rfl, rfl, rfl, by omega⟩
          case round =>
           obtain ⟨i, v, hk, hi, rfl, rfl, rfl, hv⟩ := hrel
           replace hk := hk.symm
           subst hk
           by_cases hin : i < D.size
           ·have hin' : (i : Int) < D.size := by omega
            have f4 : Hid (D.size - (i + 1) < D.size - i) := Hd (by omega)
            have g1 : IntKind.i64.wrap ((i : Int) + 1) = (i : Int) + 1 := IntWalk.i64_in _ (by omega)
            obtain ⟨c, hc⟩ : ∃ c, (D[i]'hin) = c := ⟨_, rfl⟩
            have hc256 := c.toNat_lt
            have g0 : IntKind.i64.wrap (c.toNat : Int) = c.toNat := IntWalk.i64_in _ (by omega)
            obtain ⟨x, hx⟩ : ∃ x, x = v * 256 := ⟨_, rfl⟩
            obtain ⟨y, hy⟩ : ∃ y, y = x + c.toNat := ⟨_, rfl⟩
            obtain ⟨z, hz⟩ : ∃ z, z = y % 4294967296 := ⟨_, rfl⟩
            have g7 : IntKind.i64.wrap ((v : Int) * 256) = (x : Int) := by rw [IntWalk.i64_in _ (by omega)]; omega
            have g8 : IntKind.i64.wrap ((x : Int) + c.toNat) = (y : Int) := by rw [IntWalk.i64_in _ (by omega)]; omega
            have g9 : Int.tmod (y : Int) 4294967296 = (z : Int) := by rw [hz]; rfl
            have hz256 : z < 4294967296 := by rw [hz]; exact Nat.mod_lt _ (by decide)
            have g10 : IntKind.i64.wrap (z : Int) = (z : Int) := IntWalk.i64_in _ (by omega)
            clear hx hy hz
            go_wp2_with fail
            go_roundg (D.size - (i + 1))
            case measure => exact f4.out
            case rel => exact ⟨i + 1, z, rfl, by omega, rfl, by simp, rfl, hz256⟩
           ·obtain rfl : i = D.size := by omega
            have hin' : ¬ (D.size : Int) < (D.size : Int) := by omega
            by_cases h31 : 2147483648 ≤ v
            ·have h31' : (2147483648 : Int) ≤ v := by omega
             have g2 : IntKind.i64.wrap ((v : Int) - 4294967296) = (v : Int) - 4294967296 := IntWalk.i64_in _ (by omega)
             by_cases hu : P = (⟨#[117]⟩ : ByteArray)
             ·subst hu
              go_wp2_with (refine wpList_store_row rfl 163 _ _ rfl w.heap.size _ rfl rfl 163 _ hcc (by kernel_rfl) rfl (by simp [Value.oneCell']) ?_)
              refine bodyPost_ret (results_row_tmp rfl _ _ w.heap.size 163 _ (0,0) _ rfl (setRow_heap _ _ _ _ _ _ hcc) Tryz.underlying163 rfl (by kernel_rfl)) rfl ?_
              exact ⟨⟨_, _, by rw [hF.out]; rfl⟩, Below.row hbW.out (Nat.le_refl _) _⟩
             ·have hub := eqb_nl ([117] : List UInt8) hu
              replace hu := Hd hu
              by_cases hU : P = (⟨#[85]⟩ : ByteArray)
              ·subst hU
               go_wp2_with (refine wpList_store_row rfl 163 _ _ rfl w.heap.size _ rfl rfl 163 _ hcc (by kernel_rfl) rfl (by simp [Value.oneCell']) ?_)
               refine bodyPost_ret (results_row_tmp rfl _ _ w.heap.size 163 _ (0,0) _ rfl (setRow_heap _ _ _ _ _ _ hcc) Tryz.underlying163 rfl (by kernel_rfl)) rfl ?_
               exact ⟨⟨_, _, by rw [hF.out]; rfl⟩, Below.row hbW.out (Nat.le_refl _) _⟩
              ·have hUb := eqb_nl ([85] : List UInt8) hU
               replace hU := Hd hU
               go_wp2_with (refine wpList_store_row rfl 163 _ _ rfl w.heap.size _ rfl rfl 163 _ hcc (by kernel_rfl) rfl (by simp [Value.oneCell']) ?_)
               refine bodyPost_ret (results_row_tmp rfl _ _ w.heap.size 163 _ (0,0) _ rfl (setRow_heap _ _ _ _ _ _ hcc) Tryz.underlying163 rfl (by kernel_rfl)) rfl ?_
               exact ⟨⟨_, _, by rw [hF.out]; rfl⟩, Below.row hbW.out (Nat.le_refl _) _⟩
            ·have h31' : ¬ (2147483648 : Int) ≤ v := by omega
             by_cases hu : P = (⟨#[117]⟩ : ByteArray)
             ·subst hu
              go_wp2_with (refine wpList_store_row rfl 163 _ _ rfl w.heap.size _ rfl rfl 163 _ hcc (by kernel_rfl) rfl (by simp [Value.oneCell']) ?_)
              refine bodyPost_ret (results_row_tmp rfl _ _ w.heap.size 163 _ (0,0) _ rfl (setRow_heap _ _ _ _ _ _ hcc) Tryz.underlying163 rfl (by kernel_rfl)) rfl ?_
              exact ⟨⟨_, _, by rw [hF.out]; rfl⟩, Below.row hbW.out (Nat.le_refl _) _⟩
             ·have hub := eqb_nl ([117] : List UInt8) hu
              replace hu := Hd hu
              by_cases hU : P = (⟨#[85]⟩ : ByteArray)
              ·subst hU
               go_wp2_with (refine wpList_store_row rfl 163 _ _ rfl w.heap.size _ rfl rfl 163 _ hcc (by kernel_rfl) rfl (by simp [Value.oneCell']) ?_)
               refine bodyPost_ret (results_row_tmp rfl _ _ w.heap.size 163 _ (0,0) _ rfl (setRow_heap _ _ _ _ _ _ hcc) Tryz.underlying163 rfl (by kernel_rfl)) rfl ?_
               exact ⟨⟨_, _, by rw [hF.out]; rfl⟩, Below.row hbW.out (Nat.le_refl _) _⟩
              ·have hUb := eqb_nl ([85] : List UInt8) hU
               replace hU := Hd hU
               go_wp2_with (refine wpList_store_row rfl 163 _ _ rfl w.heap.size _ rfl rfl 163 _ hcc (by kernel_rfl) rfl (by simp [Value.oneCell']) ?_)
               refine bodyPost_ret (results_row_tmp rfl _ _ w.heap.size 163 _ (0,0) _ rfl (setRow_heap _ _ _ _ _ _ hcc) Tryz.underlying163 rfl (by kernel_rfl)) rfl ?_
               exact ⟨⟨_, _, by rw [hF.out]; rfl⟩, Below.row hbW.out (Nat.le_refl _) _⟩
     ·skip
      obtain ⟨qa39, qb39⟩ := u8_int (n := 39) (by decide) q39
      replace qa39 : ¬ (q.toNat : Int) = 39 := qa39
      replace qb39 : ((q.toNat : Int) == 39) = false := qb39
      have hF : Hid (nb = false) := Hd (by rw [hnb, decide_eq_false q39]; rfl)
      clear hnb q39
      go_wp2_with (refine wpList_store_row rfl 163 _ _ rfl w.heap.size _ rfl rfl 163 _ hcc (by kernel_rfl) rfl (by simp [Value.oneCell']) ?_)
      refine bodyPost_ret (results_row_tmp rfl _ _ w.heap.size 163 _ (0,0) _ rfl (setRow_heap _ _ _ _ _ _ hcc) Tryz.underlying163 rfl (by kernel_rfl)) rfl ?_
      exact ⟨⟨_, _, by rw [hF.out]; rfl⟩, Below.row hbW.out (Nat.le_refl _) _⟩
end Go.Proofs.YtllbbacnakoomaaGreatDoor
namespace Go.Proofs.YtllbbacnakoomaaGreatDoor
open Go.RowKit
set_option linter.unusedVariables false
theorem beq_dec (a b : ByteArray) : (a.toList == b.toList) = decide (a = b) := by
 by_cases h : a = b
 ·subst h; simp
 ·rw [decide_eq_false h]
  exact beq_false_of_ne (fun e => h (by rw [Lib.toList_data, Lib.toList_data] at e; exact ByteArray.ext (Array.toList_inj.1 e)))
theorem rIn_any (l : List ByteArray) (ao : Option Addr) (cap n : Nat) (hn : l.length = n) (hn1 : n ≤ 1000) (x : ByteArray) (w : World) (hrow : Row w 1 ao (l.map fun p => [.string p])) :
 Calls Tryz.prog 103 #[.slice ao n cap, .string x] w fun e w' => e = .returned (.bool (l.any fun y => decide (y = x))) ∧ w' = w := by
 obtain ⟨R, hR⟩ : ∃ R, R = l.any fun y => decide (y = x) := ⟨_, rfl⟩
 rw [← hR]
 have hR0 : Hid (((l.drop 0).any fun y => decide (y = x)) = R) := Hd hR.symm
 clear hR
 replace hn := Hd hn
 replace hrow := Hd hrow
 go_enter Tryz.func103, Tryz.ntmps103
 go_wp2_with fail
 go_loopg [5] n (fun k v5 wx => ∃ i : Nat, k = n - i ∧ i ≤ n ∧ v5 = .int .i64 i ∧ wx = w ∧ Hid (((l.drop i).any fun y => decide (y = x)) = R))
 case atStart => exact ⟨0, rfl, Nat.zero_le _, rfl, rfl, hR0⟩
 case round =>
  clear hR0
  obtain ⟨i, hk, hi, rfl, rfl, hR⟩ := hrel
  replace hk := hk.symm
  subst hk
  by_cases hin : i < n
  ·have hin' : (i : Int) < n := by omega
   have f4 : Hid (n - (i + 1) < n - i) := Hd (by omega)
   have g1 : IntKind.i64.wrap ((i : Int) + 1) = (i : Int) + 1 := IntWalk.i64_in _ (by omega)
   have hl : i < l.length := by rw [hn.out]; exact hin
   obtain ⟨p, hp⟩ : ∃ p, l[i]? = some p := ⟨_, List.getElem?_eq_getElem hl⟩
   have hst := hR.out
   rw [List.drop_eq_getElem_cons hl, show l[i] = p from (List.getElem?_eq_some_iff.1 hp).2, List.any_cons] at hst
   obtain ⟨b, o, rfl, hat⟩ := hrow.out (by simp; intro h; subst h; simp at hl)
   have x0 : wr.cell? ⟨b, o + i, none⟩ = some (.string p) := by
    have := hat i [.string p] (by rw [List.getElem?_map, hp]; rfl) 0 _ rfl
    simpa using this
   have hbq := beq_dec p x
   generalize decide (p = x) = d at hst hbq
   clear hp hl hR hat
   cases d with
   | true =>
     have hT : Hid (R = true) := Hd (by rw [← hst]; rfl)
     clear hst
     go_wp2
     go_ret
     exact ⟨by rw [hT.out]; rfl, rfl⟩
   | false =>
     have hst' : Hid (((l.drop (i + 1)).any fun y => decide (y = x)) = R) := Hd (by rw [← hst]; rfl)
     clear hst
     go_wp2_with fail
     go_roundg (n - (i + 1))
     case measure => exact f4.out
     case rel => exact ⟨i + 1, rfl, by omega, by simp, rfl, hst'⟩
  ·obtain rfl : i = n := by omega
   have hF : Hid (R = false) := Hd (by have := hR.out; rw [List.drop_eq_nil_of_le (by rw [hn.out]; exact Nat.le_refl _)] at this; rw [← this]; rfl)
   have hin' : ¬ (i : Int) < (i : Int) := by omega
   go_wp2
   go_ret
   exact ⟨by rw [hF.out]; rfl, rfl⟩
abbrev keyO : Obj := .cells (keysL.map fun p => Value.string p).toArray 9
theorem rkeywords_any (w : World) : Calls Tryz.prog 148 #[] w fun e w' => e = .returned (.slice (some ⟨w.heap.size, 0, none⟩) 44 44) ∧ w' = w.alloc keyO := by
 go_enter Tryz.func148, Tryz.ntmps148
 go_wp2
 go_ret
 exact ⟨rfl, rfl⟩
theorem rIsKeyword_any (x : ByteArray) (w : World) : Calls Tryz.prog 91 #[.string x] w fun e w' => e = .returned (.bool (isKey x)) ∧ Below w.heap.size w w' := by
 have hb : Hid (Below w.heap.size w (w.alloc keyO)) := Hd ((Below.refl _ w).alloc (Nat.le_refl _) _)
 have HI := Hd (rIn_any keysL (some ⟨w.heap.size, 0, none⟩) 44 44 (by decide) (by decide) x (w.alloc keyO) (row_new w (css := keysL.map fun p => [.string p]) (by intro c hc; obtain ⟨p, _, rfl⟩ := List.mem_map.1 hc; rfl) 9 (by kernel_rfl) rfl))
 unfold isKey
 go_enter Tryz.func91, Tryz.ntmps91
 go_wp2_with fail
 refine (rkeywords_any w).mono ?_
 rintro e w1 ⟨rfl, rfl⟩
 go_wp2_with fail
 refine HI.out.mono ?_
 rintro e w1 ⟨rfl, rfl⟩
 go_wp2
 go_ret
 exact ⟨rfl, hb.out⟩
def usuV (p : ByteArray × Bool) : Value := .tuple #[.string p.1, .bool p.2]
theorem rusual_any (x : ByteArray) (w : World) : Calls Tryz.prog 95 #[.string x] w fun e w' => e = .returned (usuV (usualP x)) ∧ w' = w := by
 go_enter Tryz.func95, Tryz.ntmps95
 by_cases h1 : x = (⟨#[35]⟩ : ByteArray)
 ·subst h1; go_wp2; go_ret2; exact ⟨rfl, rfl⟩
 have n1 := eqb_nl ([35] : List UInt8) h1
 by_cases h2 : x = (⟨#[35,35]⟩ : ByteArray)
 ·subst h2; go_wp2; go_ret2; exact ⟨rfl, rfl⟩
 have n2 := eqb_nl ([35,35] : List UInt8) h2
 by_cases h3 : x = (⟨#[37,58]⟩ : ByteArray)
 ·subst h3; go_wp2; go_ret2; exact ⟨rfl, rfl⟩
 have n3 := eqb_nl ([37,58] : List UInt8) h3
 by_cases h4 : x = (⟨#[37,58,37,58]⟩ : ByteArray)
 ·subst h4; go_wp2; go_ret2; exact ⟨rfl, rfl⟩
 have n4 := eqb_nl ([37,58,37,58] : List UInt8) h4
 by_cases h5 : x = (⟨#[60,58]⟩ : ByteArray)
 ·subst h5; go_wp2; go_ret2; exact ⟨rfl, rfl⟩
 have n5 := eqb_nl ([60,58] : List UInt8) h5
 by_cases h6 : x = (⟨#[58,62]⟩ : ByteArray)
 ·subst h6; go_wp2; go_ret2; exact ⟨rfl, rfl⟩
 have n6 := eqb_nl ([58,62] : List UInt8) h6
 by_cases h7 : x = (⟨#[60,37]⟩ : ByteArray)
 ·subst h7; go_wp2; go_ret2; exact ⟨rfl, rfl⟩
 have n7 := eqb_nl ([60,37] : List UInt8) h7
 by_cases h8 : x = (⟨#[37,62]⟩ : ByteArray)
 ·subst h8; go_wp2; go_ret2; exact ⟨rfl, rfl⟩
 have n8 := eqb_nl ([37,62] : List UInt8) h8
 have hx : Hid (usualP x = (x, true)) := Hd (by
  unfold usualP
  rw [if_neg (by rintro (h | h | h | h); exact h1 h; exact h2 h; exact h3 h; exact h4 h), if_neg h5, if_neg h6, if_neg h7, if_neg h8])
 clear h1 h2 h3 h4 h5 h6 h7 h8
 go_wp2
 go_ret2
 exact ⟨by rw [hx.out]; rfl, rfl⟩
theorem preQ_nil {A : List UInt8} (h : ∀ c ∈ A, ¬ (c = 34 ∨ c = 39)) : preQ A = [] := by
 unfold preQ
 rw [if_neg]
 simp only [List.any_eq_true, decide_eq_true_eq, not_exists, not_and]
 exact h
theorem preQ_at {A : List UInt8} {i : Nat} (hi : i < A.length) (hc : chAt A i = 34 ∨ chAt A i = 39) (h : ∀ j, j < i → ¬ (chAt A j = 34 ∨ chAt A j = 39)) : preQ A = A.take i := by
 unfold preQ
 have hA : A = A.take i ++ chAt A i :: A.drop (i + 1) := by rw [← drop_at hi, List.take_append_drop]
 rw [if_pos (by rw [List.any_eq_true]; exact ⟨chAt A i, by unfold chAt; rw [List.getD_eq_getElem?_getD, List.getElem?_eq_getElem hi]; exact List.getElem_mem hi, by simpa using hc⟩)]
 have hall : ∀ c ∈ A.take i, (!decide (c = 34 ∨ c = 39)) = true := by
  intro c hcm
  obtain ⟨j, hj, rfl⟩ := List.getElem_of_mem hcm
  rw [List.length_take] at hj
  have := h j (by omega)
  unfold chAt at this
  rw [List.getD_eq_getElem?_getD, List.getElem?_eq_getElem (by omega)] at this
  simp at this ⊢
  exact this
 conv => lhs; rw [hA]
 rw [List.takeWhile_append_of_pos hall, List.takeWhile_cons]
 rw [if_neg (by rw [decide_eq_true hc]; simp)]
 simp
theorem rprefix_any (s : ByteArray) (hs : s.size ≤ 1000000) (w : World) :
 Calls Tryz.prog 97 #[.string s] w fun e w' => e = .returned (.string ⟨(preQ s.data.toList).toArray⟩) ∧ w' = w := by
 obtain ⟨Q, hQ⟩ : ∃ Q, Q = preQ s.data.toList := ⟨_, rfl⟩
 rw [← hQ]
 replace hQ := Hd hQ
 go_enter Tryz.func97, Tryz.ntmps97
 go_wp2_with fail
 go_loopg [3] s.size (fun k v3 wx => ∃ i : Nat, k = s.size - i ∧ i ≤ s.size ∧ v3 = .int .i64 i ∧ wx = w ∧ Hid (∀ j, j < i → ¬ (chAt s.data.toList j = 34 ∨ chAt s.data.toList j = 39)))
 case atStart => exact ⟨0, rfl, Nat.zero_le _, rfl, rfl, Hd (fun j h => by omega)⟩
 case round =>
  obtain ⟨i, hk, hi, rfl, rfl, hno⟩ := hrel
  replace hk := hk.symm
  subst hk
  by_cases hin : i < s.size
  ·have hin' : (i : Int) < s.size := by omega
   have f4 : Hid (s.size - (i + 1) < s.size - i) := Hd (by omega)
   have g1 : IntKind.i64.wrap ((i : Int) + 1) = (i : Int) + 1 := IntWalk.i64_in _ (by omega)
   obtain ⟨c, hc⟩ : ∃ c, c = chAt s.data.toList i := ⟨_, rfl⟩
   have hci : (s[i]'(by omega)) = c := by rw [hc]; exact byte_chAt _
   have hyes : Hid (c = 34 ∨ c = 39 → (⟨Q.toArray⟩ : ByteArray) = s.extract 0 i) := Hd (fun h => by
    rw [hQ.out, preQ_at (by rw [sz_list]; exact hin) (by rw [← hc]; exact h) hno.out]
    apply ByteArray.ext
    have := ext_list s 0 i
    rw [Nat.zero_add, List.drop_zero] at this
    rw [← this])
   have hno2 : Hid (¬ (c = 34 ∨ c = 39) → ∀ j, j < i + 1 → ¬ (chAt s.data.toList j = 34 ∨ chAt s.data.toList j = 39)) := Hd (fun h j hj => by
    by_cases hji : j = i
    ·subst hji; rw [← hc]; exact h
    ·exact hno.out j (by omega))
   clear hc hno
   have hi0 : (0 : Int) ≤ i := by omega
   have his : (i : Int) ≤ s.size := by omega
   by_cases c34 : c = 34
   ·subst c34
    have l34 : ((UInt8.toNat 34 : Nat) : Int) = 34 := rfl
    have hy := Hd (hyes.out (.inl rfl))
    clear hyes hno2
    go_wp2
    go_ret
    exact ⟨by rw [hy.out]; rfl, rfl⟩
   ·skip
    obtain ⟨ca34, cb34⟩ := u8_int (n := 34) (by decide) c34
    replace ca34 : ¬ (c.toNat : Int) = 34 := ca34
    replace cb34 : ((c.toNat : Int) == 34) = false := cb34
    by_cases c39 : c = 39
    ·subst c39
     have l39 : ((UInt8.toNat 39 : Nat) : Int) = 39 := rfl
     have hy := Hd (hyes.out (.inr rfl))
     clear hyes hno2 c34
     go_wp2
     go_ret
     exact ⟨by rw [hy.out]; rfl, rfl⟩
    ·skip
     obtain ⟨ca39, cb39⟩ := u8_int (n := 39) (by decide) c39
     replace ca39 : ¬ (c.toNat : Int) = 39 := ca39
     replace cb39 : ((c.toNat : Int) == 39) = false := cb39
     have hn3 := Hd (hno2.out (by rintro (h | h); exact c34 h; exact c39 h))
     clear hyes hno2 c34 c39
     go_wp2_with fail
     go_roundg (s.size - (i + 1))
     case measure => exact f4.out
     case rel => exact ⟨i + 1, rfl, by omega, by simp, rfl, hn3⟩
  ·obtain rfl : i = s.size := by omega
   have hin' : ¬ (s.size : Int) < (s.size : Int) := by omega
   have hQn : Hid (Q = []) := Hd (by
    rw [hQ.out]
    refine preQ_nil fun c hc => ?_
    obtain ⟨j, hj, rfl⟩ := List.getElem_of_mem hc
    have := hno.out j (by rw [← sz_list]; exact hj)
    unfold chAt at this
    rw [List.getD_eq_getElem?_getD, List.getElem?_eq_getElem hj] at this
    exact this)
   go_wp2
   go_ret
   exact ⟨by rw [hQn.out]; rfl, rfl⟩
end Go.Proofs.YtllbbacnakoomaaGreatDoor
