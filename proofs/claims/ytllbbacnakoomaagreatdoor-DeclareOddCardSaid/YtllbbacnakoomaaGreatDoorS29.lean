/- Texts of this seat's proofs, laid into one file. -/
import Derived.Test.YtllbbacnakoomaaGreatDoorS28
set_option maxRecDepth 100000
set_option maxHeartbeats 16000000
namespace Go.Proofs.YtllbbacnakoomaaGreatDoor
open Go.RowKit
set_option linter.unusedVariables false
theorem inner_any {L : List Ct} {ta : Option Addr} {tc rb : Nat} {w : World} {s : Ps} (h : PS L ta tc rb s w) (mode : Nat) (hm : mode ≤ 2) :
 Calls Tryz.prog 188 #[.pointer (some ⟨rb, 0, none⟩), .int .i64 mode] w fun e w' => e = .returned (.bool (innerP L mode s)) ∧ PS L ta tc rb s w' ∧ w.grownBy w' (some rb) := by
 have C := Hd (Cx.start h)
 have hlt := h.lt
 obtain ⟨t, ht⟩ : ∃ t, t = tokP L (s.at_ + 1) := ⟨_, rfl⟩
 have hP : innerP L mode s = (isP L s (⟨#[40]⟩ : ByteArray) && (decide (mode = 0) || isT t (⟨#[42]⟩ : ByteArray) || isT t (⟨#[40]⟩ : ByteArray) || isT t (⟨#[91]⟩ : ByteArray) || decide (mode = 2) && decide (t.kind = 1) && !typedP s.env t)) := by unfold innerP behP; rw [← ht]
 replace hP := Hd hP
 have HT := Hd (rest_any C.out.ps 1 (.inr rfl))
 rw [← ht] at HT
 unfold ctV at HT
 clear ht
 go_enter Tryz.func188, Tryz.ntmps188
 go_wp2_with fail
 refine (HT.out).mono ?_
 rintro e w1 ⟨rfl, hb1⟩
 replace C := Hd (C.out.below hb1)
 clear HT
 replace C := Hd (C.out.alloc (ctO t) (a := w1.heap.size) rfl)
 have HP1 := Hd (punct_any t (⟨#[42]⟩ : ByteArray) (w1.alloc (ctO t)))
 unfold ctV at HP1
 cases ha : isT t (⟨#[42]⟩ : ByteArray) with
 | true =>
   rw [ha] at HP1
   go_wp2_with fail
   refine (HP1.out).mono ?_
   rintro e w2 ⟨rfl, hb2⟩
   replace C := Hd (C.out.below hb2)
   cases hd : isP L s (⟨#[40]⟩ : ByteArray) with
   | false =>
     have hres : innerP L mode s = false := by rw [hP.out, hd]; rfl
     have HI := Hd (rIs_any C.out.ps (⟨#[40]⟩ : ByteArray))
     rw [hd] at HI
     go_wp2_with fail
     refine (HI.out).mono ?_
     rintro e w5 ⟨rfl, hb5⟩
     replace C := Hd (C.out.below hb5)
     go_wp2_with fail
     go_ret
     exact ⟨by rw [hres]; rfl, C.out.ps, C.out.kp.grown⟩
   | true =>
     have HI := Hd (rIs_any C.out.ps (⟨#[40]⟩ : ByteArray))
     rw [hd] at HI
     by_cases hm0 : mode = 0
     ·have hm1 : ((mode : Int) == 0) = true := by rw [hm0]; rfl
      have hres : innerP L mode s = true := by rw [hP.out, hd, decide_eq_true hm0]; rfl
      replace hm0 := Hd hm0
      go_wp2_with fail
      refine (HI.out).mono ?_
      rintro e w5 ⟨rfl, hb5⟩
      replace C := Hd (C.out.below hb5)
      go_wp2_with fail
      go_ret
      exact ⟨by rw [hres]; rfl, C.out.ps, C.out.kp.grown⟩
     ·have hm1 : ((mode : Int) == 0) = false := beq_false_of_ne (by omega)
      have hres : innerP L mode s = true := by rw [hP.out, hd, ha]; simp
      replace hm0 := Hd hm0
      go_wp2_with fail
      refine (HI.out).mono ?_
      rintro e w5 ⟨rfl, hb5⟩
      replace C := Hd (C.out.below hb5)
      go_wp2_with fail
      go_ret
      exact ⟨by rw [hres]; rfl, C.out.ps, C.out.kp.grown⟩
 | false =>
   rw [ha] at HP1
   go_wp2_with fail
   refine (HP1.out).mono ?_
   rintro e w2 ⟨rfl, hb2⟩
   replace C := Hd (C.out.below hb2)
   obtain ⟨x0, x1, x2, x3, x4, x5, x6, xf⟩ := ct_box (C.out.var (i := 0) rfl)
   have HP2 := Hd (punct_any t (⟨#[40]⟩ : ByteArray) w2)
   unfold ctV at HP2
   cases hb : isT t (⟨#[40]⟩ : ByteArray) with
   | true =>
     rw [hb] at HP2
     go_wp2_with fail
     refine (HP2.out).mono ?_
     rintro e w3 ⟨rfl, hb3⟩
     replace C := Hd (C.out.below hb3)
     cases hd : isP L s (⟨#[40]⟩ : ByteArray) with
     | false =>
       have hres : innerP L mode s = false := by rw [hP.out, hd]; rfl
       have HI := Hd (rIs_any C.out.ps (⟨#[40]⟩ : ByteArray))
       rw [hd] at HI
       go_wp2_with fail
       refine (HI.out).mono ?_
       rintro e w5 ⟨rfl, hb5⟩
       replace C := Hd (C.out.below hb5)
       go_wp2_with fail
       go_ret
       exact ⟨by rw [hres]; rfl, C.out.ps, C.out.kp.grown⟩
     | true =>
       have HI := Hd (rIs_any C.out.ps (⟨#[40]⟩ : ByteArray))
       rw [hd] at HI
       by_cases hm0 : mode = 0
       ·have hm1 : ((mode : Int) == 0) = true := by rw [hm0]; rfl
        have hres : innerP L mode s = true := by rw [hP.out, hd, decide_eq_true hm0]; rfl
        replace hm0 := Hd hm0
        go_wp2_with fail
        refine (HI.out).mono ?_
        rintro e w5 ⟨rfl, hb5⟩
        replace C := Hd (C.out.below hb5)
        go_wp2_with fail
        go_ret
        exact ⟨by rw [hres]; rfl, C.out.ps, C.out.kp.grown⟩
       ·have hm1 : ((mode : Int) == 0) = false := beq_false_of_ne (by omega)
        have hres : innerP L mode s = true := by rw [hP.out, hd, hb]; simp
        replace hm0 := Hd hm0
        go_wp2_with fail
        refine (HI.out).mono ?_
        rintro e w5 ⟨rfl, hb5⟩
        replace C := Hd (C.out.below hb5)
        go_wp2_with fail
        go_ret
        exact ⟨by rw [hres]; rfl, C.out.ps, C.out.kp.grown⟩
   | false =>
     rw [hb] at HP2
     go_wp2_with fail
     refine (HP2.out).mono ?_
     rintro e w3 ⟨rfl, hb3⟩
     replace C := Hd (C.out.below hb3)
     clear x0 x1 x2 x3 x4 x5 x6 xf
     obtain ⟨x0, x1, x2, x3, x4, x5, x6, xf⟩ := ct_box (C.out.var (i := 0) rfl)
     have HP3 := Hd (punct_any t (⟨#[91]⟩ : ByteArray) w3)
     unfold ctV at HP3
     cases hc : isT t (⟨#[91]⟩ : ByteArray) with
     | true =>
       rw [hc] at HP3
       go_wp2_with fail
       refine (HP3.out).mono ?_
       rintro e w4 ⟨rfl, hb4⟩
       replace C := Hd (C.out.below hb4)
       cases hd : isP L s (⟨#[40]⟩ : ByteArray) with
       | false =>
         have hres : innerP L mode s = false := by rw [hP.out, hd]; rfl
         have HI := Hd (rIs_any C.out.ps (⟨#[40]⟩ : ByteArray))
         rw [hd] at HI
         go_wp2_with fail
         refine (HI.out).mono ?_
         rintro e w5 ⟨rfl, hb5⟩
         replace C := Hd (C.out.below hb5)
         go_wp2_with fail
         go_ret
         exact ⟨by rw [hres]; rfl, C.out.ps, C.out.kp.grown⟩
       | true =>
         have HI := Hd (rIs_any C.out.ps (⟨#[40]⟩ : ByteArray))
         rw [hd] at HI
         by_cases hm0 : mode = 0
         ·have hm1 : ((mode : Int) == 0) = true := by rw [hm0]; rfl
          have hres : innerP L mode s = true := by rw [hP.out, hd, decide_eq_true hm0]; rfl
          replace hm0 := Hd hm0
          go_wp2_with fail
          refine (HI.out).mono ?_
          rintro e w5 ⟨rfl, hb5⟩
          replace C := Hd (C.out.below hb5)
          go_wp2_with fail
          go_ret
          exact ⟨by rw [hres]; rfl, C.out.ps, C.out.kp.grown⟩
         ·have hm1 : ((mode : Int) == 0) = false := beq_false_of_ne (by omega)
          have hres : innerP L mode s = true := by rw [hP.out, hd, hc]; simp
          replace hm0 := Hd hm0
          go_wp2_with fail
          refine (HI.out).mono ?_
          rintro e w5 ⟨rfl, hb5⟩
          replace C := Hd (C.out.below hb5)
          go_wp2_with fail
          go_ret
          exact ⟨by rw [hres]; rfl, C.out.ps, C.out.kp.grown⟩
     | false =>
       rw [hc] at HP3
       go_wp2_with fail
       refine (HP3.out).mono ?_
       rintro e w4 ⟨rfl, hb4⟩
       replace C := Hd (C.out.below hb4)
       clear x0 x1 x2 x3 x4 x5 x6 xf
       obtain ⟨x0, x1, x2, x3, x4, x5, x6, xf⟩ := ct_box (C.out.var (i := 0) rfl)
       cases hd : isP L s (⟨#[40]⟩ : ByteArray) with
       | false =>
         have hres : innerP L mode s = false := by rw [hP.out, hd]; rfl
         have HI := Hd (rIs_any C.out.ps (⟨#[40]⟩ : ByteArray))
         rw [hd] at HI
         go_wp2_with fail
         refine (HI.out).mono ?_
         rintro e w5 ⟨rfl, hb5⟩
         replace C := Hd (C.out.below hb5)
         go_wp2_with fail
         go_ret
         exact ⟨by rw [hres]; rfl, C.out.ps, C.out.kp.grown⟩
       | true =>
         have HI := Hd (rIs_any C.out.ps (⟨#[40]⟩ : ByteArray))
         rw [hd] at HI
         by_cases hm0 : mode = 0
         ·have hm1 : ((mode : Int) == 0) = true := by rw [hm0]; rfl
          have hres : innerP L mode s = true := by rw [hP.out, hd, decide_eq_true hm0]; rfl
          replace hm0 := Hd hm0
          go_wp2_with fail
          refine (HI.out).mono ?_
          rintro e w5 ⟨rfl, hb5⟩
          replace C := Hd (C.out.below hb5)
          go_wp2_with fail
          go_ret
          exact ⟨by rw [hres]; rfl, C.out.ps, C.out.kp.grown⟩
         ·have hm1 : ((mode : Int) == 0) = false := beq_false_of_ne (by omega)
          by_cases hm2 : mode = 2
          ·have hm3 : ((mode : Int) == 2) = true := by rw [hm2]; rfl
           by_cases hk : t.kind = 1
           ·cases hy : typedP s.env t with
            | true =>
              have hres : innerP L mode s = false := by rw [hP.out, hd, ha, hb, hc, hy]; simp [hm0]
              replace hm0 := Hd hm0
              replace hm2 := Hd hm2
              go_wp2_with fail
              refine (HI.out).mono ?_
              rintro e w5 ⟨rfl, hb5⟩
              replace C := Hd (C.out.below hb5)
              clear x0 x1 x2 x3 x4 x5 x6 xf
              obtain ⟨x0, x1, x2, x3, x4, x5, x6, xf⟩ := ct_box (C.out.var (i := 0) rfl)
              have HY := Hd (typed_any C.out.ps t)
              rw [hy] at HY
              unfold ctV at HY
              rw [hk] at x0 HY
              go_wp2_with fail
              refine (HY.out).mono ?_
              rintro e w6 ⟨rfl, hb6⟩
              replace C := Hd (C.out.below hb6)
              go_wp2_with fail
              go_ret
              exact ⟨by rw [hres]; rfl, C.out.ps, C.out.kp.grown⟩
            | false =>
              have hres : innerP L mode s = true := by rw [hP.out, hd, ha, hb, hc, hy, decide_eq_true hk, decide_eq_true hm2]; simp
              replace hm0 := Hd hm0
              replace hm2 := Hd hm2
              go_wp2_with fail
              refine (HI.out).mono ?_
              rintro e w5 ⟨rfl, hb5⟩
              replace C := Hd (C.out.below hb5)
              clear x0 x1 x2 x3 x4 x5 x6 xf
              obtain ⟨x0, x1, x2, x3, x4, x5, x6, xf⟩ := ct_box (C.out.var (i := 0) rfl)
              have HY := Hd (typed_any C.out.ps t)
              rw [hy] at HY
              unfold ctV at HY
              rw [hk] at x0 HY
              go_wp2_with fail
              refine (HY.out).mono ?_
              rintro e w6 ⟨rfl, hb6⟩
              replace C := Hd (C.out.below hb6)
              go_wp2_with fail
              go_ret
              exact ⟨by rw [hres]; rfl, C.out.ps, C.out.kp.grown⟩
           ·have hres : innerP L mode s = false := by rw [hP.out, hd, ha, hb, hc, decide_eq_false hk]; simp [hm0]
            have hk' : (t.kind == 1) = false := beq_false_of_ne hk
            replace hm0 := Hd hm0
            replace hm2 := Hd hm2
            go_wp2_with fail
            refine (HI.out).mono ?_
            rintro e w5 ⟨rfl, hb5⟩
            replace C := Hd (C.out.below hb5)
            clear x0 x1 x2 x3 x4 x5 x6 xf
            obtain ⟨x0, x1, x2, x3, x4, x5, x6, xf⟩ := ct_box (C.out.var (i := 0) rfl)
            go_wp2_with fail
            go_ret
            exact ⟨by rw [hres]; rfl, C.out.ps, C.out.kp.grown⟩
          ·have hm3 : ((mode : Int) == 2) = false := beq_false_of_ne (by omega)
           have hres : innerP L mode s = false := by rw [hP.out, hd, ha, hb, hc, decide_eq_false hm2]; simp [hm0]
           replace hm0 := Hd hm0
           replace hm2 := Hd hm2
           go_wp2_with fail
           refine (HI.out).mono ?_
           rintro e w5 ⟨rfl, hb5⟩
           replace C := Hd (C.out.below hb5)
           go_wp2_with fail
           go_ret
           exact ⟨by rw [hres]; rfl, C.out.ps, C.out.kp.grown⟩
end Go.Proofs.YtllbbacnakoomaaGreatDoor
namespace Go.Proofs.YtllbbacnakoomaaGreatDoor
open Go.RowKit
set_option linter.unusedVariables false
theorem array_any {L : List Ct} {ta : Option Addr} {tc rb : Nat} {R : Rec} (G : Good L ta tc rb R) {w : World} {s : Ps} {d : T} {ao : Option Addr} {cap nest : Nat} {n : T} {s' : Ps} {H : Nat → Prop} (h : PS L ta tc rb s w) (hH : ¬ H rb) (hf : Rep w H d (ndC d ao cap)) (hn : nest ≤ 1000) (hr : arrayF L R d nest s = some (n, s')) :
 Calls Tryz.prog 189 #[.pointer (some ⟨rb, 0, none⟩), ndV d ao cap, .int .i64 nest] w (NdRetF L ta tc rb H w n s') := by
 have C := Hd (((Cx.startN h hH (ns := [⟨d, ao, cap⟩]) (by intro x hx; simp at hx; subst hx; exact hf)).alloc (bxO d ao cap) (a := w.heap.size) rfl).alloc nzO (a := w.heap.size + 1) (by simp) |>.lit [⟨d, ao, cap⟩] (by simp) (by simp) rfl (a := w.heap.size + 2) (by simp) (n := 1) rfl)
 have hlt := h.lt
 unfold arrayF at hr
 unfold ndV
 obtain ⟨s1, hr1, hr2⟩ := Option.bind_eq_some_iff.1 hr
 obtain ⟨⟨kl, s2⟩, hr3, hr4⟩ := Option.bind_eq_some_iff.1 hr2
 obtain ⟨rfl, rfl⟩ := Prod.mk.inj (Option.some.inj hr4)
 replace hr1 := Hd hr1
 replace hr3 := Hd hr3
 clear hr hr2 hr4
 go_enter Tryz.func189, Tryz.ntmps189
 go_wp2_with fail
 go_loopg [] KK (fun q wx => ∃ (z : Ps), Hid (Cx L ta tc rb (fun k => H k ∧ k < w.heap.size) none w z [] [(w.heap.size + 1, nzO), (w.heap.size, bxO d ao cap)] [d] (.slice (some ⟨w.heap.size + 2,0, none⟩) 1 1) wx) ∧ Hid (staticLoop L q z = some s1))
 case atStart => exact ⟨_, Hd (C.out.weak (by simp) (List.Sublist.refl _)), hr1⟩
 case round =>
  have Cx := C
  clear Cx C hr1
  obtain ⟨z, C, hL⟩ := hrel
  obtain ⟨w4, hw4⟩ : ∃ w4, w4 = wr := ⟨_, rfl⟩
  subst hw4
  cases gk with
  | zero => exact absurd hL.out (by simp [staticLoop])
  | succ gk =>
    have hL2 := hL.out
    unfold staticLoop at hL2
    cases p1 : hasW L z (⟨#[115,116,97,116,105,99]⟩ : ByteArray) with
    | true =>
      rw [p1, if_pos rfl] at hL2
      replace hL2 := Hd hL2
      have HH := Hd (rHasWord_any C.out.ps (⟨#[115,116,97,116,105,99]⟩ : ByteArray))
      rw [p1, if_pos rfl] at HH
      go_wp2_with fail
      refine (HH.out).mono ?_
      rintro e w5 ⟨rfl, h5, k5⟩
      replace C := Hd (C.out.call h5 k5)
      clear HH
      go_wp2_with fail
      go_roundg gk
      case measure => omega
      case rel => exact ⟨_, C, hL2⟩
    | false =>
      rw [p1, if_neg (by simp)] at hL2
      obtain ⟨⟨qs, z2⟩, hq1, hq2⟩ := Option.bind_eq_some_iff.1 hL2
      simp only at hq2
      replace hq1 := Hd hq1
      clear hL2
      have HH := Hd (rHasWord_any C.out.ps (⟨#[115,116,97,116,105,99]⟩ : ByteArray))
      rw [p1, if_neg (by simp)] at HH
      go_wp2_with fail
      refine (HH.out).mono ?_
      rintro e w5 ⟨rfl, h5, k5⟩
      replace C := Hd (C.out.call h5 k5)
      clear HH
      go_wp2_with fail
      refine (quals_any C.out.ps hq1.out).mono ?_
      rintro e w6 ⟨m, ao6, cap6, rfl, hm, hm6, hk6, h6, k6⟩
      replace C := Hd (C.out.call h6 k6)
      clear hk6
      by_cases hz : qs.length = 0
      ·rw [if_pos hz] at hq2
       obtain rfl := Option.some.inj hq2
       obtain rfl : m = 0 := hm.out.symm.trans hz
       have HI1 := Hd (rIs_any C.out.ps (⟨#[42]⟩ : ByteArray))
       have hr5 := hr3.out
       cases p2 : isP L z2 (⟨#[42]⟩ : ByteArray) with
       | true =>
         rw [p2] at HI1
         go_wp2_with fail
         refine (HI1.out).mono ?_
         rintro e w7 ⟨rfl, hb7⟩
         replace C := Hd (C.out.below hb7)
         have HI2 := Hd (rBehind_any C.out.ps (⟨#[93]⟩ : ByteArray))
         cases p3 : behP L z2 (⟨#[93]⟩ : ByteArray) with
         | true =>
           rw [if_pos ⟨p2, p3⟩] at hr5
           obtain ⟨rfl, rfl⟩ := Prod.mk.inj (Option.some.inj hr5)
           rw [p3] at HI2
           go_wp2_with fail
           refine (HI2.out).mono ?_
           rintro e w8 ⟨rfl, hb8⟩
           replace C := Hd (C.out.below hb8)
           have HL := Hd (rLeaf_any C.out.ps (⟨#[115,116,97,114]⟩ : ByteArray) (by unfold isP isT at p2; simp only [Bool.and_eq_true, decide_eq_true_eq] at p2; omega))
           go_wp2_with fail
           refine (HL.out).mono ?_
           rintro e w9 ⟨rfl, h9, k9⟩
           replace C := Hd (C.out.call h9 k9)
           clear HL
           replace C := Hd ((C.out.leaf (⟨#[115,116,97,114]⟩ : ByteArray) eB z2.at_ (z2.at_ + 1)).alloc (lfO (.mk (⟨#[115,116,97,114]⟩ : ByteArray) eB z2.at_ (z2.at_ + 1) [])) (a := w9.heap.size) rfl)
           obtain ⟨b0, b1, b2, b3, b4, bf⟩ := nd_cells (C.out.var (i := 0) rfl)
           go_wp2_with (refine wpList_snoc C.out (.head _) (by simp) rfl rfl rfl rfl (by simp) ?_; intro m7 ao7 cap7 w10 hm7 C7)
           replace C := Hd C7
           clear C7 b0 b1 b2 b3 b4 bf
           go_wp2_with fail
           refine (rNeed_any C.out.ps (⟨#[93]⟩ : ByteArray)).mono ?_
           rintro e w15 ⟨rfl, h15, k15⟩
           replace C := Hd (C.out.call h15 k15)
           obtain ⟨q0, q1, q2, q3, q4, qf⟩ := nd_cells (C.out.var (i := 2) rfl)
           go_wp2_with fail
           refine (rMake_any C.out.ps (⟨#[97,114,114,97,121]⟩ : ByteArray) ⟨#[]⟩ d.from_ _ _ _).mono ?_
           rintro e w16 ⟨rfl, hb16⟩
           replace C := Hd (C.out.made hb16 (by simp) (⟨#[97,114,114,97,121]⟩ : ByteArray) ⟨#[]⟩ d.from_)
           have hcc := C.out.var (i := 1) rfl
           go_wp2_with (refine stN rfl rfl rfl rfl hcc rfl rfl (by simp [Value.oneCell']) ?_)
           refine retN rfl rfl rfl (setRow_heap _ _ _ _ _ _ hcc) rfl ?_
           obtain rfl := hm7.out
           exact ⟨_, _, rfl, (C.out.set (i := 1) rfl rfl _).outF (.head _)⟩
         | false =>
           rw [if_neg (by rw [p3]; simp)] at hr5
           rw [p3] at HI2
           go_wp2_with fail
           refine (HI2.out).mono ?_
           rintro e w8 ⟨rfl, hb8⟩
           replace C := Hd (C.out.below hb8)
           have HI3 := Hd (rIs_any C.out.ps (⟨#[93]⟩ : ByteArray))
           cases p4 : isP L z2 (⟨#[93]⟩ : ByteArray) with
           | true =>
             rw [p4, if_pos rfl] at hr5
             obtain ⟨rfl, rfl⟩ := Prod.mk.inj (Option.some.inj hr5)
             rw [p4] at HI3
             go_wp2_with fail
             refine (HI3.out).mono ?_
             rintro e w9 ⟨rfl, hb9⟩
             replace C := Hd (C.out.below hb9)
             go_wp2_with fail
             refine (rNeed_any C.out.ps (⟨#[93]⟩ : ByteArray)).mono ?_
             rintro e w15 ⟨rfl, h15, k15⟩
             replace C := Hd (C.out.call h15 k15)
             obtain ⟨q0, q1, q2, q3, q4, qf⟩ := nd_cells (C.out.var (i := 1) rfl)
             go_wp2_with fail
             refine (rMake_any C.out.ps (⟨#[97,114,114,97,121]⟩ : ByteArray) ⟨#[]⟩ d.from_ _ _ _).mono ?_
             rintro e w16 ⟨rfl, hb16⟩
             replace C := Hd (C.out.made hb16 (by simp) (⟨#[97,114,114,97,121]⟩ : ByteArray) ⟨#[]⟩ d.from_)
             have hcc := C.out.var (i := 0) rfl
             go_wp2_with (refine stN rfl rfl rfl rfl hcc rfl rfl (by simp [Value.oneCell']) ?_)
             refine retN rfl rfl rfl (setRow_heap _ _ _ _ _ _ hcc) rfl ?_
             skip
             exact ⟨_, _, rfl, (C.out.set (i := 0) rfl rfl _).outF (.head _)⟩
           | false =>
             rw [p4, if_neg (by simp)] at hr5
             rw [p4] at HI3
             obtain ⟨⟨b, z3⟩, hb1, hb2⟩ := Option.bind_eq_some_iff.1 hr5
             simp only at hb2
             replace hb1 := Hd hb1
             replace hb2 := Hd hb2
             clear hr5
             obtain ⟨rfl, rfl⟩ := Prod.mk.inj (Option.some.inj hb2.out)
             clear hb2
             go_wp2_with fail
             refine (HI3.out).mono ?_
             rintro e w9 ⟨rfl, hb9⟩
             replace C := Hd (C.out.below hb9)
             go_wp2_with fail
             refine (G.assign C.out.ps hn hb1.out).mono ?_
             rintro e w10 ⟨ao10, cap10, rfl, hn10, h10, k10⟩
             replace C := Hd (C.out.ret hn10 h10 k10)
             unfold ndV
             go_wp2_with (refine wpList_snoc C.out (.head _) (by simp) rfl rfl rfl rfl rfl ?_; intro m7 ao7 cap7 w11 hm7 C7)
             replace C := Hd C7
             clear C7
             go_wp2_with fail
             refine (rNeed_any C.out.ps (⟨#[93]⟩ : ByteArray)).mono ?_
             rintro e w15 ⟨rfl, h15, k15⟩
             replace C := Hd (C.out.call h15 k15)
             obtain ⟨q0, q1, q2, q3, q4, qf⟩ := nd_cells (C.out.var (i := 1) rfl)
             go_wp2_with fail
             refine (rMake_any C.out.ps (⟨#[97,114,114,97,121]⟩ : ByteArray) ⟨#[]⟩ d.from_ _ _ _).mono ?_
             rintro e w16 ⟨rfl, hb16⟩
             replace C := Hd (C.out.made hb16 (by simp) (⟨#[97,114,114,97,121]⟩ : ByteArray) ⟨#[]⟩ d.from_)
             have hcc := C.out.var (i := 0) rfl
             go_wp2_with (refine stN rfl rfl rfl rfl hcc rfl rfl (by simp [Value.oneCell']) ?_)
             refine retN rfl rfl rfl (setRow_heap _ _ _ _ _ _ hcc) rfl ?_
             obtain rfl := hm7.out
             exact ⟨_, _, rfl, (C.out.set (i := 0) rfl rfl _).outF (.head _)⟩
       | false =>
         rw [if_neg (by rw [p2]; simp)] at hr5
         rw [p2] at HI1
         go_wp2_with fail
         refine (HI1.out).mono ?_
         rintro e w7 ⟨rfl, hb7⟩
         replace C := Hd (C.out.below hb7)
         have HI3 := Hd (rIs_any C.out.ps (⟨#[93]⟩ : ByteArray))
         cases p4 : isP L z2 (⟨#[93]⟩ : ByteArray) with
         | true =>
           rw [p4, if_pos rfl] at hr5
           obtain ⟨rfl, rfl⟩ := Prod.mk.inj (Option.some.inj hr5)
           rw [p4] at HI3
           go_wp2_with fail
           refine (HI3.out).mono ?_
           rintro e w9 ⟨rfl, hb9⟩
           replace C := Hd (C.out.below hb9)
           go_wp2_with fail
           refine (rNeed_any C.out.ps (⟨#[93]⟩ : ByteArray)).mono ?_
           rintro e w15 ⟨rfl, h15, k15⟩
           replace C := Hd (C.out.call h15 k15)
           obtain ⟨q0, q1, q2, q3, q4, qf⟩ := nd_cells (C.out.var (i := 1) rfl)
           go_wp2_with fail
           refine (rMake_any C.out.ps (⟨#[97,114,114,97,121]⟩ : ByteArray) ⟨#[]⟩ d.from_ _ _ _).mono ?_
           rintro e w16 ⟨rfl, hb16⟩
           replace C := Hd (C.out.made hb16 (by simp) (⟨#[97,114,114,97,121]⟩ : ByteArray) ⟨#[]⟩ d.from_)
           have hcc := C.out.var (i := 0) rfl
           go_wp2_with (refine stN rfl rfl rfl rfl hcc rfl rfl (by simp [Value.oneCell']) ?_)
           refine retN rfl rfl rfl (setRow_heap _ _ _ _ _ _ hcc) rfl ?_
           skip
           exact ⟨_, _, rfl, (C.out.set (i := 0) rfl rfl _).outF (.head _)⟩
         | false =>
           rw [p4, if_neg (by simp)] at hr5
           rw [p4] at HI3
           obtain ⟨⟨b, z3⟩, hb1, hb2⟩ := Option.bind_eq_some_iff.1 hr5
           simp only at hb2
           replace hb1 := Hd hb1
           replace hb2 := Hd hb2
           clear hr5
           obtain ⟨rfl, rfl⟩ := Prod.mk.inj (Option.some.inj hb2.out)
           clear hb2
           go_wp2_with fail
           refine (HI3.out).mono ?_
           rintro e w9 ⟨rfl, hb9⟩
           replace C := Hd (C.out.below hb9)
           go_wp2_with fail
           refine (G.assign C.out.ps hn hb1.out).mono ?_
           rintro e w10 ⟨ao10, cap10, rfl, hn10, h10, k10⟩
           replace C := Hd (C.out.ret hn10 h10 k10)
           unfold ndV
           go_wp2_with (refine wpList_snoc C.out (.head _) (by simp) rfl rfl rfl rfl rfl ?_; intro m7 ao7 cap7 w11 hm7 C7)
           replace C := Hd C7
           clear C7
           go_wp2_with fail
           refine (rNeed_any C.out.ps (⟨#[93]⟩ : ByteArray)).mono ?_
           rintro e w15 ⟨rfl, h15, k15⟩
           replace C := Hd (C.out.call h15 k15)
           obtain ⟨q0, q1, q2, q3, q4, qf⟩ := nd_cells (C.out.var (i := 1) rfl)
           go_wp2_with fail
           refine (rMake_any C.out.ps (⟨#[97,114,114,97,121]⟩ : ByteArray) ⟨#[]⟩ d.from_ _ _ _).mono ?_
           rintro e w16 ⟨rfl, hb16⟩
           replace C := Hd (C.out.made hb16 (by simp) (⟨#[97,114,114,97,121]⟩ : ByteArray) ⟨#[]⟩ d.from_)
           have hcc := C.out.var (i := 0) rfl
           go_wp2_with (refine stN rfl rfl rfl rfl hcc rfl rfl (by simp [Value.oneCell']) ?_)
           refine retN rfl rfl rfl (setRow_heap _ _ _ _ _ _ hcc) rfl ?_
           obtain rfl := hm7.out
           exact ⟨_, _, rfl, (C.out.set (i := 0) rfl rfl _).outF (.head _)⟩
      ·rw [if_neg hz] at hq2
       have hm0 : (0 : Int) < (m : Int) := by have := hm.out; omega
       replace hq2 := Hd hq2
       go_wp2_with fail
       go_roundg gk
       case measure => omega
       case rel => exact ⟨_, C, hq2⟩
end Go.Proofs.YtllbbacnakoomaaGreatDoor
namespace Go.Proofs.YtllbbacnakoomaaGreatDoor
open Go.RowKit
set_option linter.unusedVariables false
structure RowIn (w : World) (rb : Nat) (G : Nat → Prop) (ks : List T) (v : Value) : Prop where
 own : ∃ css, Own w 0 50 5 v css ∧ Reps w G ks css
 nrb : ¬ G rb ∧ v.ownBlock ≠ some rb
 apart : ∀ k, G k → v.ownBlock ≠ some k
def RowRet (L : List Ct) (ta : Option Addr) (tc rb : Nat) (G : Nat → Prop) (v0 : Value) (w : World) (ks : List T) (s : Ps) (e : Ending) (w' : World) : Prop :=
 ∃ m ao cap, e = .returned (.slice ao m cap) ∧ Hid (ks.length = m) ∧ Hid (m ≤ 100000) ∧ PS L ta tc rb s w' ∧ Grown2 w w' rb v0.ownBlock ∧ RowIn w' rb (fun k => (G k ∨ w.heap.size ≤ k) ∧ (Value.slice ao m cap).ownBlock ≠ some k) ks (.slice ao m cap) ∧ Hid (∀ k, (Value.slice ao m cap).ownBlock = some k → w.heap.size ≤ k ∨ v0.ownBlock = some k)
section
variable {L : List Ct} {ta : Option Addr} {tc rb : Nat} {F : Nat → Prop} {O0 : Option Nat} {w0 : World} {s s' : Ps} {ns : List Nd} {vs : List (Nat × Obj)} {ks ks' : List T} {v v' : Value} {w w' : World}
theorem Cx.startK {G : Nat → Prop} (h : PS L ta tc rb s w) (hk : RowIn w rb G ks v) : Cx L ta tc rb (fun k => G k ∧ k < w.heap.size) v.ownBlock w s [] [] ks v w := by
 obtain ⟨css, h1, h2⟩ := hk.own
 refine ⟨h, ⟨rfl, rfl, rfl, Nat.le_refl _, fun _ _ _ _ => rfl, fun _ _ _ h => h⟩, fun k hk' => ⟨by rintro rfl; exact hk.nrb.1 hk'.1, hk'.2⟩, h.lt, h.tlt, by simp, by simp, ⟨css, h1, h2.wide fun k hk' hl => ⟨.inl ⟨hk', hl⟩, by simp, hk.apart k hk'⟩⟩, fun k hk' => ⟨by rintro rfl; exact hk.nrb.2 hk', .inr hk'⟩, by simp, by simp⟩
theorem Cx.rowIn (C : Cx L ta tc rb F O0 w0 s ns vs ks v w) : RowIn w rb (Ft F w0.heap.size vs v.ownBlock) ks v :=
 ⟨C.own, ⟨C.nrb, fun e => (C.olo rb e).1 rfl⟩, fun k hk => hk.2.2⟩
theorem Cx.rowOut {G : Nat → Prop} {v0 : Value} {m cap : Nat} {ao : Option Addr} (C : Cx L ta tc rb (fun k => G k ∧ k < w0.heap.size) v0.ownBlock w0 s ns vs ks (.slice ao m cap) w) (h1 : Hid (ks.length = m)) (h2 : Hid (m ≤ 100000)) : RowRet L ta tc rb G v0 w0 ks s (.returned (.slice ao m cap)) w := by
 obtain ⟨css, k1, k2⟩ := C.own
 refine ⟨m, ao, cap, rfl, h1, h2, C.ps, C.kp, ⟨⟨css, k1, k2.wide fun k hk _ => ⟨hk.1.imp (fun h => h.1) id, hk.2.2⟩⟩, ⟨?_, fun e => (C.olo rb e).1 rfl⟩, fun k hk => hk.2⟩, Hd fun k hk => (C.olo k hk).2⟩
 rintro ⟨h | h, h3⟩
 ·by_cases hl : rb < w0.heap.size
  ·exact (C.fr rb ⟨h, hl⟩).1 rfl
  ·exact hl C.rb0
 ·have := C.rb0; omega
theorem Cx.retR (C : Cx L ta tc rb F O0 w0 s ns vs ks v w) (h : PS L ta tc rb s' w') (hg : Grown2 w w' rb v.ownBlock) (hk : RowIn w' rb (fun k => (Ft F w0.heap.size vs v.ownBlock k ∨ w.heap.size ≤ k) ∧ v'.ownBlock ≠ some k) ks' v') (ho : ∀ k, v'.ownBlock = some k → w.heap.size ≤ k ∨ v.ownBlock = some k) : Cx L ta tc rb F O0 w0 s' ns vs ks' v' w' := by
 have hvs : ∀ x ∈ vs, x.1 < w.heap.size := fun x hx => lt_of_block (C.vok x hx).1
 have hne : ∀ k, Ft F w0.heap.size vs v.ownBlock k → k ≠ rb := fun k hkk => by rintro rfl; exact C.nrb hkk
 have hvo : ∀ x ∈ vs, v'.ownBlock ≠ some x.1 := fun x hx e => by
  rcases ho _ e with h | h
  ·have := hvs x hx; omega
  ·exact C.ovs x hx h
 have hap : ∀ k, Ft F w0.heap.size vs v.ownBlock k → k < w.heap.size → v'.ownBlock ≠ some k := fun k hk hl e => by
  rcases ho _ e with h | h
  ·omega
  ·exact hk.2.2 h
 obtain ⟨css, k1, k2⟩ := hk.own
 refine ⟨h, ⟨hg.os.trans C.kp.os, hg.tape.trans C.kp.tape, hg.output.trans C.kp.output, Nat.le_trans C.kp.size hg.size, fun k a b c => (hg.block k (Nat.lt_of_lt_of_le a C.kp.size) b (fun e => by
  rcases (C.olo k e).2 with h | h
  ·omega
  ·exact c h)).trans (C.kp.block k a b c), fun b y fz hy => hg.env b y fz (C.kp.env b y fz hy)⟩, C.fr, C.rb0, C.tlo, fun x hx => ?_, C.vnd, ⟨css, k1, k2.wide fun k hk _ => ?_⟩, fun k e => ⟨by rintro rfl; exact hk.nrb.2 e, ?_⟩, hvo, fun x hx => ?_⟩
 ·obtain ⟨a, b⟩ := C.vok x hx
  exact ⟨(hg.block _ (lt_of_block a) b.1 (C.ovs x hx)).trans a, b⟩
 ·rcases hk.1 with h | h
  ·exact ⟨h.1, h.2.1, hk.2⟩
  ·exact ⟨.inr (Nat.le_trans C.kp.size h), fun x hx e => by have := hvs x hx; omega, hk.2⟩
 ·rcases ho k e with h | h
  ·exact .inl (Nat.le_trans C.kp.size h)
  ·exact (C.olo k h).2
 ·exact (((C.nok x hx).wide (G := fun k => Ft F w0.heap.size vs v.ownBlock k ∧ k < w.heap.size) fun k h1 h2 => ⟨h1, h2⟩).later (fun i hi hl => hg.block i hl (hne i hi.1) hi.1.2.2)).wide fun k hk _ => ⟨hk.1.1, hk.1.2.1, hap k hk.1 hk.2⟩
end
theorem ids_any {L : List Ct} {ta : Option Addr} {tc rb : Nat} {w : World} {s : Ps} {ks : List T} {ao : Option Addr} {m0 cap : Nat} {n : List T} {s' : Ps} {H : Nat → Prop} (h : PS L ta tc rb s w) (hk : RowIn w rb H ks (.slice ao m0 cap)) (hm0 : ks.length = m0) (hm1 : m0 ≤ 6000) (hr : idLoop L KK ks s = some (n, s')) :
 Calls Tryz.prog 215 #[.pointer (some ⟨rb, 0, none⟩), .slice ao m0 cap] w (RowRet L ta tc rb H (.slice ao m0 cap) w n s') := by
 have C := Hd (Cx.startK h hk)
 have hlt := h.lt
 obtain ⟨O, hO⟩ : ∃ O, O = (Value.slice ao m0 cap).ownBlock := ⟨_, rfl⟩
 rw [← hO] at C
 replace hO := Hd hO
 replace hr := Hd hr
 replace hm0 := Hd hm0
 go_enter Tryz.func215, Tryz.ntmps215
 go_wp2_with fail
 refine wp_scope_gh 0 (fun q a' wx => ∃ (k : List T) (z : Ps) (m : Nat) (ao3 : Option Addr) (cap3 : Nat) (u2 u3 u5 u6 u7 u8 u9 u10 u11 u12 u13 u14 u15 u16 u17 u18 : Value), a' = { tmps := #[.pointer (some ⟨rb, 0, none⟩), .slice ao3 m cap3, u2, u3, .slice none 0 0, u5, u6, u7, u8, u9, u10, u11, u12, u13, u14, u15, u16, u17, u18], defers := [] } ∧ Hid (k.length = m) ∧ Hid (m + q ≤ 20000) ∧ Hid (Cx L ta tc rb (fun k => H k ∧ k < w.heap.size) O w z [] [] k (.slice ao3 m cap3) wx) ∧ Hid (idLoop L q k z = some (n, s'))) rfl ?_ ?_
 ·intro Rst
  go_wp2_with fail
  go_step3
  go_step
  go_step
  exact Rst.out KK _ _ ⟨_, _, _, _, _, _, _, _, _, _, _, _, _, _, _, _, _, _, _, _, _, rfl, hm0, Hd (by unfold KK; omega), C, hr⟩
 ·rintro q a' wx ⟨k, z, m, ao3, cap3, u2, u3, u5, u6, u7, u8, u9, u10, u11, u12, u13, u14, u15, u16, u17, u18, rfl, hm, hq, C0, hL⟩
  have Cx := C
  clear Cx C hr hk
  have C := C0
  clear C0
  cases q with
  | zero => exact absurd hL.out (by simp [idLoop])
  | succ q =>
    have hL2 := hL.out
    unfold idLoop at hL2
    obtain ⟨z1, hz1⟩ : ∃ z1, z1 = if typedP z.env (tokP L z.at_) then z.fail else z := ⟨_, rfl⟩
    rw [← hz1] at hL2
    obtain ⟨t, ht⟩ : ∃ t, t = tokP L z.at_ := ⟨_, rfl⟩
    rw [← ht] at hz1
    have HT := Hd (tok_any C.out.ps)
    rw [← ht] at HT
    unfold ctV at HT
    replace ht := Hd ht
    go_wp2_with fail
    refine (HT.out).mono ?_
    rintro e w4 ⟨rfl, hb4⟩
    replace C := Hd (C.out.below hb4)
    clear HT
    have HY := Hd (typed_any C.out.ps t)
    unfold ctV at HY
    cases hy : typedP z.env t with
    | true =>
      rw [hy] at HY hz1
      simp only [if_true] at hz1
      rw [hz1] at hL2
      clear hz1
      go_wp2_with fail
      refine (HY.out).mono ?_
      rintro e w5 ⟨rfl, hb5⟩
      replace C := Hd (C.out.below hb5)
      go_wp2_with fail
      refine (rFail_any C.out.ps).mono ?_
      rintro e w6 ⟨rfl, h6, k6⟩
      replace C := Hd (C.out.call h6 k6)
      obtain ⟨x, hx⟩ : ∃ x, x = (identP L (z.fail) (⟨#[105,100]⟩ : ByteArray)).1 := ⟨_, rfl⟩
      obtain ⟨z2, hz2⟩ : ∃ z2, z2 = (identP L (z.fail) (⟨#[105,100]⟩ : ByteArray)).2 := ⟨_, rfl⟩
      have HI := Hd (rIdent_any C.out.ps (⟨#[105,100]⟩ : ByteArray))
      rw [← hx, ← hz2] at HI
      rw [← hx, ← hz2] at hL2
      have hxk : x.kids = [] := by rw [hx]; unfold identP; split <;> rfl
      obtain ⟨xk, xt, xf, xo, rfl⟩ : ∃ k t f o, x = .mk k t f o [] := by
       cases x with
       | mk k t f o ks =>
         simp only [T.kids] at hxk
         subst hxk
         exact ⟨_, _, _, _, rfl⟩
      clear hxk
      replace hx := Hd hx
      replace hz2 := Hd hz2
      unfold lfV at HI
      go_wp2_with fail
      refine (HI.out).mono ?_
      rintro e w7 ⟨rfl, h7, k7⟩
      replace C := Hd (C.out.call h7 k7)
      clear HI
      replace C := Hd (C.out.leaf xk xt xf xo)
      go_wp2_with (refine wpList_snoc C.out (.head _) (by have := hm.out; have := hq.out; omega) rfl rfl rfl rfl rfl ?_; intro m8 ao8 cap8 w8 hm8 C8)
      replace C := Hd C8
      clear C8
      have hq8 : Hid (m8 + q ≤ 20000) := Hd (by have h1 := hm8.out; have := hm.out; have := hq.out; simp at h1; omega)
      cases p2 : hasP L z2 (⟨#[44]⟩ : ByteArray) with
      | true =>
        rw [p2, if_pos rfl] at hL2
        replace hL2 := Hd hL2
        have HH := Hd (rHas_any C.out.ps (⟨#[44]⟩ : ByteArray))
        rw [p2, if_pos rfl] at HH
        refine HH.out.mono ?_
        rintro e w9 ⟨rfl, h9, k9⟩
        replace C := Hd (C.out.call h9 k9)
        go_wp2_with fail
        go_step3
        exact ⟨rfl, q, Nat.lt_succ_self _, _, _, _, _, _, _, _, _, _, _, _, _, _, _, _, _, _, _, _, _, _, rfl, hm8, hq8, Hd (C.out.weak (by simp) (List.Sublist.refl _)), hL2⟩
      | false =>
        rw [p2, if_neg (by simp)] at hL2
        obtain ⟨rfl, rfl⟩ := Prod.mk.inj (Option.some.inj hL2)
        have HH := Hd (rHas_any C.out.ps (⟨#[44]⟩ : ByteArray))
        rw [p2, if_neg (by simp)] at HH
        refine HH.out.mono ?_
        rintro e w9 ⟨rfl, h9, k9⟩
        replace C := Hd (C.out.call h9 k9)
        go_wp2_with fail
        try simp only [Exit.jump]
        go_ret
        rw [hO.out] at C
        exact C.out.rowOut hm8 (Hd (by have := hq8.out; omega))
    | false =>
      rw [hy] at HY hz1
      simp only [Bool.false_eq_true, if_false] at hz1
      rw [hz1] at hL2
      clear hz1
      go_wp2_with fail
      refine (HY.out).mono ?_
      rintro e w5 ⟨rfl, hb5⟩
      replace C := Hd (C.out.below hb5)
      obtain ⟨x, hx⟩ : ∃ x, x = (identP L (z) (⟨#[105,100]⟩ : ByteArray)).1 := ⟨_, rfl⟩
      obtain ⟨z2, hz2⟩ : ∃ z2, z2 = (identP L (z) (⟨#[105,100]⟩ : ByteArray)).2 := ⟨_, rfl⟩
      have HI := Hd (rIdent_any C.out.ps (⟨#[105,100]⟩ : ByteArray))
      rw [← hx, ← hz2] at HI
      rw [← hx, ← hz2] at hL2
      have hxk : x.kids = [] := by rw [hx]; unfold identP; split <;> rfl
      obtain ⟨xk, xt, xf, xo, rfl⟩ : ∃ k t f o, x = .mk k t f o [] := by
       cases x with
       | mk k t f o ks =>
         simp only [T.kids] at hxk
         subst hxk
         exact ⟨_, _, _, _, rfl⟩
      clear hxk
      replace hx := Hd hx
      replace hz2 := Hd hz2
      unfold lfV at HI
      go_wp2_with fail
      refine (HI.out).mono ?_
      rintro e w7 ⟨rfl, h7, k7⟩
      replace C := Hd (C.out.call h7 k7)
      clear HI
      replace C := Hd (C.out.leaf xk xt xf xo)
      go_wp2_with (refine wpList_snoc C.out (.head _) (by have := hm.out; have := hq.out; omega) rfl rfl rfl rfl rfl ?_; intro m8 ao8 cap8 w8 hm8 C8)
      replace C := Hd C8
      clear C8
      have hq8 : Hid (m8 + q ≤ 20000) := Hd (by have h1 := hm8.out; have := hm.out; have := hq.out; simp at h1; omega)
      cases p2 : hasP L z2 (⟨#[44]⟩ : ByteArray) with
      | true =>
        rw [p2, if_pos rfl] at hL2
        replace hL2 := Hd hL2
        have HH := Hd (rHas_any C.out.ps (⟨#[44]⟩ : ByteArray))
        rw [p2, if_pos rfl] at HH
        refine HH.out.mono ?_
        rintro e w9 ⟨rfl, h9, k9⟩
        replace C := Hd (C.out.call h9 k9)
        go_wp2_with fail
        go_step3
        exact ⟨rfl, q, Nat.lt_succ_self _, _, _, _, _, _, _, _, _, _, _, _, _, _, _, _, _, _, _, _, _, _, rfl, hm8, hq8, Hd (C.out.weak (by simp) (List.Sublist.refl _)), hL2⟩
      | false =>
        rw [p2, if_neg (by simp)] at hL2
        obtain ⟨rfl, rfl⟩ := Prod.mk.inj (Option.some.inj hL2)
        have HH := Hd (rHas_any C.out.ps (⟨#[44]⟩ : ByteArray))
        rw [p2, if_neg (by simp)] at HH
        refine HH.out.mono ?_
        rintro e w9 ⟨rfl, h9, k9⟩
        replace C := Hd (C.out.call h9 k9)
        go_wp2_with fail
        try simp only [Exit.jump]
        go_ret
        rw [hO.out] at C
        exact C.out.rowOut hm8 (Hd (by have := hq8.out; omega))
end Go.Proofs.YtllbbacnakoomaaGreatDoor
namespace Go.Proofs.YtllbbacnakoomaaGreatDoor
open Go.RowKit
set_option linter.unusedVariables false
theorem mk_decl (k t : ByteArray) (f : Int) (s : Ps) (x : ByteArray) (i : Bool) (ks : List T) : mkP k t f (s.declare x i) ks = mkP k t f s ks := by
 unfold mkP Ps.declare
 split <;> rfl
theorem typedParams_any {L : List Ct} {ta : Option Addr} {tc rb : Nat} {R : Rec} (G : Good L ta tc rb R) {w : World} {s : Ps} {ks : List T} {ao : Option Addr} {m0 cap nest : Nat} {n : List T} {s' : Ps} {H : Nat → Prop} (h : PS L ta tc rb s w) (hk : RowIn w rb H ks (.slice ao m0 cap)) (hm0 : ks.length = m0) (hm1 : m0 ≤ 6000) (hn : nest ≤ 1000) (hr : paramLoop L R nest KK ks s = some (n, s')) :
 Calls Tryz.prog 214 #[.pointer (some ⟨rb, 0, none⟩), .slice ao m0 cap, .int .i64 nest] w (RowRet L ta tc rb H (.slice ao m0 cap) w n s') := by
 have C := Hd (Cx.startK h hk)
 have hlt := h.lt
 obtain ⟨O, hO⟩ : ∃ O, O = (Value.slice ao m0 cap).ownBlock := ⟨_, rfl⟩
 rw [← hO] at C
 replace hO := Hd hO
 replace hr := Hd hr
 replace hm0 := Hd hm0
 go_enter Tryz.func214, Tryz.ntmps214
 go_wp2_with fail
 refine wp_scope_gh 0 (fun q a' wx => ∃ (k : List T) (z : Ps) (m : Nat) (ao3 : Option Addr) (cap3 : Nat) (u3 u4 u5 u7 u8 u9 u10 u11 u12 u13 u14 u15 u16 u17 u18 u19 u20 u21 u22 u23 u24 u25 u26 u27 u28 u29 u30 u31 u32 u33 u34 u35 u36 u37 u38 u39 u40 u41 u42 u43 u44 u45 u46 u47 u48 u49 : Value), a' = { tmps := #[.pointer (some ⟨rb, 0, none⟩), .slice ao3 m cap3, .int .i64 nest, u3, u4, u5, .slice none 0 0, u7, u8, u9, u10, u11, u12, u13, u14, u15, u16, u17, u18, u19, u20, u21, u22, u23, u24, u25, u26, u27, u28, u29, u30, u31, u32, u33, u34, u35, u36, u37, u38, u39, u40, u41, u42, u43, u44, u45, u46, u47, u48, u49], defers := [] } ∧ Hid (k.length = m) ∧ Hid (m + q ≤ 20000) ∧ Hid (Cx L ta tc rb (fun k => H k ∧ k < w.heap.size) O w z [] [] k (.slice ao3 m cap3) wx) ∧ Hid (paramLoop L R nest q k z = some (n, s'))) rfl ?_ ?_
 ·intro Rst
  go_wp2_with fail
  go_step3
  go_step
  go_step
  exact Rst.out KK _ _ ⟨_, _, _, _, _, _, _, _, _, _, _, _, _, _, _, _, _, _, _, _, _, _, _, _, _, _, _, _, _, _, _, _, _, _, _, _, _, _, _, _, _, _, _, _, _, _, _, _, _, _, _, rfl, hm0, Hd (by unfold KK; omega), C, hr⟩
 ·rintro q a' wx ⟨k, z, m, ao3, cap3, u3, u4, u5, u7, u8, u9, u10, u11, u12, u13, u14, u15, u16, u17, u18, u19, u20, u21, u22, u23, u24, u25, u26, u27, u28, u29, u30, u31, u32, u33, u34, u35, u36, u37, u38, u39, u40, u41, u42, u43, u44, u45, u46, u47, u48, u49, rfl, hm, hq, C0, hL⟩
  have Cx := C
  clear Cx C hr hk
  have C := C0
  clear C0
  cases q with
  | zero => exact absurd hL.out (by simp [paramLoop])
  | succ q =>
    have hL2 := hL.out
    unfold paramLoop at hL2
    obtain ⟨⟨sp, z1⟩, hs1, hs2⟩ := Option.bind_eq_some_iff.1 hL2
    simp only at hs2
    replace hs1 := Hd hs1
    replace hs2 := Hd hs2
    clear hL2
    have hL2 := hs2.out
    clear hs2
    obtain ⟨⟨d, z2⟩, hd1, hL3⟩ := Option.bind_eq_some_iff.1 hL2
    simp only at hL3
    clear hL2
    have hd1 := Hd hd1
    obtain ⟨z3, hz3⟩ : ∃ z3, z3 = z2.declare (nameT d) false := ⟨_, rfl⟩
    rw [← hz3] at hL3
    have hmk : mkP (⟨#[112,97,114,97,109]⟩ : ByteArray) eB z.at_ z2 [sp, d] = mkP (⟨#[112,97,114,97,109]⟩ : ByteArray) ⟨#[]⟩ z.at_ z3 [sp, d] := by rw [hz3, mk_decl]; rfl
    rw [hmk] at hL3
    clear hmk
    replace hz3 := Hd hz3
    try clear c0 c1 c2 c3 cf
    obtain ⟨p4, he4, c0, c1, c2, c3, cf⟩ := C.out.ps.cells
    clear he4
    go_wp2_with fail
    refine (rSpecs_any G C.out.ps hn hs1.out).mono ?_
    rintro e w5 ⟨ao5, cap5, rfl, hn5, h5, k5⟩
    replace C := Hd (C.out.ret hn5 h5 k5)
    unfold ndV
    clear c0 c1 c2 c3 cf
    replace C := Hd (C.out.alloc (bxO sp ao5 cap5) (a := w5.heap.size) rfl)
    have HD2 := Hd (G.declr C.out.ps hn (by omega) hd1.out)
    go_wp2_with fail
    refine (HD2.out).mono ?_
    rintro e w6 ⟨ao6, cap6, rfl, hn6, h6, k6⟩
    replace C := Hd (C.out.ret hn6 h6 k6)
    unfold ndV
    replace C := Hd (C.out.alloc (bxO d ao6 cap6) (a := w6.heap.size) rfl)
    obtain ⟨b0, b1, b2, b3, b4, bf⟩ := nd_cells (C.out.var (i := 0) rfl)
    have HN := Hd (name_any (C.out.nok _ (.head _)))
    unfold ndV at HN
    go_wp2_with fail
    refine (HN.out).mono ?_
    rintro e w7 ⟨rfl, hb7⟩
    replace C := Hd (C.out.below hb7)
    clear HN b0 b1 b2 b3 b4 bf
    have HE := Hd (rDeclare_any C.out.ps (nameT d) false)
    rw [← hz3.out] at HE
    go_wp2_with fail
    refine (HE.out).mono ?_
    rintro e w8 ⟨rfl, h8, k8⟩
    replace C := Hd (C.out.call h8 k8)
    clear HE
    obtain ⟨b0, b1, b2, b3, b4, bf⟩ := nd_cells (C.out.var (i := 0) rfl)
    obtain ⟨q0, q1, q2, q3, q4, qf⟩ := nd_cells (C.out.var (i := 1) rfl)
    have C2 := Hd (C.out.litN [⟨sp, ao5, cap5⟩, ⟨d, ao6, cap6⟩] (by simp) (by simp) rfl (a := w8.heap.size) rfl (n := 2) rfl (⟨#[112,97,114,97,109]⟩ : ByteArray) ⟨#[]⟩ z.at_)
    go_wp2_with fail
    refine (rMake_any (C.out.below ((Below.refl _ _).alloc (Nat.le_refl _) _)).ps (⟨#[112,97,114,97,109]⟩ : ByteArray) ⟨#[]⟩ z.at_ _ _ _).mono ?_
    rintro e w9 ⟨rfl, hb9⟩
    replace C := Hd (C2.out.below hb9)
    clear C2
    clear b0 b1 b2 b3 b4 bf q0 q1 q2 q3 q4 qf
    go_wp2_with (refine wpList_snoc C.out (.head _) (by have := hm.out; have := hq.out; omega) rfl rfl rfl rfl rfl ?_; intro m8 ao8 cap8 w10 hm8 C8)
    replace C := Hd C8
    clear C8
    have hq8 : Hid (m8 + q ≤ 20000) := Hd (by have h1 := hm8.out; have := hm.out; have := hq.out; simp at h1; omega)
    have HH := Hd (rHas_any C.out.ps (⟨#[44]⟩ : ByteArray))
    cases p2 : hasP L z3 (⟨#[44]⟩ : ByteArray) with
    | false =>
      rw [p2, if_neg (by simp)] at hL3 HH
      obtain ⟨rfl, rfl⟩ := Prod.mk.inj (Option.some.inj hL3)
      refine HH.out.mono ?_
      rintro e w11 ⟨rfl, h11, k11⟩
      replace C := Hd (C.out.call h11 k11)
      go_wp2_with fail
      try simp only [Exit.jump]
      go_ret
      rw [hO.out] at C
      exact C.out.rowOut hm8 (Hd (by have := hq8.out; omega))
    | true =>
      rw [p2, if_pos rfl] at hL3 HH
      refine HH.out.mono ?_
      rintro e w11 ⟨rfl, h11, k11⟩
      replace C := Hd (C.out.call h11 k11)
      try clear c0 c1 c2 c3 cf
      obtain ⟨p4, he4, c0, c1, c2, c3, cf⟩ := C.out.ps.cells
      clear he4
      cases p3 : hasP L (z3.up 1) (⟨#[46,46,46]⟩ : ByteArray) with
      | false =>
        rw [p3, if_neg (by simp)] at hL3
        replace hL3 := Hd hL3
        have HH := Hd (rHas_any C.out.ps (⟨#[46,46,46]⟩ : ByteArray))
        rw [p3, if_neg (by simp)] at HH
        go_wp2_with fail
        refine (HH.out).mono ?_
        rintro e w12 ⟨rfl, h12, k12⟩
        replace C := Hd (C.out.call h12 k12)
        clear HH
        clear c0 c1 c2 c3 cf
        go_wp2_with fail
        go_step3
        exact ⟨rfl, q, Nat.lt_succ_self _, _, _, _, _, _, _, _, _, _, _, _, _, _, _, _, _, _, _, _, _, _, _, _, _, _, _, _, _, _, _, _, _, _, _, _, _, _, _, _, _, _, _, _, _, _, _, _, _, _, _, _, rfl, hm8, hq8, Hd (C.out.weak (by simp) (List.nil_sublist _)), hL3⟩
      | true =>
        rw [p3, if_pos rfl] at hL3
        obtain ⟨rfl, rfl⟩ := Prod.mk.inj (Option.some.inj hL3)
        have HH := Hd (rHas_any C.out.ps (⟨#[46,46,46]⟩ : ByteArray))
        rw [p3, if_pos rfl] at HH
        go_wp2_with fail
        refine (HH.out).mono ?_
        rintro e w12 ⟨rfl, h12, k12⟩
        replace C := Hd (C.out.call h12 k12)
        clear HH
        clear c0 c1 c2 c3 cf
        go_wp2_with fail
        refine (rMake_any C.out.ps (⟨#[100,111,116,115]⟩ : ByteArray) ⟨#[]⟩ (z3.up 1).at_ _ _ _).mono ?_
        rintro e w13 ⟨rfl, hb13⟩
        replace C := Hd ((C.out.below hb13).leaf (⟨#[100,111,116,115]⟩ : ByteArray) eB (z3.up 1).at_ ((z3.up 1).up 1).at_)
        go_wp2_with (refine wpList_snoc C.out (.head _) (by have h1 := hm8.out; have := hq8.out; omega) rfl rfl rfl rfl rfl ?_; intro m9 ao9 cap9 w14 hm9 C9)
        replace C := Hd C9
        clear C9
        try simp only [Exit.jump]
        go_ret
        rw [hO.out] at C
        have h9 := C.out.rowOut hm9 (Hd (by have h1 := hm9.out; have h2 := hm8.out; have := hq8.out; rw [List.length_append] at h1; simp at h1 h2; omega))
        rw [List.append_assoc, List.singleton_append] at h9
        exact h9
end Go.Proofs.YtllbbacnakoomaaGreatDoor
