/- Texts of this seat's proofs, laid into one file. -/
import Derived.Test.YtllbbacnakoomaaGreatDoorS29
set_option maxRecDepth 100000
set_option maxHeartbeats 16000000
namespace Go.Proofs.YtllbbacnakoomaaGreatDoor
open Go.RowKit
set_option linter.unusedVariables false
theorem params_any {L : List Ct} {ta : Option Addr} {tc rb : Nat} {R : Rec} (G : Good L ta tc rb R) {w : World} {s : Ps} {d : T} {ao : Option Addr} {cap nest mode : Nat} {n : T} {s' : Ps} {H : Nat → Prop} (h : PS L ta tc rb s w) (hH : ¬ H rb) (hf : Rep w H d (ndC d ao cap)) (hn : nest ≤ 1000) (hmo : mode ≤ 2) (hr : paramsF L R d nest mode s = some (n, s')) :
 Calls Tryz.prog 190 #[.pointer (some ⟨rb, 0, none⟩), ndV d ao cap, .int .i64 nest, .int .i64 mode] w (NdRetF L ta tc rb H w n s') := by
 have C := Hd (((Cx.startN h hH (ns := [⟨d, ao, cap⟩]) (by intro x hx; simp at hx; subst hx; exact hf)).alloc (bxO d ao cap) (a := w.heap.size) rfl).alloc nzO (a := w.heap.size + 1) (by simp) |>.lit [⟨d, ao, cap⟩] (by simp) (by simp) rfl (a := w.heap.size + 2) (by simp) (n := 1) rfl)
 have hlt := h.lt
 unfold paramsF at hr
 unfold ndV
 obtain ⟨⟨kl, s2⟩, hr1, hr2⟩ := Option.bind_eq_some_iff.1 hr
 simp only at hr2
 replace hr1 := Hd hr1
 replace hr2 := Hd hr2
 clear hr
 obtain ⟨rfl, rfl⟩ := Prod.mk.inj (Option.some.inj hr2.out)
 clear hr2
 obtain ⟨p, he, d0, d1, d2, d3, df⟩ := h.cells
 obtain ⟨s1, hs1⟩ : ∃ s1, s1 = s.into (.push s.env) := ⟨_, rfl⟩
 rw [← hs1] at hr1
 have HPu := Hd (push_any (C.out.env he))
 have d2' : (((w.alloc (bxO d ao cap)).alloc nzO).alloc (bxO d ao cap)).cell? ⟨rb, 2, none⟩ = some (.pointer p) := by
  have b1 : Below w.heap.size w (((w.alloc (bxO d ao cap)).alloc nzO).alloc (bxO d ao cap)) := (((Below.refl _ w).alloc (Nat.le_refl _) _).alloc (by simp) _).alloc (by simp; omega) _
  exact kept_cell b1 d2
 replace he := Hd he
 go_enter Tryz.func190, Tryz.ntmps190
 go_wp2_with fail
 refine HPu.out.mono ?_
 rintro e w1 ⟨⟨q, rfl, hq⟩, hb1⟩
 replace C := Hd (C.out.below hb1)
 clear d0 d1 d2 d3 df HPu d2'
 try clear c0 c1 c2 c3 cf
 obtain ⟨p4, he4, c0, c1, c2, c3, cf⟩ := C.out.ps.cells
 clear he4
 replace C := Hd (C.out.into hq)
 rw [← hs1] at C
 replace hs1 := Hd hs1
 clear hq
 obtain ⟨t, ht⟩ : ∃ t, t = tokP L s1.at_ := ⟨_, rfl⟩
 have HT := Hd (tok_any C.out.ps)
 rw [← ht] at HT
 unfold ctV at HT
 replace ht := Hd ht
 go_wp2_with fail
 refine (HT.out).mono ?_
 rintro e w2 ⟨rfl, hb2⟩
 replace C := Hd (C.out.below hb2)
 clear HT c0 c1 c2 c3 cf
 replace C := Hd (C.out.alloc (ctO t) (a := w2.heap.size) rfl)
 have hr := hr1.out
 unfold paramsIn at hr
 have HI := Hd (rIs_any C.out.ps (⟨#[41]⟩ : ByteArray))
 cases p1 : isP L s1 (⟨#[41]⟩ : ByteArray) with
 | true =>
   rw [p1, if_pos rfl] at hr
   rw [p1] at HI
   obtain ⟨rfl, rfl⟩ := Prod.mk.inj (Option.some.inj hr)
   go_wp2_with fail
   refine (HI.out).mono ?_
   rintro e w3 ⟨rfl, hb3⟩
   replace C := Hd (C.out.below hb3)
   go_wp2_with fail
   refine (rNeed_any C.out.ps (⟨#[41]⟩ : ByteArray)).mono ?_
   rintro e w30 ⟨rfl, h30, k30⟩
   replace C := Hd (C.out.call h30 k30)
   try clear c0 c1 c2 c3 cf
   obtain ⟨p4, he4, c0, c1, c2, c3, cf⟩ := C.out.ps.cells
   clear he4
   have hev := C.out.env he
   replace C := Hd (C.out.into hev)
   clear hev
   obtain ⟨q0, q1, q2, q3, q4, qf⟩ := nd_cells (C.out.var (i := 2) rfl)
   go_wp2_with fail
   refine (rMake_any C.out.ps (⟨#[102,117,110,99]⟩ : ByteArray) ⟨#[]⟩ d.from_ _ _ _).mono ?_
   rintro e w31 ⟨rfl, hb31⟩
   replace C := Hd (C.out.made hb31 (by simp) (⟨#[102,117,110,99]⟩ : ByteArray) ⟨#[]⟩ d.from_)
   clear c0 c1 c2 c3 cf q0 q1 q2 q3 q4 qf
   have hcc := C.out.var (i := 1) rfl
   go_wp2_with (refine stN rfl rfl rfl rfl hcc rfl rfl (by simp [Value.oneCell']) ?_)
   refine retN rfl rfl rfl (setRow_heap _ _ _ _ _ _ hcc) rfl ?_
   skip
   exact ⟨_, _, rfl, (C.out.set (i := 1) rfl rfl _).outF (.head _)⟩
 | false =>
   rw [p1, if_neg (by simp)] at hr
   rw [p1] at HI
   go_wp2_with fail
   refine (HI.out).mono ?_
   rintro e w3 ⟨rfl, hb3⟩
   replace C := Hd (C.out.below hb3)
   have HW := Hd (rWord_any C.out.ps (⟨#[118,111,105,100]⟩ : ByteArray))
   cases p2 : wordP L s1 (⟨#[118,111,105,100]⟩ : ByteArray) with
   | true =>
     rw [p2] at HW
     go_wp2_with fail
     refine (HW.out).mono ?_
     rintro e w4 ⟨rfl, hb4⟩
     replace C := Hd (C.out.below hb4)
     have HB := Hd (rBehind_any C.out.ps (⟨#[41]⟩ : ByteArray))
     cases p3 : behP L s1 (⟨#[41]⟩ : ByteArray) with
     | true =>
       rw [if_pos ⟨p2, p3⟩] at hr
       rw [p3] at HB
       obtain ⟨rfl, rfl⟩ := Prod.mk.inj (Option.some.inj hr)
       go_wp2_with fail
       refine (HB.out).mono ?_
       rintro e w5 ⟨rfl, hb5⟩
       replace C := Hd (C.out.below hb5)
       try clear c0 c1 c2 c3 cf
       obtain ⟨p4, he4, c0, c1, c2, c3, cf⟩ := C.out.ps.cells
       clear he4
       have hin := tok_in (L := L) (i := s1.at_) (by unfold wordP at p2; simp only [Bool.and_eq_true, decide_eq_true_eq] at p2; omega)
       have hlen := C.out.ps.len
       have g2 : IntKind.i64.wrap (s1.at_ + 1) = s1.at_ + 1 := IntWalk.i64_in _ (by omega)
       replace C := Hd (C.out.up (n := 1) (by omega) hin.2.1)
       clear hin hlen
       go_wp2_with fail
       refine (rNeed_any C.out.ps (⟨#[41]⟩ : ByteArray)).mono ?_
       rintro e w30 ⟨rfl, h30, k30⟩
       replace C := Hd (C.out.call h30 k30)
       try clear c0 c1 c2 c3 cf
       obtain ⟨p4, he4, c0, c1, c2, c3, cf⟩ := C.out.ps.cells
       clear he4
       have hev := C.out.env he
       replace C := Hd (C.out.into hev)
       clear hev
       obtain ⟨q0, q1, q2, q3, q4, qf⟩ := nd_cells (C.out.var (i := 2) rfl)
       go_wp2_with fail
       refine (rMake_any C.out.ps (⟨#[102,117,110,99]⟩ : ByteArray) ⟨#[]⟩ d.from_ _ _ _).mono ?_
       rintro e w31 ⟨rfl, hb31⟩
       replace C := Hd (C.out.made hb31 (by simp) (⟨#[102,117,110,99]⟩ : ByteArray) ⟨#[]⟩ d.from_)
       clear c0 c1 c2 c3 cf q0 q1 q2 q3 q4 qf
       have hcc := C.out.var (i := 1) rfl
       go_wp2_with (refine stN rfl rfl rfl rfl hcc rfl rfl (by simp [Value.oneCell']) ?_)
       refine retN rfl rfl rfl (setRow_heap _ _ _ _ _ _ hcc) rfl ?_
       skip
       exact ⟨_, _, rfl, (C.out.set (i := 1) rfl rfl _).outF (.head _)⟩
     | false =>
       rw [if_neg (by rw [p3]; simp)] at hr
       rw [p3] at HB
       go_wp2_with fail
       refine (HB.out).mono ?_
       rintro e w5 ⟨rfl, hb5⟩
       replace C := Hd (C.out.below hb5)
       obtain ⟨x0, x1, x2, x3, x4, x5, x6, xf⟩ := ct_box (C.out.var (i := 0) rfl)
       have hst : startsP L s1 = beginsP s1.env t := by unfold startsP; rw [← ht.out]
       have HG := Hd (begins_any C.out.ps t)
       unfold ctV at HG
       rw [hst] at hr
       clear hst
       cases p4 : beginsP s1.env t with
       | true =>
         rw [p4, if_pos rfl] at hr
         rw [p4] at HG
         replace hr := Hd hr
         go_wp2_with fail
         refine (HG.out).mono ?_
         rintro e w6 ⟨rfl, hb6⟩
         replace C := Hd (C.out.below hb6)
         go_wp2_with fail
         refine (typedParams_any G C.out.ps C.out.rowIn rfl (by omega) hn hr.out).mono ?_
         rintro e w7 ⟨m7, ao7, cap7, rfl, hm7, hm8, h7, g7, r7, o7⟩
         replace C := Hd (C.out.retR h7 g7 r7 o7.out)
         clear x0 x1 x2 x3 x4 x5 x6 xf g7 r7 o7
         go_wp2_with fail
         refine (rNeed_any C.out.ps (⟨#[41]⟩ : ByteArray)).mono ?_
         rintro e w30 ⟨rfl, h30, k30⟩
         replace C := Hd (C.out.call h30 k30)
         try clear c0 c1 c2 c3 cf
         obtain ⟨p4, he4, c0, c1, c2, c3, cf⟩ := C.out.ps.cells
         clear he4
         have hev := C.out.env he
         replace C := Hd (C.out.into hev)
         clear hev
         obtain ⟨q0, q1, q2, q3, q4, qf⟩ := nd_cells (C.out.var (i := 2) rfl)
         go_wp2_with fail
         refine (rMake_any C.out.ps (⟨#[102,117,110,99]⟩ : ByteArray) ⟨#[]⟩ d.from_ _ _ _).mono ?_
         rintro e w31 ⟨rfl, hb31⟩
         replace C := Hd (C.out.made hb31 (by have := hm7.out; have := hm8.out; omega) (⟨#[102,117,110,99]⟩ : ByteArray) ⟨#[]⟩ d.from_)
         clear c0 c1 c2 c3 cf q0 q1 q2 q3 q4 qf
         have hcc := C.out.var (i := 1) rfl
         go_wp2_with (refine stN rfl rfl rfl rfl hcc rfl rfl (by simp [Value.oneCell']) ?_)
         refine retN rfl rfl rfl (setRow_heap _ _ _ _ _ _ hcc) rfl ?_
         obtain rfl := hm7.out
         exact ⟨_, _, rfl, (C.out.set (i := 1) rfl rfl _).outF (.head _)⟩
       | false =>
         rw [p4, if_neg (by simp)] at hr
         rw [p4] at HG
         go_wp2_with fail
         refine (HG.out).mono ?_
         rintro e w6 ⟨rfl, hb6⟩
         replace C := Hd (C.out.below hb6)
         clear x0 x1 x2 x3 x4 x5 x6 xf
         obtain ⟨x0, x1, x2, x3, x4, x5, x6, xf⟩ := ct_box (C.out.var (i := 0) rfl)
         rw [← ht.out] at hr
         by_cases hm0 : mode = 0
         ·have hm1 : ((mode : Int) == 0) = true := by rw [hm0]; rfl
          by_cases hk : t.kind = 1
          ·rw [if_pos ⟨hm0, hk⟩] at hr
           rw [hk] at x0
           replace hr := Hd hr
           go_wp2_with fail
           refine (ids_any C.out.ps C.out.rowIn rfl (by omega) hr.out).mono ?_
           rintro e w7 ⟨m7, ao7, cap7, rfl, hm7, hm8, h7, g7, r7, o7⟩
           replace C := Hd (C.out.retR h7 g7 r7 o7.out)
           clear x0 x1 x2 x3 x4 x5 x6 xf g7 r7 o7
           go_wp2_with fail
           refine (rNeed_any C.out.ps (⟨#[41]⟩ : ByteArray)).mono ?_
           rintro e w30 ⟨rfl, h30, k30⟩
           replace C := Hd (C.out.call h30 k30)
           try clear c0 c1 c2 c3 cf
           obtain ⟨p4, he4, c0, c1, c2, c3, cf⟩ := C.out.ps.cells
           clear he4
           have hev := C.out.env he
           replace C := Hd (C.out.into hev)
           clear hev
           obtain ⟨q0, q1, q2, q3, q4, qf⟩ := nd_cells (C.out.var (i := 2) rfl)
           go_wp2_with fail
           refine (rMake_any C.out.ps (⟨#[102,117,110,99]⟩ : ByteArray) ⟨#[]⟩ d.from_ _ _ _).mono ?_
           rintro e w31 ⟨rfl, hb31⟩
           replace C := Hd (C.out.made hb31 (by have := hm7.out; have := hm8.out; omega) (⟨#[102,117,110,99]⟩ : ByteArray) ⟨#[]⟩ d.from_)
           clear c0 c1 c2 c3 cf q0 q1 q2 q3 q4 qf
           have hcc := C.out.var (i := 1) rfl
           go_wp2_with (refine stN rfl rfl rfl rfl hcc rfl rfl (by simp [Value.oneCell']) ?_)
           refine retN rfl rfl rfl (setRow_heap _ _ _ _ _ _ hcc) rfl ?_
           obtain rfl := hm7.out
           exact ⟨_, _, rfl, (C.out.set (i := 1) rfl rfl _).outF (.head _)⟩
          ·rw [if_neg (fun e => hk e.2)] at hr
           have hk' : (t.kind == 1) = false := beq_false_of_ne hk
           obtain ⟨rfl, rfl⟩ := Prod.mk.inj (Option.some.inj hr)
           go_wp2_with fail
           refine (rFail_any C.out.ps).mono ?_
           rintro e w7 ⟨rfl, h7, k7⟩
           replace C := Hd (C.out.call h7 k7)
           clear x0 x1 x2 x3 x4 x5 x6 xf
           go_wp2_with fail
           refine (rNeed_any C.out.ps (⟨#[41]⟩ : ByteArray)).mono ?_
           rintro e w30 ⟨rfl, h30, k30⟩
           replace C := Hd (C.out.call h30 k30)
           try clear c0 c1 c2 c3 cf
           obtain ⟨p4, he4, c0, c1, c2, c3, cf⟩ := C.out.ps.cells
           clear he4
           have hev := C.out.env he
           replace C := Hd (C.out.into hev)
           clear hev
           obtain ⟨q0, q1, q2, q3, q4, qf⟩ := nd_cells (C.out.var (i := 2) rfl)
           go_wp2_with fail
           refine (rMake_any C.out.ps (⟨#[102,117,110,99]⟩ : ByteArray) ⟨#[]⟩ d.from_ _ _ _).mono ?_
           rintro e w31 ⟨rfl, hb31⟩
           replace C := Hd (C.out.made hb31 (by simp) (⟨#[102,117,110,99]⟩ : ByteArray) ⟨#[]⟩ d.from_)
           clear c0 c1 c2 c3 cf q0 q1 q2 q3 q4 qf
           have hcc := C.out.var (i := 1) rfl
           go_wp2_with (refine stN rfl rfl rfl rfl hcc rfl rfl (by simp [Value.oneCell']) ?_)
           refine retN rfl rfl rfl (setRow_heap _ _ _ _ _ _ hcc) rfl ?_
           skip
           exact ⟨_, _, rfl, (C.out.set (i := 1) rfl rfl _).outF (.head _)⟩
         ·have hm1 : ((mode : Int) == 0) = false := beq_false_of_ne (by omega)
          rw [if_neg (fun e => hm0 e.1)] at hr
          obtain ⟨rfl, rfl⟩ := Prod.mk.inj (Option.some.inj hr)
          go_wp2_with fail
          refine (rFail_any C.out.ps).mono ?_
          rintro e w7 ⟨rfl, h7, k7⟩
          replace C := Hd (C.out.call h7 k7)
          clear x0 x1 x2 x3 x4 x5 x6 xf
          go_wp2_with fail
          refine (rNeed_any C.out.ps (⟨#[41]⟩ : ByteArray)).mono ?_
          rintro e w30 ⟨rfl, h30, k30⟩
          replace C := Hd (C.out.call h30 k30)
          try clear c0 c1 c2 c3 cf
          obtain ⟨p4, he4, c0, c1, c2, c3, cf⟩ := C.out.ps.cells
          clear he4
          have hev := C.out.env he
          replace C := Hd (C.out.into hev)
          clear hev
          obtain ⟨q0, q1, q2, q3, q4, qf⟩ := nd_cells (C.out.var (i := 2) rfl)
          go_wp2_with fail
          refine (rMake_any C.out.ps (⟨#[102,117,110,99]⟩ : ByteArray) ⟨#[]⟩ d.from_ _ _ _).mono ?_
          rintro e w31 ⟨rfl, hb31⟩
          replace C := Hd (C.out.made hb31 (by simp) (⟨#[102,117,110,99]⟩ : ByteArray) ⟨#[]⟩ d.from_)
          clear c0 c1 c2 c3 cf q0 q1 q2 q3 q4 qf
          have hcc := C.out.var (i := 1) rfl
          go_wp2_with (refine stN rfl rfl rfl rfl hcc rfl rfl (by simp [Value.oneCell']) ?_)
          refine retN rfl rfl rfl (setRow_heap _ _ _ _ _ _ hcc) rfl ?_
          skip
          exact ⟨_, _, rfl, (C.out.set (i := 1) rfl rfl _).outF (.head _)⟩
   | false =>
     rw [if_neg (by rw [p2]; simp)] at hr
     rw [p2] at HW
     go_wp2_with fail
     refine (HW.out).mono ?_
     rintro e w4 ⟨rfl, hb4⟩
     replace C := Hd (C.out.below hb4)
     obtain ⟨x0, x1, x2, x3, x4, x5, x6, xf⟩ := ct_box (C.out.var (i := 0) rfl)
     have hst : startsP L s1 = beginsP s1.env t := by unfold startsP; rw [← ht.out]
     have HG := Hd (begins_any C.out.ps t)
     unfold ctV at HG
     rw [hst] at hr
     clear hst
     cases p4 : beginsP s1.env t with
     | true =>
       rw [p4, if_pos rfl] at hr
       rw [p4] at HG
       replace hr := Hd hr
       go_wp2_with fail
       refine (HG.out).mono ?_
       rintro e w6 ⟨rfl, hb6⟩
       replace C := Hd (C.out.below hb6)
       go_wp2_with fail
       refine (typedParams_any G C.out.ps C.out.rowIn rfl (by omega) hn hr.out).mono ?_
       rintro e w7 ⟨m7, ao7, cap7, rfl, hm7, hm8, h7, g7, r7, o7⟩
       replace C := Hd (C.out.retR h7 g7 r7 o7.out)
       clear x0 x1 x2 x3 x4 x5 x6 xf g7 r7 o7
       go_wp2_with fail
       refine (rNeed_any C.out.ps (⟨#[41]⟩ : ByteArray)).mono ?_
       rintro e w30 ⟨rfl, h30, k30⟩
       replace C := Hd (C.out.call h30 k30)
       try clear c0 c1 c2 c3 cf
       obtain ⟨p4, he4, c0, c1, c2, c3, cf⟩ := C.out.ps.cells
       clear he4
       have hev := C.out.env he
       replace C := Hd (C.out.into hev)
       clear hev
       obtain ⟨q0, q1, q2, q3, q4, qf⟩ := nd_cells (C.out.var (i := 2) rfl)
       go_wp2_with fail
       refine (rMake_any C.out.ps (⟨#[102,117,110,99]⟩ : ByteArray) ⟨#[]⟩ d.from_ _ _ _).mono ?_
       rintro e w31 ⟨rfl, hb31⟩
       replace C := Hd (C.out.made hb31 (by have := hm7.out; have := hm8.out; omega) (⟨#[102,117,110,99]⟩ : ByteArray) ⟨#[]⟩ d.from_)
       clear c0 c1 c2 c3 cf q0 q1 q2 q3 q4 qf
       have hcc := C.out.var (i := 1) rfl
       go_wp2_with (refine stN rfl rfl rfl rfl hcc rfl rfl (by simp [Value.oneCell']) ?_)
       refine retN rfl rfl rfl (setRow_heap _ _ _ _ _ _ hcc) rfl ?_
       obtain rfl := hm7.out
       exact ⟨_, _, rfl, (C.out.set (i := 1) rfl rfl _).outF (.head _)⟩
     | false =>
       rw [p4, if_neg (by simp)] at hr
       rw [p4] at HG
       go_wp2_with fail
       refine (HG.out).mono ?_
       rintro e w6 ⟨rfl, hb6⟩
       replace C := Hd (C.out.below hb6)
       clear x0 x1 x2 x3 x4 x5 x6 xf
       obtain ⟨x0, x1, x2, x3, x4, x5, x6, xf⟩ := ct_box (C.out.var (i := 0) rfl)
       rw [← ht.out] at hr
       by_cases hm0 : mode = 0
       ·have hm1 : ((mode : Int) == 0) = true := by rw [hm0]; rfl
        by_cases hk : t.kind = 1
        ·rw [if_pos ⟨hm0, hk⟩] at hr
         rw [hk] at x0
         replace hr := Hd hr
         go_wp2_with fail
         refine (ids_any C.out.ps C.out.rowIn rfl (by omega) hr.out).mono ?_
         rintro e w7 ⟨m7, ao7, cap7, rfl, hm7, hm8, h7, g7, r7, o7⟩
         replace C := Hd (C.out.retR h7 g7 r7 o7.out)
         clear x0 x1 x2 x3 x4 x5 x6 xf g7 r7 o7
         go_wp2_with fail
         refine (rNeed_any C.out.ps (⟨#[41]⟩ : ByteArray)).mono ?_
         rintro e w30 ⟨rfl, h30, k30⟩
         replace C := Hd (C.out.call h30 k30)
         try clear c0 c1 c2 c3 cf
         obtain ⟨p4, he4, c0, c1, c2, c3, cf⟩ := C.out.ps.cells
         clear he4
         have hev := C.out.env he
         replace C := Hd (C.out.into hev)
         clear hev
         obtain ⟨q0, q1, q2, q3, q4, qf⟩ := nd_cells (C.out.var (i := 2) rfl)
         go_wp2_with fail
         refine (rMake_any C.out.ps (⟨#[102,117,110,99]⟩ : ByteArray) ⟨#[]⟩ d.from_ _ _ _).mono ?_
         rintro e w31 ⟨rfl, hb31⟩
         replace C := Hd (C.out.made hb31 (by have := hm7.out; have := hm8.out; omega) (⟨#[102,117,110,99]⟩ : ByteArray) ⟨#[]⟩ d.from_)
         clear c0 c1 c2 c3 cf q0 q1 q2 q3 q4 qf
         have hcc := C.out.var (i := 1) rfl
         go_wp2_with (refine stN rfl rfl rfl rfl hcc rfl rfl (by simp [Value.oneCell']) ?_)
         refine retN rfl rfl rfl (setRow_heap _ _ _ _ _ _ hcc) rfl ?_
         obtain rfl := hm7.out
         exact ⟨_, _, rfl, (C.out.set (i := 1) rfl rfl _).outF (.head _)⟩
        ·rw [if_neg (fun e => hk e.2)] at hr
         have hk' : (t.kind == 1) = false := beq_false_of_ne hk
         obtain ⟨rfl, rfl⟩ := Prod.mk.inj (Option.some.inj hr)
         go_wp2_with fail
         refine (rFail_any C.out.ps).mono ?_
         rintro e w7 ⟨rfl, h7, k7⟩
         replace C := Hd (C.out.call h7 k7)
         clear x0 x1 x2 x3 x4 x5 x6 xf
         go_wp2_with fail
         refine (rNeed_any C.out.ps (⟨#[41]⟩ : ByteArray)).mono ?_
         rintro e w30 ⟨rfl, h30, k30⟩
         replace C := Hd (C.out.call h30 k30)
         try clear c0 c1 c2 c3 cf
         obtain ⟨p4, he4, c0, c1, c2, c3, cf⟩ := C.out.ps.cells
         clear he4
         have hev := C.out.env he
         replace C := Hd (C.out.into hev)
         clear hev
         obtain ⟨q0, q1, q2, q3, q4, qf⟩ := nd_cells (C.out.var (i := 2) rfl)
         go_wp2_with fail
         refine (rMake_any C.out.ps (⟨#[102,117,110,99]⟩ : ByteArray) ⟨#[]⟩ d.from_ _ _ _).mono ?_
         rintro e w31 ⟨rfl, hb31⟩
         replace C := Hd (C.out.made hb31 (by simp) (⟨#[102,117,110,99]⟩ : ByteArray) ⟨#[]⟩ d.from_)
         clear c0 c1 c2 c3 cf q0 q1 q2 q3 q4 qf
         have hcc := C.out.var (i := 1) rfl
         go_wp2_with (refine stN rfl rfl rfl rfl hcc rfl rfl (by simp [Value.oneCell']) ?_)
         refine retN rfl rfl rfl (setRow_heap _ _ _ _ _ _ hcc) rfl ?_
         skip
         exact ⟨_, _, rfl, (C.out.set (i := 1) rfl rfl _).outF (.head _)⟩
       ·have hm1 : ((mode : Int) == 0) = false := beq_false_of_ne (by omega)
        rw [if_neg (fun e => hm0 e.1)] at hr
        obtain ⟨rfl, rfl⟩ := Prod.mk.inj (Option.some.inj hr)
        go_wp2_with fail
        refine (rFail_any C.out.ps).mono ?_
        rintro e w7 ⟨rfl, h7, k7⟩
        replace C := Hd (C.out.call h7 k7)
        clear x0 x1 x2 x3 x4 x5 x6 xf
        go_wp2_with fail
        refine (rNeed_any C.out.ps (⟨#[41]⟩ : ByteArray)).mono ?_
        rintro e w30 ⟨rfl, h30, k30⟩
        replace C := Hd (C.out.call h30 k30)
        try clear c0 c1 c2 c3 cf
        obtain ⟨p4, he4, c0, c1, c2, c3, cf⟩ := C.out.ps.cells
        clear he4
        have hev := C.out.env he
        replace C := Hd (C.out.into hev)
        clear hev
        obtain ⟨q0, q1, q2, q3, q4, qf⟩ := nd_cells (C.out.var (i := 2) rfl)
        go_wp2_with fail
        refine (rMake_any C.out.ps (⟨#[102,117,110,99]⟩ : ByteArray) ⟨#[]⟩ d.from_ _ _ _).mono ?_
        rintro e w31 ⟨rfl, hb31⟩
        replace C := Hd (C.out.made hb31 (by simp) (⟨#[102,117,110,99]⟩ : ByteArray) ⟨#[]⟩ d.from_)
        clear c0 c1 c2 c3 cf q0 q1 q2 q3 q4 qf
        have hcc := C.out.var (i := 1) rfl
        go_wp2_with (refine stN rfl rfl rfl rfl hcc rfl rfl (by simp [Value.oneCell']) ?_)
        refine retN rfl rfl rfl (setRow_heap _ _ _ _ _ _ hcc) rfl ?_
        skip
        exact ⟨_, _, rfl, (C.out.set (i := 1) rfl rfl _).outF (.head _)⟩
end Go.Proofs.YtllbbacnakoomaaGreatDoor
namespace Go.Proofs.YtllbbacnakoomaaGreatDoor
open Go.RowKit
set_option linter.unusedVariables false
theorem direct_any {L : List Ct} {ta : Option Addr} {tc rb : Nat} {R : Rec} (G : Good L ta tc rb R) : DirOk L ta tc rb R := by
 intro w s nest mode n s' h hn hm hr
 have C := Hd ((Cx.start h).alloc nzO (a := w.heap.size) rfl)
 have hlt := h.lt
 have hmm := Hd hm
 unfold directF at hr
 try clear c0 c1 c2 c3 cf
 obtain ⟨p4, he4, c0, c1, c2, c3, cf⟩ := C.out.ps.cells
 clear he4
 obtain ⟨t, ht⟩ : ∃ t, t = tokP L s.at_ := ⟨_, rfl⟩
 rw [← ht] at hr
 have HT := Hd (tok_any C.out.ps)
 rw [← ht] at HT
 unfold ctV at HT
 have hfd := fun w => fld_kind (.int .i64 t.fro) (.int .i64 t.cnt) undef t.kind t.text t.file t.f t.t w
 replace ht := Hd ht
 go_enter Tryz.func159, Tryz.ntmps159
 by_cases hm1 : mode = 1
 ·rw [if_neg (fun e => e.1 hm1)] at hr
  have g3 : ((mode : Int) != 1) = false := by rw [hm1]; rfl
  have g4 : ((mode : Int) == 0) = false := by rw [hm1]; rfl
  have HIn := Hd (inner_any C.out.ps mode hm)
  cases p2 : innerP L mode s with
  | true =>
    rw [p2, if_pos rfl] at hr
    rw [p2] at HIn
    clear HT hfd
    replace hm1 := Hd hm1
    obtain ⟨hI1, hI2⟩ : -1 ≤ s.at_ + 1 ∧ s.at_ + 1 ≤ L.length := by
     have hin := tok_in (L := L) (i := s.at_) (by unfold innerP isP isT at p2; simp only [Bool.and_eq_true, decide_eq_true_eq] at p2; omega)
     exact ⟨by omega, hin.2.1⟩
    obtain ⟨⟨b, z⟩, hb1, hb2⟩ := Option.bind_eq_some_iff.1 hr
    simp only at hb2
    replace hb1 := Hd hb1
    replace hb2 := Hd hb2
    clear hr
    have hr := hb2
    clear hb2
    go_wp2_with fail
    refine (HIn.out).mono ?_
    rintro e w6 ⟨rfl, h6, k6⟩
    replace C := Hd (C.out.call h6 k6)
    try clear c0 c1 c2 c3 cf
    obtain ⟨p4, he4, c0, c1, c2, c3, cf⟩ := C.out.ps.cells
    clear he4
    have hlen := C.out.ps.len
    have g2 : IntKind.i64.wrap (s.at_ + 1) = s.at_ + 1 := IntWalk.i64_in _ (by omega)
    replace C := Hd (C.out.up (n := 1) hI1 hI2)
    clear hlen hI1 hI2
    go_wp2_with fail
    refine (G.declr C.out.ps hn hmm.out hb1.out).mono ?_
    rintro e w18 ⟨ao18, cap18, rfl, hn18, h18, k18⟩
    replace C := Hd (C.out.ret hn18 h18 k18)
    unfold ndV
    clear c0 c1 c2 c3 cf
    have hcc := C.out.var (i := 0) rfl
    replace C := Hd (C.out.set (i := 0) rfl rfl (rowA b ao18 cap18))
    go_wp2_with (refine stN rfl rfl rfl rfl hcc rfl rfl (by simp [Value.oneCell']) ?_)
    refine (rNeed_any C.out.ps (⟨#[41]⟩ : ByteArray)).mono ?_
    rintro e w19 ⟨rfl, h19, k19⟩
    replace C := Hd (C.out.call h19 k19)
    try clear c0 c1 c2 c3 cf
    obtain ⟨p4, he4, c0, c1, c2, c3, cf⟩ := C.out.ps.cells
    clear he4
    obtain ⟨e0, e1, e2, e3, e4, ef⟩ := nd_cells (C.out.var (i := 0) rfl)
    go_upto_region 9 with fail
    obtain ⟨i2, hi2⟩ : ∃ i2, i2 = (needP L z (⟨#[41]⟩ : ByteArray)).at_ := ⟨_, rfl⟩
    rw [← hi2] at c1 hr
    replace hi2 := Hd hi2
    have hlt9 := C.out.ps.lt
    have hne9 : w.heap.size ≠ rb := by omega
    go_region
    have C2 : Hid (Cx L ta tc rb (fun _ => False) none w (needP L z (⟨#[41]⟩ : ByteArray)) [⟨b, ao18, cap18⟩] [(w.heap.size, bxO (.mk b.kind b.text s.at_ i2 b.kids) ao18 cap18)] [] (.slice none 0 0) ((w19.setCell ⟨w.heap.size, 2, none⟩ (.int .i64 s.at_)).setCell ⟨w.heap.size, 3, none⟩ (.int .i64 i2)).drew) :=
     Hd ((C.out.setc (i := 0) rfl (by decide) (by simp) 2 (.int .i64 s.at_)).setc (i := 0) rfl (by decide) (by simp) 3 (.int .i64 i2)).drew
    try clear e0 e1 e2 e3 e4 ef
    try clear c0 c1 c2 c3 cf
    replace C := Hd (C2.out.span (.head _) s.at_ i2)
    clear C2
    go_wp2_with fail
    try dsimp only [Act.put]
    go_loopg [] KK (fun q wx => ∃ (m : T) (z : Ps) (ao1 : Option Addr) (cap1 : Nat), Hid (Cx L ta tc rb (fun _ => False) none w z [⟨m, ao1, cap1⟩] [(w.heap.size, bxO m ao1 cap1)] [] (.slice none 0 0) wx) ∧ Hid (dirLoop L R nest mode q m z = some (n, s')))
    case atStart => exact ⟨_, _, _, _, (Hd (C.out.weak mem1 (List.Sublist.refl _))), hr⟩
    case round =>
     have Cx := C
     clear Cx C hr
     obtain ⟨m, z, ao1, cap1, C, hL⟩ := hrel
     obtain ⟨w4, hw4⟩ : ∃ w4, w4 = wr := ⟨_, rfl⟩
     subst hw4
     cases gk with
     | zero => exact absurd hL.out (by simp [dirLoop])
     | succ gk =>
       have hL2 := hL.out
       unfold dirLoop at hL2
       try clear c0 c1 c2 c3 cf
       obtain ⟨p4, he4, c0, c1, c2, c3, cf⟩ := C.out.ps.cells
       clear he4
       cases hbad : z.bad with
       | true =>
         rw [if_pos hbad] at hL2
         obtain ⟨rfl, rfl⟩ := Prod.mk.inj (Option.some.inj hL2)
         clear hL2
         rw [hbad] at c3
         obtain ⟨q0, q1, q2, q3, q4, qf⟩ := nd_cells (C.out.var (i := 0) rfl)
         have hcc := C.out.var (i := 0) rfl
         go_wp2_with (refine stN rfl rfl rfl rfl hcc rfl rfl (by simp [Value.oneCell']) ?_)
         refine retN rfl rfl rfl (setRow_heap _ _ _ _ _ _ hcc) rfl ?_
         exact ⟨_, _, rfl, (C.out.set (i := 0) rfl rfl _).out (.head _)⟩
       | false =>
         rw [if_neg (by rw [hbad]; simp)] at hL2
         rw [hbad] at c3
         replace hbad := Hd hbad
         cases q1 : isP L z (⟨#[91]⟩ : ByteArray) with
         | true =>
           rw [q1, if_pos rfl] at hL2
           obtain ⟨⟨b, z2⟩, hb1, hb2⟩ := Option.bind_eq_some_iff.1 hL2
           simp only at hb2
           replace hb1 := Hd hb1
           replace hb2 := Hd hb2
           clear hL2
           have HH := Hd (rHas_any C.out.ps (⟨#[91]⟩ : ByteArray))
           rw [hasP_ok hbad.out, q1, if_pos rfl] at HH
           go_wp2_with fail
           refine (HH.out).mono ?_
           rintro e w16 ⟨rfl, h16, k16⟩
           replace C := Hd (C.out.call h16 k16)
           clear HH
           clear c0 c1 c2 c3 cf
           obtain ⟨e0, e1, e2, e3, e4, ef⟩ := nd_cells (C.out.var (i := 0) rfl)
           go_wp2_with fail
           refine (array_any G C.out.ps C.out.nrb (C.out.nok _ (.head _)) hn hb1.out).mono ?_
           rintro e w18 ⟨ao18, cap18, rfl, hn18, h18, k18⟩
           replace C := Hd (C.out.retF hn18 h18 k18)
           unfold ndV
           clear e0 e1 e2 e3 e4 ef
           have hcc := C.out.var (i := 0) rfl
           go_wp2_with (refine stN rfl rfl rfl rfl hcc rfl rfl (by simp [Value.oneCell']) ?_)
           go_roundg gk
           case measure => omega
           case rel => exact ⟨_, _, _, _, Hd ((C.out.set (i := 0) rfl rfl _).weak mem1 (List.Sublist.refl _)), hb2⟩
         | false =>
           rw [q1, if_neg (by simp)] at hL2
           have HH := Hd (rHas_any C.out.ps (⟨#[91]⟩ : ByteArray))
           rw [hasP_ok hbad.out, q1, if_neg (by simp)] at HH
           go_wp2_with fail
           refine (HH.out).mono ?_
           rintro e w16 ⟨rfl, h16, k16⟩
           replace C := Hd (C.out.call h16 k16)
           clear HH
           cases q2 : isP L z (⟨#[40]⟩ : ByteArray) with
           | true =>
             rw [q2, if_pos rfl] at hL2
             obtain ⟨⟨b, z2⟩, hb1, hb2⟩ := Option.bind_eq_some_iff.1 hL2
             simp only at hb2
             replace hb1 := Hd hb1
             replace hb2 := Hd hb2
             clear hL2
             have HH := Hd (rHas_any C.out.ps (⟨#[40]⟩ : ByteArray))
             rw [hasP_ok hbad.out, q2, if_pos rfl] at HH
             go_wp2_with fail
             refine (HH.out).mono ?_
             rintro e w17 ⟨rfl, h17, k17⟩
             replace C := Hd (C.out.call h17 k17)
             clear HH
             clear c0 c1 c2 c3 cf
             obtain ⟨e0, e1, e2, e3, e4, ef⟩ := nd_cells (C.out.var (i := 0) rfl)
             go_wp2_with fail
             refine (params_any G C.out.ps C.out.nrb (C.out.nok _ (.head _)) hn hmm.out hb1.out).mono ?_
             rintro e w18 ⟨ao18, cap18, rfl, hn18, h18, k18⟩
             replace C := Hd (C.out.retF hn18 h18 k18)
             unfold ndV
             clear e0 e1 e2 e3 e4 ef
             have hcc := C.out.var (i := 0) rfl
             go_wp2_with (refine stN rfl rfl rfl rfl hcc rfl rfl (by simp [Value.oneCell']) ?_)
             go_roundg gk
             case measure => omega
             case rel => exact ⟨_, _, _, _, Hd ((C.out.set (i := 0) rfl rfl _).weak mem1 (List.Sublist.refl _)), hb2⟩
           | false =>
             rw [q2, if_neg (by simp)] at hL2
             obtain ⟨rfl, rfl⟩ := Prod.mk.inj (Option.some.inj hL2)
             clear hL2
             have HH := Hd (rHas_any C.out.ps (⟨#[40]⟩ : ByteArray))
             rw [hasP_ok hbad.out, q2, if_neg (by simp)] at HH
             go_wp2_with fail
             refine (HH.out).mono ?_
             rintro e w17 ⟨rfl, h17, k17⟩
             replace C := Hd (C.out.call h17 k17)
             clear HH
             obtain ⟨q0, q1, q2, q3, q4, qf⟩ := nd_cells (C.out.var (i := 0) rfl)
             have hcc := C.out.var (i := 0) rfl
             go_wp2_with (refine stN rfl rfl rfl rfl hcc rfl rfl (by simp [Value.oneCell']) ?_)
             refine retN rfl rfl rfl (setRow_heap _ _ _ _ _ _ hcc) rfl ?_
             exact ⟨_, _, rfl, (C.out.set (i := 0) rfl rfl _).out (.head _)⟩
  | false =>
    rw [p2, if_neg (by simp), if_neg (by omega)] at hr
    rw [p2] at HIn
    clear HT hfd
    replace hm1 := Hd hm1
    replace hr := Hd hr
    go_wp2_with fail
    refine (HIn.out).mono ?_
    rintro e w6 ⟨rfl, h6, k6⟩
    replace C := Hd (C.out.call h6 k6)
    go_wp2_with fail
    refine (rMake_any C.out.ps (⟨#[110,111,110,101]⟩ : ByteArray) ⟨#[]⟩ s.at_ _ _ _).mono ?_
    rintro e w7 ⟨rfl, hb7⟩
    replace C := Hd ((C.out.below hb7).leaf (⟨#[110,111,110,101]⟩ : ByteArray) eB s.at_ s.at_)
    clear c0 c1 c2 c3 cf
    have hcc := C.out.var (i := 0) rfl
    go_wp2_with (refine stN rfl rfl rfl rfl hcc rfl rfl (by simp [Value.oneCell']) ?_)
    try dsimp only [Act.put]
    go_loopg [] KK (fun q wx => ∃ (m : T) (z : Ps) (ao1 : Option Addr) (cap1 : Nat), Hid (Cx L ta tc rb (fun _ => False) none w z [⟨m, ao1, cap1⟩] [(w.heap.size, bxO m ao1 cap1)] [] (.slice none 0 0) wx) ∧ Hid (dirLoop L R nest mode q m z = some (n, s')))
    case atStart => exact ⟨_, _, _, _, (Hd ((C.out.set (i := 0) rfl rfl _).weak mem1 (List.Sublist.refl _))), hr⟩
    case round =>
     have Cx := C
     clear Cx C hr
     obtain ⟨m, z, ao1, cap1, C, hL⟩ := hrel
     obtain ⟨w4, hw4⟩ : ∃ w4, w4 = wr := ⟨_, rfl⟩
     subst hw4
     cases gk with
     | zero => exact absurd hL.out (by simp [dirLoop])
     | succ gk =>
       have hL2 := hL.out
       unfold dirLoop at hL2
       try clear c0 c1 c2 c3 cf
       obtain ⟨p4, he4, c0, c1, c2, c3, cf⟩ := C.out.ps.cells
       clear he4
       cases hbad : z.bad with
       | true =>
         rw [if_pos hbad] at hL2
         obtain ⟨rfl, rfl⟩ := Prod.mk.inj (Option.some.inj hL2)
         clear hL2
         rw [hbad] at c3
         obtain ⟨q0, q1, q2, q3, q4, qf⟩ := nd_cells (C.out.var (i := 0) rfl)
         have hcc := C.out.var (i := 0) rfl
         go_wp2_with (refine stN rfl rfl rfl rfl hcc rfl rfl (by simp [Value.oneCell']) ?_)
         refine retN rfl rfl rfl (setRow_heap _ _ _ _ _ _ hcc) rfl ?_
         exact ⟨_, _, rfl, (C.out.set (i := 0) rfl rfl _).out (.head _)⟩
       | false =>
         rw [if_neg (by rw [hbad]; simp)] at hL2
         rw [hbad] at c3
         replace hbad := Hd hbad
         cases q1 : isP L z (⟨#[91]⟩ : ByteArray) with
         | true =>
           rw [q1, if_pos rfl] at hL2
           obtain ⟨⟨b, z2⟩, hb1, hb2⟩ := Option.bind_eq_some_iff.1 hL2
           simp only at hb2
           replace hb1 := Hd hb1
           replace hb2 := Hd hb2
           clear hL2
           have HH := Hd (rHas_any C.out.ps (⟨#[91]⟩ : ByteArray))
           rw [hasP_ok hbad.out, q1, if_pos rfl] at HH
           go_wp2_with fail
           refine (HH.out).mono ?_
           rintro e w16 ⟨rfl, h16, k16⟩
           replace C := Hd (C.out.call h16 k16)
           clear HH
           clear c0 c1 c2 c3 cf
           obtain ⟨e0, e1, e2, e3, e4, ef⟩ := nd_cells (C.out.var (i := 0) rfl)
           go_wp2_with fail
           refine (array_any G C.out.ps C.out.nrb (C.out.nok _ (.head _)) hn hb1.out).mono ?_
           rintro e w18 ⟨ao18, cap18, rfl, hn18, h18, k18⟩
           replace C := Hd (C.out.retF hn18 h18 k18)
           unfold ndV
           clear e0 e1 e2 e3 e4 ef
           have hcc := C.out.var (i := 0) rfl
           go_wp2_with (refine stN rfl rfl rfl rfl hcc rfl rfl (by simp [Value.oneCell']) ?_)
           go_roundg gk
           case measure => omega
           case rel => exact ⟨_, _, _, _, Hd ((C.out.set (i := 0) rfl rfl _).weak mem1 (List.Sublist.refl _)), hb2⟩
         | false =>
           rw [q1, if_neg (by simp)] at hL2
           have HH := Hd (rHas_any C.out.ps (⟨#[91]⟩ : ByteArray))
           rw [hasP_ok hbad.out, q1, if_neg (by simp)] at HH
           go_wp2_with fail
           refine (HH.out).mono ?_
           rintro e w16 ⟨rfl, h16, k16⟩
           replace C := Hd (C.out.call h16 k16)
           clear HH
           cases q2 : isP L z (⟨#[40]⟩ : ByteArray) with
           | true =>
             rw [q2, if_pos rfl] at hL2
             obtain ⟨⟨b, z2⟩, hb1, hb2⟩ := Option.bind_eq_some_iff.1 hL2
             simp only at hb2
             replace hb1 := Hd hb1
             replace hb2 := Hd hb2
             clear hL2
             have HH := Hd (rHas_any C.out.ps (⟨#[40]⟩ : ByteArray))
             rw [hasP_ok hbad.out, q2, if_pos rfl] at HH
             go_wp2_with fail
             refine (HH.out).mono ?_
             rintro e w17 ⟨rfl, h17, k17⟩
             replace C := Hd (C.out.call h17 k17)
             clear HH
             clear c0 c1 c2 c3 cf
             obtain ⟨e0, e1, e2, e3, e4, ef⟩ := nd_cells (C.out.var (i := 0) rfl)
             go_wp2_with fail
             refine (params_any G C.out.ps C.out.nrb (C.out.nok _ (.head _)) hn hmm.out hb1.out).mono ?_
             rintro e w18 ⟨ao18, cap18, rfl, hn18, h18, k18⟩
             replace C := Hd (C.out.retF hn18 h18 k18)
             unfold ndV
             clear e0 e1 e2 e3 e4 ef
             have hcc := C.out.var (i := 0) rfl
             go_wp2_with (refine stN rfl rfl rfl rfl hcc rfl rfl (by simp [Value.oneCell']) ?_)
             go_roundg gk
             case measure => omega
             case rel => exact ⟨_, _, _, _, Hd ((C.out.set (i := 0) rfl rfl _).weak mem1 (List.Sublist.refl _)), hb2⟩
           | false =>
             rw [q2, if_neg (by simp)] at hL2
             obtain ⟨rfl, rfl⟩ := Prod.mk.inj (Option.some.inj hL2)
             clear hL2
             have HH := Hd (rHas_any C.out.ps (⟨#[40]⟩ : ByteArray))
             rw [hasP_ok hbad.out, q2, if_neg (by simp)] at HH
             go_wp2_with fail
             refine (HH.out).mono ?_
             rintro e w17 ⟨rfl, h17, k17⟩
             replace C := Hd (C.out.call h17 k17)
             clear HH
             obtain ⟨q0, q1, q2, q3, q4, qf⟩ := nd_cells (C.out.var (i := 0) rfl)
             have hcc := C.out.var (i := 0) rfl
             go_wp2_with (refine stN rfl rfl rfl rfl hcc rfl rfl (by simp [Value.oneCell']) ?_)
             refine retN rfl rfl rfl (setRow_heap _ _ _ _ _ _ hcc) rfl ?_
             exact ⟨_, _, rfl, (C.out.set (i := 0) rfl rfl _).out (.head _)⟩
 ·have g3 : ((mode : Int) != 1) = true := by simp; omega
  by_cases hk : t.kind = 1
  ·rw [if_pos ⟨hm1, hk⟩] at hr
   rw [hk] at HT hfd
   replace hk := Hd hk
   replace hm1 := Hd hm1
   replace hr := Hd hr
   go_wp2_with fail
   refine (HT.out).mono ?_
   rintro e w5 ⟨rfl, hb5⟩
   replace C := Hd (C.out.below hb5)
   clear HT
   have HL := Hd (rLeaf_any C.out.ps (⟨#[110,97,109,101]⟩ : ByteArray) (by rw [← ht.out, hk.out]; decide))
   go_wp2_with fail
   refine (HL.out).mono ?_
   rintro e w6 ⟨rfl, h6, k6⟩
   replace C := Hd (C.out.call h6 k6)
   clear HL c0 c1 c2 c3 cf
   replace C := Hd (C.out.leafT s (⟨#[110,97,109,101]⟩ : ByteArray))
   have hcc := C.out.var (i := 0) rfl
   go_wp2_with (refine stN rfl rfl rfl rfl hcc rfl rfl (by simp [Value.oneCell']) ?_)
   try dsimp only [Act.put]
   go_loopg [] KK (fun q wx => ∃ (m : T) (z : Ps) (ao1 : Option Addr) (cap1 : Nat), Hid (Cx L ta tc rb (fun _ => False) none w z [⟨m, ao1, cap1⟩] [(w.heap.size, bxO m ao1 cap1)] [] (.slice none 0 0) wx) ∧ Hid (dirLoop L R nest mode q m z = some (n, s')))
   case atStart => exact ⟨_, _, _, _, (Hd ((C.out.set (i := 0) rfl rfl _).weak mem1 (List.Sublist.refl _))), hr⟩
   case round =>
    have Cx := C
    clear Cx C hr
    obtain ⟨m, z, ao1, cap1, C, hL⟩ := hrel
    obtain ⟨w4, hw4⟩ : ∃ w4, w4 = wr := ⟨_, rfl⟩
    subst hw4
    cases gk with
    | zero => exact absurd hL.out (by simp [dirLoop])
    | succ gk =>
      have hL2 := hL.out
      unfold dirLoop at hL2
      try clear c0 c1 c2 c3 cf
      obtain ⟨p4, he4, c0, c1, c2, c3, cf⟩ := C.out.ps.cells
      clear he4
      cases hbad : z.bad with
      | true =>
        rw [if_pos hbad] at hL2
        obtain ⟨rfl, rfl⟩ := Prod.mk.inj (Option.some.inj hL2)
        clear hL2
        rw [hbad] at c3
        obtain ⟨q0, q1, q2, q3, q4, qf⟩ := nd_cells (C.out.var (i := 0) rfl)
        have hcc := C.out.var (i := 0) rfl
        go_wp2_with (refine stN rfl rfl rfl rfl hcc rfl rfl (by simp [Value.oneCell']) ?_)
        refine retN rfl rfl rfl (setRow_heap _ _ _ _ _ _ hcc) rfl ?_
        exact ⟨_, _, rfl, (C.out.set (i := 0) rfl rfl _).out (.head _)⟩
      | false =>
        rw [if_neg (by rw [hbad]; simp)] at hL2
        rw [hbad] at c3
        replace hbad := Hd hbad
        cases q1 : isP L z (⟨#[91]⟩ : ByteArray) with
        | true =>
          rw [q1, if_pos rfl] at hL2
          obtain ⟨⟨b, z2⟩, hb1, hb2⟩ := Option.bind_eq_some_iff.1 hL2
          simp only at hb2
          replace hb1 := Hd hb1
          replace hb2 := Hd hb2
          clear hL2
          have HH := Hd (rHas_any C.out.ps (⟨#[91]⟩ : ByteArray))
          rw [hasP_ok hbad.out, q1, if_pos rfl] at HH
          go_wp2_with fail
          refine (HH.out).mono ?_
          rintro e w16 ⟨rfl, h16, k16⟩
          replace C := Hd (C.out.call h16 k16)
          clear HH
          clear c0 c1 c2 c3 cf
          obtain ⟨e0, e1, e2, e3, e4, ef⟩ := nd_cells (C.out.var (i := 0) rfl)
          go_wp2_with fail
          refine (array_any G C.out.ps C.out.nrb (C.out.nok _ (.head _)) hn hb1.out).mono ?_
          rintro e w18 ⟨ao18, cap18, rfl, hn18, h18, k18⟩
          replace C := Hd (C.out.retF hn18 h18 k18)
          unfold ndV
          clear e0 e1 e2 e3 e4 ef
          have hcc := C.out.var (i := 0) rfl
          go_wp2_with (refine stN rfl rfl rfl rfl hcc rfl rfl (by simp [Value.oneCell']) ?_)
          go_roundg gk
          case measure => omega
          case rel => exact ⟨_, _, _, _, Hd ((C.out.set (i := 0) rfl rfl _).weak mem1 (List.Sublist.refl _)), hb2⟩
        | false =>
          rw [q1, if_neg (by simp)] at hL2
          have HH := Hd (rHas_any C.out.ps (⟨#[91]⟩ : ByteArray))
          rw [hasP_ok hbad.out, q1, if_neg (by simp)] at HH
          go_wp2_with fail
          refine (HH.out).mono ?_
          rintro e w16 ⟨rfl, h16, k16⟩
          replace C := Hd (C.out.call h16 k16)
          clear HH
          cases q2 : isP L z (⟨#[40]⟩ : ByteArray) with
          | true =>
            rw [q2, if_pos rfl] at hL2
            obtain ⟨⟨b, z2⟩, hb1, hb2⟩ := Option.bind_eq_some_iff.1 hL2
            simp only at hb2
            replace hb1 := Hd hb1
            replace hb2 := Hd hb2
            clear hL2
            have HH := Hd (rHas_any C.out.ps (⟨#[40]⟩ : ByteArray))
            rw [hasP_ok hbad.out, q2, if_pos rfl] at HH
            go_wp2_with fail
            refine (HH.out).mono ?_
            rintro e w17 ⟨rfl, h17, k17⟩
            replace C := Hd (C.out.call h17 k17)
            clear HH
            clear c0 c1 c2 c3 cf
            obtain ⟨e0, e1, e2, e3, e4, ef⟩ := nd_cells (C.out.var (i := 0) rfl)
            go_wp2_with fail
            refine (params_any G C.out.ps C.out.nrb (C.out.nok _ (.head _)) hn hmm.out hb1.out).mono ?_
            rintro e w18 ⟨ao18, cap18, rfl, hn18, h18, k18⟩
            replace C := Hd (C.out.retF hn18 h18 k18)
            unfold ndV
            clear e0 e1 e2 e3 e4 ef
            have hcc := C.out.var (i := 0) rfl
            go_wp2_with (refine stN rfl rfl rfl rfl hcc rfl rfl (by simp [Value.oneCell']) ?_)
            go_roundg gk
            case measure => omega
            case rel => exact ⟨_, _, _, _, Hd ((C.out.set (i := 0) rfl rfl _).weak mem1 (List.Sublist.refl _)), hb2⟩
          | false =>
            rw [q2, if_neg (by simp)] at hL2
            obtain ⟨rfl, rfl⟩ := Prod.mk.inj (Option.some.inj hL2)
            clear hL2
            have HH := Hd (rHas_any C.out.ps (⟨#[40]⟩ : ByteArray))
            rw [hasP_ok hbad.out, q2, if_neg (by simp)] at HH
            go_wp2_with fail
            refine (HH.out).mono ?_
            rintro e w17 ⟨rfl, h17, k17⟩
            replace C := Hd (C.out.call h17 k17)
            clear HH
            obtain ⟨q0, q1, q2, q3, q4, qf⟩ := nd_cells (C.out.var (i := 0) rfl)
            have hcc := C.out.var (i := 0) rfl
            go_wp2_with (refine stN rfl rfl rfl rfl hcc rfl rfl (by simp [Value.oneCell']) ?_)
            refine retN rfl rfl rfl (setRow_heap _ _ _ _ _ _ hcc) rfl ?_
            exact ⟨_, _, rfl, (C.out.set (i := 0) rfl rfl _).out (.head _)⟩
  ·rw [if_neg (fun e => hk e.2)] at hr
   have g5 : (t.kind == 1) = false := beq_false_of_ne hk
   replace hm1 := Hd hm1
   go_wp2_with fail
   refine (HT.out).mono ?_
   rintro e w5 ⟨rfl, hb5⟩
   replace C := Hd (C.out.below hb5)
   clear HT
   have HIn := Hd (inner_any C.out.ps mode hm)
   cases p2 : innerP L mode s with
   | true =>
     rw [p2, if_pos rfl] at hr
     rw [p2] at HIn
     obtain ⟨hI1, hI2⟩ : -1 ≤ s.at_ + 1 ∧ s.at_ + 1 ≤ L.length := by
      have hin := tok_in (L := L) (i := s.at_) (by unfold innerP isP isT at p2; simp only [Bool.and_eq_true, decide_eq_true_eq] at p2; omega)
      exact ⟨by omega, hin.2.1⟩
     obtain ⟨⟨b, z⟩, hb1, hb2⟩ := Option.bind_eq_some_iff.1 hr
     simp only at hb2
     replace hb1 := Hd hb1
     replace hb2 := Hd hb2
     clear hr
     have hr := hb2
     clear hb2
     go_wp2_with fail
     refine (HIn.out).mono ?_
     rintro e w6 ⟨rfl, h6, k6⟩
     replace C := Hd (C.out.call h6 k6)
     try clear c0 c1 c2 c3 cf
     obtain ⟨p4, he4, c0, c1, c2, c3, cf⟩ := C.out.ps.cells
     clear he4
     have hlen := C.out.ps.len
     have g2 : IntKind.i64.wrap (s.at_ + 1) = s.at_ + 1 := IntWalk.i64_in _ (by omega)
     replace C := Hd (C.out.up (n := 1) hI1 hI2)
     clear hlen hI1 hI2
     go_wp2_with fail
     refine (G.declr C.out.ps hn hmm.out hb1.out).mono ?_
     rintro e w18 ⟨ao18, cap18, rfl, hn18, h18, k18⟩
     replace C := Hd (C.out.ret hn18 h18 k18)
     unfold ndV
     clear c0 c1 c2 c3 cf
     have hcc := C.out.var (i := 0) rfl
     replace C := Hd (C.out.set (i := 0) rfl rfl (rowA b ao18 cap18))
     go_wp2_with (refine stN rfl rfl rfl rfl hcc rfl rfl (by simp [Value.oneCell']) ?_)
     refine (rNeed_any C.out.ps (⟨#[41]⟩ : ByteArray)).mono ?_
     rintro e w19 ⟨rfl, h19, k19⟩
     replace C := Hd (C.out.call h19 k19)
     try clear c0 c1 c2 c3 cf
     obtain ⟨p4, he4, c0, c1, c2, c3, cf⟩ := C.out.ps.cells
     clear he4
     obtain ⟨e0, e1, e2, e3, e4, ef⟩ := nd_cells (C.out.var (i := 0) rfl)
     go_upto_region 9 with fail
     obtain ⟨i2, hi2⟩ : ∃ i2, i2 = (needP L z (⟨#[41]⟩ : ByteArray)).at_ := ⟨_, rfl⟩
     rw [← hi2] at c1 hr
     replace hi2 := Hd hi2
     have hlt9 := C.out.ps.lt
     have hne9 : w.heap.size ≠ rb := by omega
     go_region
     have C2 : Hid (Cx L ta tc rb (fun _ => False) none w (needP L z (⟨#[41]⟩ : ByteArray)) [⟨b, ao18, cap18⟩] [(w.heap.size, bxO (.mk b.kind b.text s.at_ i2 b.kids) ao18 cap18)] [] (.slice none 0 0) ((w19.setCell ⟨w.heap.size, 2, none⟩ (.int .i64 s.at_)).setCell ⟨w.heap.size, 3, none⟩ (.int .i64 i2)).drew) :=
      Hd ((C.out.setc (i := 0) rfl (by decide) (by simp) 2 (.int .i64 s.at_)).setc (i := 0) rfl (by decide) (by simp) 3 (.int .i64 i2)).drew
     try clear e0 e1 e2 e3 e4 ef
     try clear c0 c1 c2 c3 cf
     replace C := Hd (C2.out.span (.head _) s.at_ i2)
     clear C2
     go_wp2_with fail
     try dsimp only [Act.put]
     go_loopg [] KK (fun q wx => ∃ (m : T) (z : Ps) (ao1 : Option Addr) (cap1 : Nat), Hid (Cx L ta tc rb (fun _ => False) none w z [⟨m, ao1, cap1⟩] [(w.heap.size, bxO m ao1 cap1)] [] (.slice none 0 0) wx) ∧ Hid (dirLoop L R nest mode q m z = some (n, s')))
     case atStart => exact ⟨_, _, _, _, (Hd (C.out.weak mem1 (List.Sublist.refl _))), hr⟩
     case round =>
      have Cx := C
      clear Cx C hr
      obtain ⟨m, z, ao1, cap1, C, hL⟩ := hrel
      obtain ⟨w4, hw4⟩ : ∃ w4, w4 = wr := ⟨_, rfl⟩
      subst hw4
      cases gk with
      | zero => exact absurd hL.out (by simp [dirLoop])
      | succ gk =>
        have hL2 := hL.out
        unfold dirLoop at hL2
        try clear c0 c1 c2 c3 cf
        obtain ⟨p4, he4, c0, c1, c2, c3, cf⟩ := C.out.ps.cells
        clear he4
        cases hbad : z.bad with
        | true =>
          rw [if_pos hbad] at hL2
          obtain ⟨rfl, rfl⟩ := Prod.mk.inj (Option.some.inj hL2)
          clear hL2
          rw [hbad] at c3
          obtain ⟨q0, q1, q2, q3, q4, qf⟩ := nd_cells (C.out.var (i := 0) rfl)
          have hcc := C.out.var (i := 0) rfl
          go_wp2_with (refine stN rfl rfl rfl rfl hcc rfl rfl (by simp [Value.oneCell']) ?_)
          refine retN rfl rfl rfl (setRow_heap _ _ _ _ _ _ hcc) rfl ?_
          exact ⟨_, _, rfl, (C.out.set (i := 0) rfl rfl _).out (.head _)⟩
        | false =>
          rw [if_neg (by rw [hbad]; simp)] at hL2
          rw [hbad] at c3
          replace hbad := Hd hbad
          cases q1 : isP L z (⟨#[91]⟩ : ByteArray) with
          | true =>
            rw [q1, if_pos rfl] at hL2
            obtain ⟨⟨b, z2⟩, hb1, hb2⟩ := Option.bind_eq_some_iff.1 hL2
            simp only at hb2
            replace hb1 := Hd hb1
            replace hb2 := Hd hb2
            clear hL2
            have HH := Hd (rHas_any C.out.ps (⟨#[91]⟩ : ByteArray))
            rw [hasP_ok hbad.out, q1, if_pos rfl] at HH
            go_wp2_with fail
            refine (HH.out).mono ?_
            rintro e w16 ⟨rfl, h16, k16⟩
            replace C := Hd (C.out.call h16 k16)
            clear HH
            clear c0 c1 c2 c3 cf
            obtain ⟨e0, e1, e2, e3, e4, ef⟩ := nd_cells (C.out.var (i := 0) rfl)
            go_wp2_with fail
            refine (array_any G C.out.ps C.out.nrb (C.out.nok _ (.head _)) hn hb1.out).mono ?_
            rintro e w18 ⟨ao18, cap18, rfl, hn18, h18, k18⟩
            replace C := Hd (C.out.retF hn18 h18 k18)
            unfold ndV
            clear e0 e1 e2 e3 e4 ef
            have hcc := C.out.var (i := 0) rfl
            go_wp2_with (refine stN rfl rfl rfl rfl hcc rfl rfl (by simp [Value.oneCell']) ?_)
            go_roundg gk
            case measure => omega
            case rel => exact ⟨_, _, _, _, Hd ((C.out.set (i := 0) rfl rfl _).weak mem1 (List.Sublist.refl _)), hb2⟩
          | false =>
            rw [q1, if_neg (by simp)] at hL2
            have HH := Hd (rHas_any C.out.ps (⟨#[91]⟩ : ByteArray))
            rw [hasP_ok hbad.out, q1, if_neg (by simp)] at HH
            go_wp2_with fail
            refine (HH.out).mono ?_
            rintro e w16 ⟨rfl, h16, k16⟩
            replace C := Hd (C.out.call h16 k16)
            clear HH
            cases q2 : isP L z (⟨#[40]⟩ : ByteArray) with
            | true =>
              rw [q2, if_pos rfl] at hL2
              obtain ⟨⟨b, z2⟩, hb1, hb2⟩ := Option.bind_eq_some_iff.1 hL2
              simp only at hb2
              replace hb1 := Hd hb1
              replace hb2 := Hd hb2
              clear hL2
              have HH := Hd (rHas_any C.out.ps (⟨#[40]⟩ : ByteArray))
              rw [hasP_ok hbad.out, q2, if_pos rfl] at HH
              go_wp2_with fail
              refine (HH.out).mono ?_
              rintro e w17 ⟨rfl, h17, k17⟩
              replace C := Hd (C.out.call h17 k17)
              clear HH
              clear c0 c1 c2 c3 cf
              obtain ⟨e0, e1, e2, e3, e4, ef⟩ := nd_cells (C.out.var (i := 0) rfl)
              go_wp2_with fail
              refine (params_any G C.out.ps C.out.nrb (C.out.nok _ (.head _)) hn hmm.out hb1.out).mono ?_
              rintro e w18 ⟨ao18, cap18, rfl, hn18, h18, k18⟩
              replace C := Hd (C.out.retF hn18 h18 k18)
              unfold ndV
              clear e0 e1 e2 e3 e4 ef
              have hcc := C.out.var (i := 0) rfl
              go_wp2_with (refine stN rfl rfl rfl rfl hcc rfl rfl (by simp [Value.oneCell']) ?_)
              go_roundg gk
              case measure => omega
              case rel => exact ⟨_, _, _, _, Hd ((C.out.set (i := 0) rfl rfl _).weak mem1 (List.Sublist.refl _)), hb2⟩
            | false =>
              rw [q2, if_neg (by simp)] at hL2
              obtain ⟨rfl, rfl⟩ := Prod.mk.inj (Option.some.inj hL2)
              clear hL2
              have HH := Hd (rHas_any C.out.ps (⟨#[40]⟩ : ByteArray))
              rw [hasP_ok hbad.out, q2, if_neg (by simp)] at HH
              go_wp2_with fail
              refine (HH.out).mono ?_
              rintro e w17 ⟨rfl, h17, k17⟩
              replace C := Hd (C.out.call h17 k17)
              clear HH
              obtain ⟨q0, q1, q2, q3, q4, qf⟩ := nd_cells (C.out.var (i := 0) rfl)
              have hcc := C.out.var (i := 0) rfl
              go_wp2_with (refine stN rfl rfl rfl rfl hcc rfl rfl (by simp [Value.oneCell']) ?_)
              refine retN rfl rfl rfl (setRow_heap _ _ _ _ _ _ hcc) rfl ?_
              exact ⟨_, _, rfl, (C.out.set (i := 0) rfl rfl _).out (.head _)⟩
   | false =>
     rw [p2, if_neg (by simp)] at hr
     rw [p2] at HIn
     by_cases hm0 : mode = 0
     ·rw [if_pos hm0] at hr
      have g4 : ((mode : Int) == 0) = true := by rw [hm0]; rfl
      replace hm0 := Hd hm0
      obtain ⟨rfl, rfl⟩ := Prod.mk.inj (Option.some.inj hr)
      go_wp2_with fail
      refine (HIn.out).mono ?_
      rintro e w6 ⟨rfl, h6, k6⟩
      replace C := Hd (C.out.call h6 k6)
      go_wp2_with fail
      refine (rFail_any C.out.ps).mono ?_
      rintro e w7 ⟨rfl, h7, k7⟩
      replace C := Hd (C.out.call h7 k7)
      clear c0 c1 c2 c3 cf
      obtain ⟨q0, q1, q2, q3, q4, qf⟩ := nd_cells (C.out.var (i := 0) rfl)
      replace C := Hd (C.out.leaf eB eB 0 0)
      have hcc := C.out.var (i := 0) rfl
      go_wp2_with (refine stN rfl rfl rfl rfl hcc rfl rfl (by simp [Value.oneCell']) ?_)
      refine retN rfl rfl rfl (setRow_heap _ _ _ _ _ _ hcc) rfl ?_
      exact ⟨_, _, rfl, (C.out.set (i := 0) rfl rfl _).out (.head _)⟩
     ·rw [if_neg hm0] at hr
      have g4 : ((mode : Int) == 0) = false := beq_false_of_ne (by omega)
      replace hm0 := Hd hm0
      replace hr := Hd hr
      go_wp2_with fail
      refine (HIn.out).mono ?_
      rintro e w6 ⟨rfl, h6, k6⟩
      replace C := Hd (C.out.call h6 k6)
      go_wp2_with fail
      refine (rMake_any C.out.ps (⟨#[110,111,110,101]⟩ : ByteArray) ⟨#[]⟩ s.at_ _ _ _).mono ?_
      rintro e w7 ⟨rfl, hb7⟩
      replace C := Hd ((C.out.below hb7).leaf (⟨#[110,111,110,101]⟩ : ByteArray) eB s.at_ s.at_)
      clear c0 c1 c2 c3 cf
      have hcc := C.out.var (i := 0) rfl
      go_wp2_with (refine stN rfl rfl rfl rfl hcc rfl rfl (by simp [Value.oneCell']) ?_)
      try dsimp only [Act.put]
      go_loopg [] KK (fun q wx => ∃ (m : T) (z : Ps) (ao1 : Option Addr) (cap1 : Nat), Hid (Cx L ta tc rb (fun _ => False) none w z [⟨m, ao1, cap1⟩] [(w.heap.size, bxO m ao1 cap1)] [] (.slice none 0 0) wx) ∧ Hid (dirLoop L R nest mode q m z = some (n, s')))
      case atStart => exact ⟨_, _, _, _, (Hd ((C.out.set (i := 0) rfl rfl _).weak mem1 (List.Sublist.refl _))), hr⟩
      case round =>
       have Cx := C
       clear Cx C hr
       obtain ⟨m, z, ao1, cap1, C, hL⟩ := hrel
       obtain ⟨w4, hw4⟩ : ∃ w4, w4 = wr := ⟨_, rfl⟩
       subst hw4
       cases gk with
       | zero => exact absurd hL.out (by simp [dirLoop])
       | succ gk =>
         have hL2 := hL.out
         unfold dirLoop at hL2
         try clear c0 c1 c2 c3 cf
         obtain ⟨p4, he4, c0, c1, c2, c3, cf⟩ := C.out.ps.cells
         clear he4
         cases hbad : z.bad with
         | true =>
           rw [if_pos hbad] at hL2
           obtain ⟨rfl, rfl⟩ := Prod.mk.inj (Option.some.inj hL2)
           clear hL2
           rw [hbad] at c3
           obtain ⟨q0, q1, q2, q3, q4, qf⟩ := nd_cells (C.out.var (i := 0) rfl)
           have hcc := C.out.var (i := 0) rfl
           go_wp2_with (refine stN rfl rfl rfl rfl hcc rfl rfl (by simp [Value.oneCell']) ?_)
           refine retN rfl rfl rfl (setRow_heap _ _ _ _ _ _ hcc) rfl ?_
           exact ⟨_, _, rfl, (C.out.set (i := 0) rfl rfl _).out (.head _)⟩
         | false =>
           rw [if_neg (by rw [hbad]; simp)] at hL2
           rw [hbad] at c3
           replace hbad := Hd hbad
           cases q1 : isP L z (⟨#[91]⟩ : ByteArray) with
           | true =>
             rw [q1, if_pos rfl] at hL2
             obtain ⟨⟨b, z2⟩, hb1, hb2⟩ := Option.bind_eq_some_iff.1 hL2
             simp only at hb2
             replace hb1 := Hd hb1
             replace hb2 := Hd hb2
             clear hL2
             have HH := Hd (rHas_any C.out.ps (⟨#[91]⟩ : ByteArray))
             rw [hasP_ok hbad.out, q1, if_pos rfl] at HH
             go_wp2_with fail
             refine (HH.out).mono ?_
             rintro e w16 ⟨rfl, h16, k16⟩
             replace C := Hd (C.out.call h16 k16)
             clear HH
             clear c0 c1 c2 c3 cf
             obtain ⟨e0, e1, e2, e3, e4, ef⟩ := nd_cells (C.out.var (i := 0) rfl)
             go_wp2_with fail
             refine (array_any G C.out.ps C.out.nrb (C.out.nok _ (.head _)) hn hb1.out).mono ?_
             rintro e w18 ⟨ao18, cap18, rfl, hn18, h18, k18⟩
             replace C := Hd (C.out.retF hn18 h18 k18)
             unfold ndV
             clear e0 e1 e2 e3 e4 ef
             have hcc := C.out.var (i := 0) rfl
             go_wp2_with (refine stN rfl rfl rfl rfl hcc rfl rfl (by simp [Value.oneCell']) ?_)
             go_roundg gk
             case measure => omega
             case rel => exact ⟨_, _, _, _, Hd ((C.out.set (i := 0) rfl rfl _).weak mem1 (List.Sublist.refl _)), hb2⟩
           | false =>
             rw [q1, if_neg (by simp)] at hL2
             have HH := Hd (rHas_any C.out.ps (⟨#[91]⟩ : ByteArray))
             rw [hasP_ok hbad.out, q1, if_neg (by simp)] at HH
             go_wp2_with fail
             refine (HH.out).mono ?_
             rintro e w16 ⟨rfl, h16, k16⟩
             replace C := Hd (C.out.call h16 k16)
             clear HH
             cases q2 : isP L z (⟨#[40]⟩ : ByteArray) with
             | true =>
               rw [q2, if_pos rfl] at hL2
               obtain ⟨⟨b, z2⟩, hb1, hb2⟩ := Option.bind_eq_some_iff.1 hL2
               simp only at hb2
               replace hb1 := Hd hb1
               replace hb2 := Hd hb2
               clear hL2
               have HH := Hd (rHas_any C.out.ps (⟨#[40]⟩ : ByteArray))
               rw [hasP_ok hbad.out, q2, if_pos rfl] at HH
               go_wp2_with fail
               refine (HH.out).mono ?_
               rintro e w17 ⟨rfl, h17, k17⟩
               replace C := Hd (C.out.call h17 k17)
               clear HH
               clear c0 c1 c2 c3 cf
               obtain ⟨e0, e1, e2, e3, e4, ef⟩ := nd_cells (C.out.var (i := 0) rfl)
               go_wp2_with fail
               refine (params_any G C.out.ps C.out.nrb (C.out.nok _ (.head _)) hn hmm.out hb1.out).mono ?_
               rintro e w18 ⟨ao18, cap18, rfl, hn18, h18, k18⟩
               replace C := Hd (C.out.retF hn18 h18 k18)
               unfold ndV
               clear e0 e1 e2 e3 e4 ef
               have hcc := C.out.var (i := 0) rfl
               go_wp2_with (refine stN rfl rfl rfl rfl hcc rfl rfl (by simp [Value.oneCell']) ?_)
               go_roundg gk
               case measure => omega
               case rel => exact ⟨_, _, _, _, Hd ((C.out.set (i := 0) rfl rfl _).weak mem1 (List.Sublist.refl _)), hb2⟩
             | false =>
               rw [q2, if_neg (by simp)] at hL2
               obtain ⟨rfl, rfl⟩ := Prod.mk.inj (Option.some.inj hL2)
               clear hL2
               have HH := Hd (rHas_any C.out.ps (⟨#[40]⟩ : ByteArray))
               rw [hasP_ok hbad.out, q2, if_neg (by simp)] at HH
               go_wp2_with fail
               refine (HH.out).mono ?_
               rintro e w17 ⟨rfl, h17, k17⟩
               replace C := Hd (C.out.call h17 k17)
               clear HH
               obtain ⟨q0, q1, q2, q3, q4, qf⟩ := nd_cells (C.out.var (i := 0) rfl)
               have hcc := C.out.var (i := 0) rfl
               go_wp2_with (refine stN rfl rfl rfl rfl hcc rfl rfl (by simp [Value.oneCell']) ?_)
               refine retN rfl rfl rfl (setRow_heap _ _ _ _ _ _ hcc) rfl ?_
               exact ⟨_, _, rfl, (C.out.set (i := 0) rfl rfl _).out (.head _)⟩
end Go.Proofs.YtllbbacnakoomaaGreatDoor
