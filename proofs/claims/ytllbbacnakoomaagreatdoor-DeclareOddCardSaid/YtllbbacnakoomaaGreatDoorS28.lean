/- Texts of this seat's proofs, laid into one file. -/
import Derived.Test.YtllbbacnakoomaaGreatDoorS27
set_option maxRecDepth 100000
set_option maxHeartbeats 16000000
namespace Go.Proofs.YtllbbacnakoomaaGreatDoor
open Go.RowKit
set_option linter.unusedVariables false
theorem element_any {L : List Ct} {ta : Option Addr} {tc rb : Nat} {R : Rec} (G : Good L ta tc rb R) {w : World} {s : Ps} {nest : Nat} {n : T} {s' : Ps} (h : PS L ta tc rb s w) (hn : nest ≤ 1000) (hr : elementF L R nest s = some (n, s')) :
 Calls Tryz.prog 193 #[.pointer (some ⟨rb, 0, none⟩), .int .i64 nest] w (NdRet L ta tc rb w n s') := by
 have C := Hd ((Cx.start h).alloc nzO (a := w.heap.size) rfl)
 have hlt := h.lt
 unfold elementF at hr
 replace hr := Hd hr
 go_enter Tryz.func193, Tryz.ntmps193
 go_wp2_with fail
 refine wp_scope_gh 0 (fun q a' wx => ∃ (k : List T) (z : Ps) (m : Nat) (ao3 : Option Addr) (cap3 : Nat) (u2 u3 u7 u8 u9 u10 u11 u12 u13 u14 u15 u16 u17 u18 u19 u20 u21 u22 u23 u24 u25 u26 u27 u28 u29 u30 u31 u32 u33 u34 u35 u36 u37 u38 u39 u40 u41 u42 u43 u44 u45 u46 u47 u48 u49 u50 u51 u52 u53 u54 u55 u56 u57 u58 u59 u60 u61 u62 u63 u64 : Value), a' = { tmps := #[.pointer (some ⟨rb, 0, none⟩), .int .i64 nest, u2, u3, .pointer (some ⟨w.heap.size, 0, none⟩), .slice ao3 m cap3, .int .i64 s.at_, u7, u8, u9, u10, u11, u12, u13, u14, u15, u16, u17, u18, u19, u20, u21, u22, u23, u24, u25, u26, u27, u28, u29, u30, u31, u32, u33, u34, u35, u36, u37, u38, u39, u40, u41, u42, u43, u44, u45, u46, u47, u48, u49, u50, u51, u52, u53, u54, u55, u56, u57, u58, u59, u60, u61, u62, u63, u64], defers := [] } ∧ Hid (k.length = m) ∧ Hid (m + q ≤ 6000) ∧ Hid (Cx L ta tc rb (fun _ => False) none w z [] [(w.heap.size, nzO)] k (.slice ao3 m cap3) wx) ∧ Hid (elLoop L R nest s.at_ q k z = some (n, s'))) rfl ?_ ?_
 ·intro Rst
  try clear c0 c1 c2 c3 cf
  obtain ⟨p4, he4, c0, c1, c2, c3, cf⟩ := C.out.ps.cells
  clear he4
  go_wp2_with fail
  go_step3
  go_step
  go_step
  exact Rst.out KK _ _ ⟨[], s, 0, none, 0, _, _, _, _, _, _, _, _, _, _, _, _, _, _, _, _, _, _, _, _, _, _, _, _, _, _, _, _, _, _, _, _, _, _, _, _, _, _, _, _, _, _, _, _, _, _, _, _, _, _, _, _, _, _, _, _, _, _, _, _, rfl, Hd rfl, Hd (by unfold KK; omega), C, hr⟩
 ·rintro q a' wx ⟨k, z, m, ao3, cap3, u2, u3, u7, u8, u9, u10, u11, u12, u13, u14, u15, u16, u17, u18, u19, u20, u21, u22, u23, u24, u25, u26, u27, u28, u29, u30, u31, u32, u33, u34, u35, u36, u37, u38, u39, u40, u41, u42, u43, u44, u45, u46, u47, u48, u49, u50, u51, u52, u53, u54, u55, u56, u57, u58, u59, u60, u61, u62, u63, u64, rfl, hm, hq, C0, hL⟩
  have Cx := C
  clear Cx C hr
  have C := C0
  clear C0
  cases q with
  | zero => exact absurd hL.out (by simp [elLoop])
  | succ q =>
    have hL2 := hL.out
    unfold elLoop at hL2
    try clear c0 c1 c2 c3 cf
    obtain ⟨p4, he4, c0, c1, c2, c3, cf⟩ := C.out.ps.cells
    clear he4
    cases p1 : hasP L z (⟨#[91]⟩ : ByteArray) with
    | true =>
      rw [p1, if_pos rfl] at hL2
      obtain ⟨⟨b, z3⟩, hb1, hb2⟩ := Option.bind_eq_some_iff.1 hL2
      simp only at hb2
      replace hb1 := Hd hb1
      replace hb2 := Hd hb2
      clear hL2
      have HH := Hd (rHas_any C.out.ps (⟨#[91]⟩ : ByteArray))
      rw [p1, if_pos rfl] at HH
      go_wp2_with fail
      refine (HH.out).mono ?_
      rintro e w4 ⟨rfl, h4, k4⟩
      replace C := Hd (C.out.call h4 k4)
      clear HH
      clear c0 c1 c2 c3 cf
      go_wp2_with fail
      refine (rCond_any G C.out.ps hn hb1.out).mono ?_
      rintro e w6 ⟨ao6, cap6, rfl, hn6, h6, k6⟩
      replace C := Hd (C.out.ret hn6 h6 k6)
      unfold ndV
      replace C := Hd (C.out.alloc (bxO b.1 ao6 cap6) (a := w6.heap.size) rfl)
      go_wp2_with fail
      refine (rNeed_any C.out.ps (⟨#[93]⟩ : ByteArray)).mono ?_
      rintro e w8 ⟨rfl, h8, k8⟩
      replace C := Hd (C.out.call h8 k8)
      obtain ⟨b0, b1, b2, b3, b4, bf⟩ := nd_cells (C.out.var (i := 0) rfl)
      have C2 := Hd (C.out.litN [⟨b.1, ao6, cap6⟩] (by simp) (by simp) rfl (a := w8.heap.size) rfl (n := 1) rfl (⟨#[105,110,100,101,120]⟩ : ByteArray) ⟨#[]⟩ z.at_)
      go_wp2_with fail
      refine (rMake_any (C.out.below ((Below.refl _ _).alloc (Nat.le_refl _) _)).ps (⟨#[105,110,100,101,120]⟩ : ByteArray) ⟨#[]⟩ z.at_ _ _ _).mono ?_
      rintro e w7 ⟨rfl, hb7⟩
      replace C := Hd (C2.out.below hb7)
      clear C2
      clear b0 b1 b2 b3 b4 bf
      go_wp2_with (refine wpList_snoc C.out (.head _) (by have := hm.out; have := hq.out; omega) rfl rfl rfl rfl rfl ?_; intro m7 ao7 cap7 w7 hm7 C7)
      have hq7 : Hid (m7 + q ≤ 6000) := Hd (by have h1 := hm7.out; have := hm.out; have := hq.out; simp at h1; omega)
      go_step3
      exact ⟨rfl, q, Nat.lt_succ_self _, _, _, _, _, _, _, _, _, _, _, _, _, _, _, _, _, _, _, _, _, _, _, _, _, _, _, _, _, _, _, _, _, _, _, _, _, _, _, _, _, _, _, _, _, _, _, _, _, _, _, _, _, _, _, _, _, _, _, _, _, _, _, _, _, _, rfl, hm7, hq7, Hd (C7.weak (by simp) ((List.Sublist.refl _).cons _)), hb2⟩
    | false =>
      rw [p1, if_neg (by simp)] at hL2
      have HH := Hd (rHas_any C.out.ps (⟨#[91]⟩ : ByteArray))
      rw [p1, if_neg (by simp)] at HH
      go_wp2_with fail
      refine (HH.out).mono ?_
      rintro e w4 ⟨rfl, h4, k4⟩
      replace C := Hd (C.out.call h4 k4)
      clear HH
      clear c0 c1 c2 c3 cf
      cases p2 : hasP L z (⟨#[46]⟩ : ByteArray) with
      | true =>
        rw [p2, if_pos rfl] at hL2
        have HH := Hd (rHas_any C.out.ps (⟨#[46]⟩ : ByteArray))
        rw [p2, if_pos rfl] at HH
        go_wp2_with fail
        refine (HH.out).mono ?_
        rintro e w5 ⟨rfl, h5, k5⟩
        replace C := Hd (C.out.call h5 k5)
        clear HH
        obtain ⟨x, hx⟩ : ∃ x, x = (identP L (z.up 1) eB).1 := ⟨_, rfl⟩
        obtain ⟨z2, hz2⟩ : ∃ z2, z2 = (identP L (z.up 1) eB).2 := ⟨_, rfl⟩
        have HI := Hd (rIdent_any C.out.ps eB)
        rw [← hx, ← hz2] at HI
        rw [← hx, ← hz2] at hL2
        replace hx := Hd hx
        replace hz2 := Hd hz2
        replace hL2 := Hd hL2
        unfold lfV at HI
        go_wp2_with fail
        refine (HI.out).mono ?_
        rintro e w6 ⟨rfl, h6, k6⟩
        replace C := Hd (C.out.call h6 k6)
        clear HI
        replace C := Hd (C.out.alloc (lfO x) (a := w6.heap.size) rfl)
        obtain ⟨b0, b1, b2, b3, b4, bf⟩ := nd_cells (C.out.var (i := 0) rfl)
        go_wp2_with fail
        refine (rMake_any C.out.ps (⟨#[102,105,101,108,100]⟩ : ByteArray) x.text z.at_ _ _ _).mono ?_
        rintro e w7 ⟨rfl, hb7⟩
        replace C := Hd ((C.out.below hb7).leaf (⟨#[102,105,101,108,100]⟩ : ByteArray) x.text z.at_ z2.at_)
        clear b0 b1 b2 b3 b4 bf
        go_wp2_with (refine wpList_snoc C.out (.head _) (by have := hm.out; have := hq.out; omega) rfl rfl rfl rfl rfl ?_; intro m8 ao8 cap8 w8 hm8 C8)
        have hq8 : Hid (m8 + q ≤ 6000) := Hd (by have h1 := hm8.out; have := hm.out; have := hq.out; simp at h1; omega)
        go_step3
        exact ⟨rfl, q, Nat.lt_succ_self _, _, _, _, _, _, _, _, _, _, _, _, _, _, _, _, _, _, _, _, _, _, _, _, _, _, _, _, _, _, _, _, _, _, _, _, _, _, _, _, _, _, _, _, _, _, _, _, _, _, _, _, _, _, _, _, _, _, _, _, _, _, _, _, _, _, rfl, hm8, hq8, Hd (C8.weak (by simp) ((List.Sublist.refl _).cons _)), hL2⟩
      | false =>
        rw [p2, if_neg (by simp)] at hL2
        have HH := Hd (rHas_any C.out.ps (⟨#[46]⟩ : ByteArray))
        rw [p2, if_neg (by simp)] at HH
        go_wp2_with fail
        refine (HH.out).mono ?_
        rintro e w5 ⟨rfl, h5, k5⟩
        replace C := Hd (C.out.call h5 k5)
        clear HH
        by_cases hk0 : k.length = 0
        ·rw [if_pos hk0] at hL2
         obtain rfl : m = 0 := hm.out.symm.trans hk0
         replace hL2 := Hd hL2
         go_wp2_with fail
         refine (G.init C.out.ps hn hL2.out).mono ?_
         rintro e w6 ⟨ao6, cap6, rfl, hn6, h6, k6⟩
         replace C := Hd (C.out.ret hn6 h6 k6)
         unfold ndV
         have hcc := C.out.var (i := 0) rfl
         go_wp2_with (refine stN rfl rfl rfl rfl hcc rfl rfl (by simp [Value.oneCell']) ?_)
         try simp only [Exit.jump]
         refine retN rfl rfl rfl (setRow_heap _ _ _ _ _ _ hcc) rfl ?_
         exact ⟨_, _, rfl, (C.out.set (i := 0) rfl rfl _).out (.head _)⟩
        ·rw [if_neg hk0] at hL2
         have hm0 : ((m : Int) == 0) = false := beq_false_of_ne (by have := hm.out; omega)
         obtain ⟨⟨b, z3⟩, hb1, hb2⟩ := Option.bind_eq_some_iff.1 hL2
         simp only at hb2
         replace hb1 := Hd hb1
         replace hb2 := Hd hb2
         clear hL2
         obtain ⟨rfl, rfl⟩ := Prod.mk.inj (Option.some.inj hb2.out)
         clear hb2
         go_wp2_with fail
         refine (rNeed_any C.out.ps (⟨#[61]⟩ : ByteArray)).mono ?_
         rintro e w6 ⟨rfl, h6, k6⟩
         replace C := Hd (C.out.call h6 k6)
         go_wp2_with fail
         refine (G.init C.out.ps hn hb1.out).mono ?_
         rintro e w7 ⟨ao7, cap7, rfl, hn7, h7, k7⟩
         replace C := Hd (C.out.ret hn7 h7 k7)
         unfold ndV
         go_wp2_with (refine wpList_snoc C.out (.head _) (by have := hm.out; have := hq.out; omega) rfl rfl rfl rfl rfl ?_; intro m8 ao8 cap8 w8 hm8 C8)
         replace C := Hd C8
         clear C8
         go_wp2_with fail
         refine (rMake_any C.out.ps (⟨#[97,116]⟩ : ByteArray) ⟨#[]⟩ s.at_ _ _ _).mono ?_
         rintro e w9 ⟨rfl, hb9⟩
         replace C := Hd (C.out.made hb9 (by have := hm8.out; have := hm.out; have := hq.out; simp; omega) (⟨#[97,116]⟩ : ByteArray) ⟨#[]⟩ s.at_)
         have hcc := C.out.var (i := 0) rfl
         go_wp2_with (refine stN rfl rfl rfl rfl hcc rfl rfl (by simp [Value.oneCell']) ?_)
         try simp only [Exit.jump]
         refine retN rfl rfl rfl (setRow_heap _ _ _ _ _ _ hcc) rfl ?_
         obtain rfl := hm8.out
         exact ⟨_, _, rfl, (C.out.set (i := 0) rfl rfl _).out (.head _)⟩
end Go.Proofs.YtllbbacnakoomaaGreatDoor
namespace Go.Proofs.YtllbbacnakoomaaGreatDoor
open Go.RowKit
set_option linter.unusedVariables false
theorem init_step {L : List Ct} {ta : Option Addr} {tc rb : Nat} {R : Rec} (G : Good L ta tc rb R) {w : World} {s : Ps} {nest : Nat} {n : T} {s' : Ps} (h : PS L ta tc rb s w) (hn : nest ≤ 1000) (hr : initF L R nest s = some (n, s')) :
 Calls Tryz.prog 166 #[.pointer (some ⟨rb, 0, none⟩), .int .i64 nest] w (NdRet L ta tc rb w n s') := by
 have C := Hd ((Cx.start h).alloc nzO (a := w.heap.size) rfl)
 have hlt := h.lt
 unfold initF at hr
 go_enter Tryz.func166, Tryz.ntmps166
 cases hd : s.deep nest with
 | true =>
   rw [hd, if_pos rfl] at hr
   have HD := Hd (rdeep_any C.out.ps nest (by omega))
   rw [hd, if_pos rfl] at HD
   obtain ⟨rfl, rfl⟩ := Prod.mk.inj (Option.some.inj hr)
   go_wp2_with fail
   refine (HD.out).mono ?_
   rintro e w1 ⟨rfl, h1, k1⟩
   replace C := Hd (C.out.call h1 k1)
   clear HD
   obtain ⟨q0, q1, q2, q3, q4, qf⟩ := nd_cells (C.out.var (i := 0) rfl)
   replace C := Hd (C.out.leaf eB eB 0 0)
   have hcc := C.out.var (i := 0) rfl
   go_wp2_with (refine stN rfl rfl rfl rfl hcc rfl rfl (by simp [Value.oneCell']) ?_)
   refine retN rfl rfl rfl (setRow_heap _ _ _ _ _ _ hcc) rfl ?_
   exact ⟨_, _, rfl, (C.out.set (i := 0) rfl rfl _).out (.head _)⟩
 | false =>
   rw [hd, if_neg (by simp)] at hr
   have HD := Hd (rdeep_any C.out.ps nest (by omega))
   rw [hd, if_neg (by simp)] at HD
   go_wp2_with fail
   refine (HD.out).mono ?_
   rintro e w1 ⟨rfl, h1, k1⟩
   replace C := Hd (C.out.call h1 k1)
   clear HD
   have hn2 : nest ≤ 200 := by unfold Ps.deep at hd; simp at hd; omega
   have g1 : IntKind.i64.wrap ((nest : Int) + 1) = ((nest + 1 : Nat) : Int) := by rw [IntWalk.i64_in _ (by omega)]; omega
   try clear c0 c1 c2 c3 cf
   obtain ⟨p4, he4, c0, c1, c2, c3, cf⟩ := C.out.ps.cells
   clear he4
   cases p1 : hasP L s (⟨#[123]⟩ : ByteArray) with
   | false =>
     rw [p1, if_neg (by simp)] at hr
     replace hr := Hd hr
     have HH := Hd (rHas_any C.out.ps (⟨#[123]⟩ : ByteArray))
     rw [p1, if_neg (by simp)] at HH
     go_wp2_with fail
     refine (HH.out).mono ?_
     rintro e w2 ⟨rfl, h2, k2⟩
     replace C := Hd (C.out.call h2 k2)
     clear HH
     go_wp2_with fail
     refine (G.assign C.out.ps (by omega) hr.out).mono ?_
     rintro e w3 ⟨ao3, cap3, rfl, hn3, h3, k3⟩
     replace C := Hd (C.out.ret hn3 h3 k3)
     unfold ndV
     have hcc := C.out.var (i := 0) rfl
     go_wp2_with (refine stN rfl rfl rfl rfl hcc rfl rfl (by simp [Value.oneCell']) ?_)
     refine retN rfl rfl rfl (setRow_heap _ _ _ _ _ _ hcc) rfl ?_
     exact ⟨_, _, rfl, (C.out.set (i := 0) rfl rfl _).out (.head _)⟩
   | true =>
     rw [p1, if_pos rfl] at hr
     obtain ⟨⟨a, s1⟩, hr1, hr2⟩ := Option.bind_eq_some_iff.1 hr
     simp only at hr2
     replace hr1 := Hd hr1
     replace hr2 := Hd hr2
     clear hr
     obtain ⟨⟨kl, s2⟩, hr3, hr4⟩ := Option.bind_eq_some_iff.1 hr2.out
     obtain ⟨rfl, rfl⟩ := Prod.mk.inj (Option.some.inj hr4)
     replace hr3 := Hd hr3
     clear hr2 hr4
     have HH := Hd (rHas_any C.out.ps (⟨#[123]⟩ : ByteArray))
     rw [p1, if_pos rfl] at HH
     go_wp2_with fail
     refine (HH.out).mono ?_
     rintro e w2 ⟨rfl, h2, k2⟩
     replace C := Hd (C.out.call h2 k2)
     clear HH
     clear c0 c1 c2 c3 cf
     go_wp2_with fail
     refine (element_any G C.out.ps (by omega) hr1.out).mono ?_
     rintro e w3 ⟨ao3, cap3, rfl, hn3, h3, k3⟩
     replace C := Hd (C.out.ret hn3 h3 k3)
     unfold ndV
     replace C := Hd (C.out.lit [⟨a, ao3, cap3⟩] (by simp) (by simp) rfl (a := w3.heap.size) rfl (n := 1) rfl)
     go_wp2_with fail
     go_loopg [6] KK (fun q v6 wx => ∃ (k : List T) (z : Ps) (m : Nat) (ao3 : Option Addr) (cap3 : Nat), v6 = .slice ao3 m cap3 ∧ Hid (k.length = m) ∧ Hid (m + q ≤ 6000) ∧ Hid (Cx L ta tc rb (fun _ => False) none w z [] [(w.heap.size, nzO)] k (.slice ao3 m cap3) wx) ∧ Hid (initLoop L R nest q k z = some (kl, s2)))
     case atStart => exact ⟨_, _, _, _, _, rfl, Hd rfl, Hd (by unfold KK; simp), Hd (C.out.weak (by simp) (List.Sublist.refl _)), hr3⟩
     case round =>
      have Cx := C
      clear Cx C hr3
      obtain ⟨k, z, m, ao3, cap3, rfl, hm, hq, C, hL⟩ := hrel
      obtain ⟨w4, hw4⟩ : ∃ w4, w4 = wr := ⟨_, rfl⟩
      subst hw4
      cases gk with
      | zero => exact absurd hL.out (by simp [initLoop])
      | succ gk =>
        have hL2 := hL.out
        unfold initLoop at hL2
        cases p2 : hasP L z (⟨#[44]⟩ : ByteArray) with
        | false =>
          rw [p2, if_neg (by simp)] at hL2
          obtain ⟨rfl, rfl⟩ := Prod.mk.inj (Option.some.inj hL2)
          clear hL2
          have HH := Hd (rHas_any C.out.ps (⟨#[44]⟩ : ByteArray))
          rw [p2, if_neg (by simp)] at HH
          go_wp2_with fail
          refine (HH.out).mono ?_
          rintro e w5 ⟨rfl, h5, k5⟩
          replace C := Hd (C.out.call h5 k5)
          clear HH
          go_wp2_with fail
          refine (rNeed_any C.out.ps (⟨#[125]⟩ : ByteArray)).mono ?_
          rintro e w6 ⟨rfl, h6, k6⟩
          replace C := Hd (C.out.call h6 k6)
          go_wp2_with fail
          refine (rMake_any C.out.ps (⟨#[105,110,105,116,115]⟩ : ByteArray) ⟨#[]⟩ s.at_ _ _ _).mono ?_
          rintro e w7 ⟨rfl, hb7⟩
          replace C := Hd (C.out.made hb7 (by have := hm.out; have := hq.out; omega) (⟨#[105,110,105,116,115]⟩ : ByteArray) ⟨#[]⟩ s.at_)
          obtain rfl := hm.out
          have hcc := C.out.var (i := 0) rfl
          go_wp2_with (refine stN rfl rfl rfl rfl hcc rfl rfl (by simp [Value.oneCell']) ?_)
          refine retN rfl rfl rfl (setRow_heap _ _ _ _ _ _ hcc) rfl ?_
          exact ⟨_, _, rfl, (C.out.set (i := 0) rfl rfl _).out (.head _)⟩
        | true =>
          rw [p2, if_pos rfl] at hL2
          have HH := Hd (rHas_any C.out.ps (⟨#[44]⟩ : ByteArray))
          rw [p2, if_pos rfl] at HH
          go_wp2_with fail
          refine (HH.out).mono ?_
          rintro e w5 ⟨rfl, h5, k5⟩
          replace C := Hd (C.out.call h5 k5)
          clear HH
          have HI := Hd (rIs_any C.out.ps (⟨#[125]⟩ : ByteArray))
          cases p3 : isP L (z.up 1) (⟨#[125]⟩ : ByteArray) with
          | true =>
            rw [p3, if_pos rfl] at hL2
            rw [p3] at HI
            obtain ⟨rfl, rfl⟩ := Prod.mk.inj (Option.some.inj hL2)
            clear hL2
            go_wp2_with fail
            refine (HI.out).mono ?_
            rintro e w8 ⟨rfl, hb8⟩
            replace C := Hd (C.out.below hb8)
            go_wp2_with fail
            refine (rNeed_any C.out.ps (⟨#[125]⟩ : ByteArray)).mono ?_
            rintro e w6 ⟨rfl, h6, k6⟩
            replace C := Hd (C.out.call h6 k6)
            go_wp2_with fail
            refine (rMake_any C.out.ps (⟨#[105,110,105,116,115]⟩ : ByteArray) ⟨#[]⟩ s.at_ _ _ _).mono ?_
            rintro e w7 ⟨rfl, hb7⟩
            replace C := Hd (C.out.made hb7 (by have := hm.out; have := hq.out; omega) (⟨#[105,110,105,116,115]⟩ : ByteArray) ⟨#[]⟩ s.at_)
            obtain rfl := hm.out
            have hcc := C.out.var (i := 0) rfl
            go_wp2_with (refine stN rfl rfl rfl rfl hcc rfl rfl (by simp [Value.oneCell']) ?_)
            refine retN rfl rfl rfl (setRow_heap _ _ _ _ _ _ hcc) rfl ?_
            exact ⟨_, _, rfl, (C.out.set (i := 0) rfl rfl _).out (.head _)⟩
          | false =>
            rw [p3, if_neg (by simp)] at hL2
            rw [p3] at HI
            obtain ⟨⟨b, z2⟩, hb1, hb2⟩ := Option.bind_eq_some_iff.1 hL2
            simp only at hb2
            replace hb1 := Hd hb1
            replace hb2 := Hd hb2
            clear hL2
            go_wp2_with fail
            refine (HI.out).mono ?_
            rintro e w8 ⟨rfl, hb8⟩
            replace C := Hd (C.out.below hb8)
            go_wp2_with fail
            refine (element_any G C.out.ps (by omega) hb1.out).mono ?_
            rintro e w9 ⟨ao9, cap9, rfl, hn9, h9, k9⟩
            replace C := Hd (C.out.ret hn9 h9 k9)
            unfold ndV
            go_wp2_with (refine wpList_snoc C.out (.head _) (by have := hm.out; have := hq.out; omega) rfl rfl rfl rfl rfl ?_; intro m7 ao7 cap7 w7 hm7 C7)
            go_roundg gk
            case measure => omega
            case rel => exact ⟨_, _, _, _, _, rfl, hm7, Hd (by have h1 := hm7.out; have := hm.out; have := hq.out; simp at h1; omega), Hd (C7.weak (by simp) (List.Sublist.refl _)), hb2⟩
end Go.Proofs.YtllbbacnakoomaaGreatDoor
namespace Go.Proofs.YtllbbacnakoomaaGreatDoor
open Go.RowKit
set_option linter.unusedVariables false
theorem typeName_step {L : List Ct} {ta : Option Addr} {tc rb : Nat} {R : Rec} (G : Good L ta tc rb R) {w : World} {s : Ps} {nest : Nat} {n : T} {s' : Ps} (h : PS L ta tc rb s w) (hn : nest ≤ 1000) (hr : typeNameF R nest s = some (n, s')) :
 Calls Tryz.prog 237 #[.pointer (some ⟨rb, 0, none⟩), .int .i64 nest] w (NdRet L ta tc rb w n s') := by
 have C := Hd ((Cx.start h).alloc nzO (a := w.heap.size) rfl)
 have hlt := h.lt
 unfold typeNameF at hr
 go_enter Tryz.func237, Tryz.ntmps237
 cases hd : s.deep nest with
 | true =>
   rw [hd, if_pos rfl] at hr
   have HD := Hd (rdeep_any C.out.ps nest (by omega))
   rw [hd, if_pos rfl] at HD
   obtain ⟨rfl, rfl⟩ := Prod.mk.inj (Option.some.inj hr)
   go_wp2_with fail
   refine (HD.out).mono ?_
   rintro e w1 ⟨rfl, h1, k1⟩
   replace C := Hd (C.out.call h1 k1)
   clear HD
   obtain ⟨q0, q1, q2, q3, q4, qf⟩ := nd_cells (C.out.var (i := 0) rfl)
   replace C := Hd (C.out.leaf eB eB 0 0)
   have hcc := C.out.var (i := 0) rfl
   go_wp2_with (refine stN rfl rfl rfl rfl hcc rfl rfl (by simp [Value.oneCell']) ?_)
   refine retN rfl rfl rfl (setRow_heap _ _ _ _ _ _ hcc) rfl ?_
   exact ⟨_, _, rfl, (C.out.set (i := 0) rfl rfl _).out (.head _)⟩
 | false =>
   rw [hd, if_neg (by simp)] at hr
   obtain ⟨⟨a, z1⟩, hr1, hr2⟩ := Option.bind_eq_some_iff.1 hr
   simp only at hr2
   replace hr1 := Hd hr1
   replace hr2 := Hd hr2
   clear hr
   have hr := hr2.out
   clear hr2
   obtain ⟨⟨b, z2⟩, hr3, hr4⟩ := Option.bind_eq_some_iff.1 hr
   simp only at hr4
   replace hr3 := Hd hr3
   replace hr4 := Hd hr4
   clear hr
   obtain ⟨rfl, rfl⟩ := Prod.mk.inj (Option.some.inj hr4.out)
   clear hr4
   have HD := Hd (rdeep_any C.out.ps nest (by omega))
   rw [hd, if_neg (by simp)] at HD
   go_wp2_with fail
   refine (HD.out).mono ?_
   rintro e w1 ⟨rfl, h1, k1⟩
   replace C := Hd (C.out.call h1 k1)
   clear HD
   have hn2 : nest ≤ 200 := by unfold Ps.deep at hd; simp at hd; omega
   have g1 : IntKind.i64.wrap ((nest : Int) + 1) = ((nest + 1 : Nat) : Int) := by rw [IntWalk.i64_in _ (by omega)]; omega
   try clear c0 c1 c2 c3 cf
   obtain ⟨p4, he4, c0, c1, c2, c3, cf⟩ := C.out.ps.cells
   clear he4
   go_wp2_with fail
   refine (G.specs C.out.ps (by omega) hr1.out).mono ?_
   rintro e w2 ⟨ao2, cap2, rfl, hn2, h2, k2⟩
   replace C := Hd (C.out.ret hn2 h2 k2)
   unfold ndV
   replace C := Hd (C.out.alloc (bxO a ao2 cap2) (a := w2.heap.size) rfl)
   have HD2 := Hd (G.declr C.out.ps (by omega) (by omega) hr3.out)
   go_wp2_with fail
   refine (HD2.out).mono ?_
   rintro e w3 ⟨ao3, cap3, rfl, hn3, h3, k3⟩
   replace C := Hd (C.out.ret hn3 h3 k3)
   unfold ndV
   replace C := Hd (C.out.alloc (bxO b ao3 cap3) (a := w3.heap.size) rfl)
   obtain ⟨b0, b1, b2, b3, b4, bf⟩ := nd_cells (C.out.var (i := 0) rfl)
   obtain ⟨q0, q1, q2, q3, q4, qf⟩ := nd_cells (C.out.var (i := 1) rfl)
   replace C := Hd (C.out.lit [⟨a, ao2, cap2⟩, ⟨b, ao3, cap3⟩] (by simp) (by simp) rfl (a := w3.heap.size + 1) (by simp) (n := 2) rfl)
   go_wp2_with fail
   refine (rMake_any C.out.ps (⟨#[116,121,112,101,110,97,109,101]⟩ : ByteArray) ⟨#[]⟩ s.at_ _ _ _).mono ?_
   rintro e w4 ⟨rfl, hb4⟩
   replace C := Hd (C.out.made hb4 (by simp) (⟨#[116,121,112,101,110,97,109,101]⟩ : ByteArray) ⟨#[]⟩ s.at_)
   clear b0 b1 b2 b3 b4 bf q0 q1 q2 q3 q4 qf
   have hcc := C.out.var (i := 2) rfl
   go_wp2_with (refine stN rfl rfl rfl rfl hcc rfl rfl (by simp [Value.oneCell']) ?_)
   refine retN rfl rfl rfl (setRow_heap _ _ _ _ _ _ hcc) rfl ?_
   exact ⟨_, _, rfl, (C.out.set (i := 2) rfl rfl _).out (.head _)⟩
theorem rSpecs_any {L : List Ct} {ta : Option Addr} {tc rb : Nat} {R : Rec} (G : Good L ta tc rb R) {w : World} {s : Ps} {nest : Nat} {n : T} {s' : Ps} (h : PS L ta tc rb s w) (hn : nest ≤ 1000) (hr : R.specs nest false s = some (n, s')) :
 Calls Tryz.prog 118 #[.pointer (some ⟨rb, 0, none⟩), .int .i64 nest] w (NdRet L ta tc rb w n s') := by
 have C := Hd ((Cx.start h).alloc nzO (a := w.heap.size) rfl)
 have hlt := h.lt
 replace hr := Hd hr
 go_enter Tryz.func118, Tryz.ntmps118
 go_wp2_with fail
 refine (G.specs C.out.ps hn hr.out).mono ?_
 rintro e w2 ⟨ao2, cap2, rfl, hn2, h2, k2⟩
 replace C := Hd (C.out.ret hn2 h2 k2)
 unfold ndV
 have hcc := C.out.var (i := 0) rfl
 go_wp2_with (refine stN rfl rfl rfl rfl hcc rfl rfl (by simp [Value.oneCell']) ?_)
 refine retN rfl rfl rfl (setRow_heap _ _ _ _ _ _ hcc) rfl ?_
 exact ⟨_, _, rfl, (C.out.set (i := 0) rfl rfl _).out (.head _)⟩
theorem declr_step {L : List Ct} {ta : Option Addr} {tc rb : Nat} {R : Rec} (G : Good L ta tc rb R) {w : World} {s : Ps} {nest mode : Nat} {n : T} {s' : Ps} (h : PS L ta tc rb s w) (hn : nest ≤ 1000) (hm : mode ≤ 2) (hr : declrF R nest mode s = some (n, s')) :
 Calls Tryz.prog 61 #[.pointer (some ⟨rb, 0, none⟩), .int .i64 nest, .int .i64 mode] w (NdRet L ta tc rb w n s') := by
 have C := Hd ((Cx.start h).alloc nzO (a := w.heap.size) rfl)
 have hlt := h.lt
 have hm0 : ¬ (mode : Int) < 0 := by omega
 have hm2 : ¬ (2 : Int) < (mode : Int) := by omega
 unfold declrF at hr
 go_enter Tryz.func61, Tryz.ntmps61
 cases hd : s.deep nest with
 | true =>
   rw [hd, if_pos rfl] at hr
   have HD := Hd (rdeep_any C.out.ps nest (by omega))
   rw [hd, if_pos rfl] at HD
   obtain ⟨rfl, rfl⟩ := Prod.mk.inj (Option.some.inj hr)
   go_wp2_with fail
   refine (HD.out).mono ?_
   rintro e w1 ⟨rfl, h1, k1⟩
   replace C := Hd (C.out.call h1 k1)
   clear HD
   obtain ⟨q0, q1, q2, q3, q4, qf⟩ := nd_cells (C.out.var (i := 0) rfl)
   replace C := Hd (C.out.leaf eB eB 0 0)
   have hcc := C.out.var (i := 0) rfl
   go_wp2_with (refine stN rfl rfl rfl rfl hcc rfl rfl (by simp [Value.oneCell']) ?_)
   refine retN rfl rfl rfl (setRow_heap _ _ _ _ _ _ hcc) rfl ?_
   exact ⟨_, _, rfl, (C.out.set (i := 0) rfl rfl _).out (.head _)⟩
 | false =>
   rw [hd, if_neg (by simp)] at hr
   replace hr := Hd hr
   have HD := Hd (rdeep_any C.out.ps nest (by omega))
   rw [hd, if_neg (by simp)] at HD
   go_wp2_with fail
   refine (HD.out).mono ?_
   rintro e w1 ⟨rfl, h1, k1⟩
   replace C := Hd (C.out.call h1 k1)
   clear HD
   have hn2 : nest ≤ 200 := by unfold Ps.deep at hd; simp at hd; omega
   have g1 : IntKind.i64.wrap ((nest : Int) + 1) = ((nest + 1 : Nat) : Int) := by rw [IntWalk.i64_in _ (by omega)]; omega
   go_wp2_with fail
   refine (G.pointer C.out.ps (by omega) hm hr.out).mono ?_
   rintro e w2 ⟨ao2, cap2, rfl, hn2, h2, k2⟩
   replace C := Hd (C.out.ret hn2 h2 k2)
   unfold ndV
   have hcc := C.out.var (i := 0) rfl
   go_wp2_with (refine stN rfl rfl rfl rfl hcc rfl rfl (by simp [Value.oneCell']) ?_)
   refine retN rfl rfl rfl (setRow_heap _ _ _ _ _ _ hcc) rfl ?_
   exact ⟨_, _, rfl, (C.out.set (i := 0) rfl rfl _).out (.head _)⟩
theorem rDeclare_any {L : List Ct} {ta : Option Addr} {tc rb : Nat} {w : World} {s : Ps} (h : PS L ta tc rb s w) (x : ByteArray) (is : Bool) :
 Calls Tryz.prog 131 #[.pointer (some ⟨rb, 0, none⟩), .string x, .bool is] w fun e w' => e = .returned (.tuple #[]) ∧ PS L ta tc rb (s.declare x is) w' ∧ w.grownBy w' (some rb) := by
 obtain ⟨p, he, c0, c1, c2, c3, cf⟩ := h.cells
 have hps := Hd h
 have hlt := h.lt
 rcases empty_or x with ⟨hx, hxs⟩ | ⟨hx, hx1, hx2⟩
 ·have hd : s.declare x is = s := by unfold Ps.declare; rw [if_neg (by rintro ⟨h, _⟩; exact h hxs)]
  rw [hd]
  subst hx
  clear h he hxs
  go_enter Tryz.func131, Tryz.ntmps131
  go_wp2
  go_end0
  exact ⟨rfl, hps.out, kp_refl _ _⟩
 ·cases hbad : s.bad with
  | true =>
    have hd : s.declare x is = s := by unfold Ps.declare; rw [if_neg (by rw [hbad]; simp)]
    rw [hd]
    rw [hbad] at c3
    clear h he
    go_enter Tryz.func131, Tryz.ntmps131
    go_wp2
    go_end0
    exact ⟨rfl, hps.out, kp_refl _ _⟩
  | false =>
    have hd : s.declare x is = s.into (.decl s.env x is) := by unfold Ps.declare; rw [if_pos ⟨hx, hbad⟩]
    rw [hd]
    rw [hbad] at c3
    have HE := Hd (declare_any he x hx is)
    clear h he
    go_enter Tryz.func131, Tryz.ntmps131
    go_wp2_with fail
    refine HE.out.mono ?_
    rintro e w1 ⟨⟨q, rfl, hq⟩, hb1⟩
    have h1 := hps.out.below hb1
    obtain ⟨p1, he1, d0, d1, d2, d3, df⟩ := h1.cells
    have h2 := Hd (h1.into hq)
    have k2 := Hd (grown_trans (kp_of_below hb1 (some rb)) (kp_set w1 rb 2 (.pointer q)))
    clear he1 hq h1 c0 c1 c2 c3 cf
    go_wp2
    go_end0
    exact ⟨rfl, h2.out, k2.out⟩
end Go.Proofs.YtllbbacnakoomaaGreatDoor
namespace Go.Proofs.YtllbbacnakoomaaGreatDoor
open Go.RowKit
set_option linter.unusedVariables false
theorem assertion_any {L : List Ct} {ta : Option Addr} {tc rb : Nat} {R : Rec} (G : Good L ta tc rb R) {w : World} {s : Ps} {nest : Nat} {n : T} {s' : Ps} (h : PS L ta tc rb s w) (hn : nest ≤ 1000) (hin : s.at_ + 1 ≤ L.length) (hr : assertionF L R nest s = some (n, s')) :
 Calls Tryz.prog 117 #[.pointer (some ⟨rb, 0, none⟩), .int .i64 nest] w (NdRet L ta tc rb w n s') := by
 have C := Hd ((Cx.start h).alloc nzO (a := w.heap.size) rfl)
 have hlt := h.lt
 have hlo := h.lo
 have hlen := h.len
 have g2 : IntKind.i64.wrap (s.at_ + 1) = s.at_ + 1 := IntWalk.i64_in _ (by omega)
 unfold assertionF at hr
 obtain ⟨⟨b, z0⟩, hb1, hb2⟩ := Option.bind_eq_some_iff.1 hr
 simp only at hb2
 replace hb1 := Hd hb1
 replace hb2 := Hd hb2
 clear hr
 have hr := hb2.out
 clear hb2
 obtain ⟨z, hz⟩ : ∃ z, z = needP L z0 (⟨#[44]⟩ : ByteArray) := ⟨_, rfl⟩
 rw [← hz] at hr
 replace hz := Hd hz
 try clear c0 c1 c2 c3 cf
 obtain ⟨p4, he4, c0, c1, c2, c3, cf⟩ := C.out.ps.cells
 clear he4
 replace C := Hd (C.out.up (n := 1) (by omega) hin)
 clear hlo hlen hlt
 go_enter Tryz.func117, Tryz.ntmps117
 go_wp2_with fail
 refine (rNeed_any C.out.ps (⟨#[40]⟩ : ByteArray)).mono ?_
 rintro e w1 ⟨rfl, h1, k1⟩
 replace C := Hd (C.out.call h1 k1)
 clear c0 c1 c2 c3 cf
 go_wp2_with fail
 refine (rCond_any G C.out.ps hn hb1.out).mono ?_
 rintro e w6 ⟨ao6, cap6, rfl, hn6, h6, k6⟩
 replace C := Hd (C.out.ret hn6 h6 k6)
 unfold ndV
 replace C := Hd (C.out.alloc (bxO b.1 ao6 cap6) (a := w6.heap.size) rfl)
 have HN := Hd (rNeed_any C.out.ps (⟨#[44]⟩ : ByteArray))
 rw [← hz.out] at HN
 go_wp2_with fail
 refine (HN.out).mono ?_
 rintro e w2 ⟨rfl, h2, k2⟩
 replace C := Hd (C.out.call h2 k2)
 clear HN
 try clear c0 c1 c2 c3 cf
 obtain ⟨p4, he4, c0, c1, c2, c3, cf⟩ := C.out.ps.cells
 clear he4
 cases hbad : z.bad with
 | true =>
   rw [if_pos (.inl hbad)] at hr
   obtain ⟨rfl, rfl⟩ := Prod.mk.inj (Option.some.inj hr)
   rw [hbad] at c3
   go_wp2_with fail
   refine (rFail_any C.out.ps).mono ?_
   rintro e w3 ⟨rfl, h3, k3⟩
   replace C := Hd (C.out.call h3 k3)
   obtain ⟨q0, q1, q2, q3, q4, qf⟩ := nd_cells (C.out.var (i := 1) rfl)
   replace C := Hd (C.out.leaf eB eB 0 0)
   have hcc := C.out.var (i := 1) rfl
   go_wp2_with (refine stN rfl rfl rfl rfl hcc rfl rfl (by simp [Value.oneCell']) ?_)
   refine retN rfl rfl rfl (setRow_heap _ _ _ _ _ _ hcc) rfl ?_
   exact ⟨_, _, rfl, (C.out.set (i := 1) rfl rfl _).out (.head _)⟩
 | false =>
   rw [hbad] at c3
   obtain ⟨t, ht⟩ : ∃ t, t = tokP L z.at_ := ⟨_, rfl⟩
   have HT := Hd (tok_any C.out.ps)
   rw [← ht] at HT hr
   unfold ctV at HT
   have hfd := fun w => fld_kind (.int .i64 t.fro) (.int .i64 t.cnt) undef t.kind t.text t.file t.f t.t w
   by_cases hk6 : t.kind = 6
   ·rw [if_neg (by rw [hbad, hk6]; simp)] at hr
    replace ht := Hd ht
    rw [hk6] at hfd HT
    go_wp2_with fail
    refine (HT.out).mono ?_
    rintro e w3 ⟨rfl, hb3⟩
    replace C := Hd (C.out.below hb3)
    clear HT c0 c1 c2 c3 cf
    obtain ⟨rfl, rfl⟩ := Prod.mk.inj (Option.some.inj hr)
    have HL := Hd (rLeaf_any C.out.ps (⟨#[115,116,114,105,110,103]⟩ : ByteArray) (by rw [← ht.out, hk6]; decide))
    go_wp2_with fail
    refine (HL.out).mono ?_
    rintro e w7 ⟨rfl, h7, k7⟩
    replace C := Hd (C.out.call h7 k7)
    clear HL
    replace C := Hd ((C.out.leafT z (⟨#[115,116,114,105,110,103]⟩ : ByteArray)).alloc (lfO (leafP L z (⟨#[115,116,114,105,110,103]⟩ : ByteArray))) (a := w7.heap.size) rfl)
    go_wp2_with fail
    refine (rNeed_any C.out.ps (⟨#[41]⟩ : ByteArray)).mono ?_
    rintro e w8 ⟨rfl, h8, k8⟩
    replace C := Hd (C.out.call h8 k8)
    go_wp2_with fail
    refine (rNeed_any C.out.ps (⟨#[59]⟩ : ByteArray)).mono ?_
    rintro e w9 ⟨rfl, h9, k9⟩
    replace C := Hd (C.out.call h9 k9)
    obtain ⟨b0, b1, b2, b3, b4, bf⟩ := nd_cells (C.out.var (i := 0) rfl)
    obtain ⟨q0, q1, q2, q3, q4, qf⟩ := nd_cells (C.out.var (i := 1) rfl)
    replace C := Hd (C.out.lit [⟨b.1, ao6, cap6⟩, ⟨leafP L z (⟨#[115,116,114,105,110,103]⟩ : ByteArray), none, 0⟩] (by simp) (by simp) rfl (a := w9.heap.size) rfl (n := 2) rfl)
    go_wp2_with fail
    refine (rMake_any C.out.ps (⟨#[97,115,115,101,114,116]⟩ : ByteArray) ⟨#[]⟩ s.at_ _ _ _).mono ?_
    rintro e w4 ⟨rfl, hb4⟩
    replace C := Hd (C.out.made hb4 (by simp) (⟨#[97,115,115,101,114,116]⟩ : ByteArray) ⟨#[]⟩ s.at_)
    clear b0 b1 b2 b3 b4 bf q0 q1 q2 q3 q4 qf
    have hcc := C.out.var (i := 2) rfl
    go_wp2_with (refine stN rfl rfl rfl rfl hcc rfl rfl (by simp [Value.oneCell']) ?_)
    refine retN rfl rfl rfl (setRow_heap _ _ _ _ _ _ hcc) rfl ?_
    exact ⟨_, _, rfl, (C.out.set (i := 2) rfl rfl _).out (.head _)⟩
   ·rw [if_pos (.inr hk6)] at hr
    obtain ⟨rfl, rfl⟩ := Prod.mk.inj (Option.some.inj hr)
    have hk' : (t.kind != 6) = true := by simpa using hk6
    replace ht := Hd ht
    go_wp2_with fail
    refine (HT.out).mono ?_
    rintro e w3 ⟨rfl, hb3⟩
    replace C := Hd (C.out.below hb3)
    clear c0 c1 c2 c3 cf
    go_wp2_with fail
    refine (rFail_any C.out.ps).mono ?_
    rintro e w4 ⟨rfl, h4, k4⟩
    replace C := Hd (C.out.call h4 k4)
    obtain ⟨q0, q1, q2, q3, q4, qf⟩ := nd_cells (C.out.var (i := 1) rfl)
    replace C := Hd (C.out.leaf eB eB 0 0)
    have hcc := C.out.var (i := 1) rfl
    go_wp2_with (refine stN rfl rfl rfl rfl hcc rfl rfl (by simp [Value.oneCell']) ?_)
    refine retN rfl rfl rfl (setRow_heap _ _ _ _ _ _ hcc) rfl ?_
    exact ⟨_, _, rfl, (C.out.set (i := 1) rfl rfl _).out (.head _)⟩
end Go.Proofs.YtllbbacnakoomaaGreatDoor
namespace Go.Proofs.YtllbbacnakoomaaGreatDoor
open Go.RowKit
set_option linter.unusedVariables false
section
variable {L : List Ct} {ta : Option Addr} {tc rb : Nat} {F : Nat → Prop} {O0 : Option Nat} {w0 : World} {s s' : Ps} {ns : List Nd} {vs : List (Nat × Obj)} {ks : List T} {v : Value} {w w' : World}
theorem Cx.kd (C : Cx L ta tc rb (fun _ => False) none w0 s ns vs ks v w) : KdAt w w0.heap.size ks v := by
 obtain ⟨css, h1, h2⟩ := C.own
 refine ⟨css, ⟨⟨h1.1.1, ?_⟩, h1.2⟩, h2.wide fun k hk _ => ⟨hk.1.elim (fun h => h.elim) id, hk.2.2⟩⟩
 rcases h1.1.2 with h0 | ⟨g, cap, cur, hv, hg1, r⟩
 ·exact .inl h0
 ·refine .inr ⟨g, cap, cur, hv, ?_, r⟩
  rcases (C.olo g (by rw [hv]; rfl)).2 with h | h
  ·exact h
  ·cases h
theorem Cx.retK (C : Cx L ta tc rb F O0 w0 s ns vs ks v w) {ks' : List T} {v' : Value} (hk : KdAt w' w.heap.size ks' v') (h : PS L ta tc rb s' w') (k : w.grownBy w' (some rb)) : Cx L ta tc rb F O0 w0 s' ns vs ks' v' w' := by
 have C' := (C.call h k).fresh
 obtain ⟨css, h1, h2⟩ := hk
 have hge := h1.ge
 have hvs : ∀ x ∈ vs, x.1 < w.heap.size := fun x hx => lt_of_block (C.vok x hx).1
 have hN : ∀ x ∈ ns, Rep w' (Ft F w0.heap.size vs v'.ownBlock) x.n x.cs := fun x hx => by
  have hne : ∀ k, Ft F w0.heap.size vs v.ownBlock k → k ≠ rb := fun k hk => by
   rintro rfl
   exact C.nrb hk
  exact (((C.nok x hx).wide (G := fun k => Ft F w0.heap.size vs v.ownBlock k ∧ k < w.heap.size) fun k h1 h2 => ⟨h1, h2⟩).later (fun i hi hl => k.block i hl (by intro e; exact hne i hi.1 (Option.some.inj e)))).wide fun k hk _ => ⟨hk.1.1, hk.1.2.1, fun e => by have := hge _ e; have := hk.2; omega⟩
 refine ⟨C'.ps, C'.kp, C'.fr, C'.rb0, C'.tlo, C'.vok, C'.vnd, ⟨css, h1.mono (Nat.zero_le _), h2.wide fun k hk _ => ⟨.inr (Nat.le_trans C.kp.size hk.1), fun x hx e => by have := hvs x hx; have := hk.1; omega, hk.2⟩⟩, fun i hi => ?_, fun x hx e => ?_, hN⟩
 ·have h1 := hge _ hi
  have h2 := C.ps.lt
  exact ⟨by omega, .inl (Nat.le_trans C.kp.size h1)⟩
 ·have h1 := hge _ e
  have h2 := hvs x hx
  omega
end
def KdRet (L : List Ct) (ta : Option Addr) (tc rb : Nat) (w : World) (ks : List T) (s : Ps) (e : Ending) (w' : World) : Prop :=
 ∃ m ao cap, e = .returned (.slice ao m cap) ∧ Hid (ks.length = m) ∧ Hid (m ≤ 6000) ∧ KdAt w' w.heap.size ks (.slice ao m cap) ∧ PS L ta tc rb s w' ∧ w.grownBy w' (some rb)
theorem eqb_no {a : ByteArray} (l : List UInt8) (h : a ≠ ⟨l.toArray⟩) : (a.toList == l) = false := by
 have := beq_bytes a ⟨l.toArray⟩
 rw [decide_eq_false h, ByteArray.toList_eq ⟨l.toArray⟩] at this
 simpa using this
theorem quals_any {L : List Ct} {ta : Option Addr} {tc rb : Nat} {w : World} {s : Ps} {n : List T} {s' : Ps} (h : PS L ta tc rb s w) (hr : qualsF L s = some (n, s')) :
 Calls Tryz.prog 160 #[.pointer (some ⟨rb, 0, none⟩)] w (KdRet L ta tc rb w n s') := by
 have C := Hd (Cx.start h)
 have hlt := h.lt
 unfold qualsF at hr
 replace hr := Hd hr
 go_enter Tryz.func160, Tryz.ntmps160
 obtain ⟨t, ht⟩ : ∃ t, t = tokP L s.at_ := ⟨_, rfl⟩
 have HT := Hd (tok_any C.out.ps)
 rw [← ht] at HT
 unfold ctV at HT
 replace ht := Hd ht
 go_wp2_with fail
 refine (HT.out).mono ?_
 rintro e w1 ⟨rfl, hb1⟩
 replace C := Hd (C.out.below hb1)
 clear HT
 replace C := Hd (C.out.alloc (ctO t) (a := w1.heap.size) rfl)
 go_wp2_with fail
 go_loopg [2,3] KK (fun q v2 v3 wx => ∃ (k : List T) (z : Ps) (m : Nat) (ao : Option Addr) (cap : Nat) (g : Nat) (t : Ct), v2 = .slice ao m cap ∧ v3 = .pointer (some ⟨g, 0, none⟩) ∧ Hid (t = tokP L z.at_) ∧ Hid (k.length = m) ∧ Hid (m + q ≤ 6000) ∧ Hid (Cx L ta tc rb (fun _ => False) none w z [] [(g, ctO t)] k (.slice ao m cap) wx) ∧ Hid (qualLoop L q k z = some (n, s')))
 case atStart => exact ⟨[], s, 0, none, 0, _, _, rfl, rfl, ht, Hd rfl, Hd (by unfold KK; omega), C, hr⟩
 case round =>
  have Cx := C
  have hty := ht
  clear Cx C hr hty ht
  obtain ⟨k, z, m, ao, cap, g, t, rfl, rfl, ht, hm, hq, C, hL⟩ := hrel
  obtain ⟨w4, hw4⟩ : ∃ w4, w4 = wr := ⟨_, rfl⟩
  subst hw4
  cases gk with
  | zero => exact absurd hL.out (by simp [qualLoop])
  | succ gk =>
    have hL2 := hL.out
    unfold qualLoop at hL2
    rw [← ht.out] at hL2
    obtain ⟨x0, x1, x2, x3, x4, x5, x6, xf⟩ := ct_box (C.out.var (i := 0) rfl)
    by_cases hk2 : t.kind = 2
    ·rw [hk2] at x0
     have HK := Hd (kindOf_any C.out.ps.tab t.text)
     obtain ⟨kq, hkq⟩ : ∃ kq, kq = kindOf t.text := ⟨_, rfl⟩
     rw [← hkq] at HK
     have hqb : qualB t = decide (kq = (⟨#[113,117,97,108,105,102,105,101,114]⟩ : ByteArray)) := by unfold qualB; rw [hk2, hkq]; simp
     replace hkq := Hd hkq
     rw [hqb] at hL2
     clear hqb
     replace hk2 := Hd hk2
     by_cases hq1 : kq = (⟨#[113,117,97,108,105,102,105,101,114]⟩ : ByteArray)
     ·rw [if_pos (decide_eq_true hq1)] at hL2
      rw [hq1] at HK
      go_wp2_with fail
      refine (HK.out).mono ?_
      rintro e w5 ⟨rfl, hb5⟩
      replace C := Hd (C.out.below hb5)
      clear HK
      have HL := Hd (rLeaf_any C.out.ps (⟨#[113,117,97,108,105,102,105,101,114]⟩ : ByteArray) (by rw [← ht.out, hk2.out]; decide))
      go_wp2_with fail
      refine (HL.out).mono ?_
      rintro e w6 ⟨rfl, h6, k6⟩
      replace C := Hd (C.out.call h6 k6)
      clear HL x0 x1 x2 x3 x4 x5 x6 xf
      replace C := Hd (C.out.leafT z (⟨#[113,117,97,108,105,102,105,101,114]⟩ : ByteArray))
      replace hL2 := Hd hL2
      go_wp2_with (refine wpList_snoc C.out (.head _) (by have := hm.out; have := hq.out; omega) rfl rfl rfl rfl rfl ?_; intro m7 ao7 cap7 w7 hm7 C7; obtain ⟨x0, x1, x2, x3, x4, x5, x6, xf⟩ := ct_box (C7.var (i := 0) rfl))
      replace C := Hd (C7.alloc (ctO t) (a := w7.heap.size) rfl)
      clear C7 x0 x1 x2 x3 x4 x5 x6 xf
      obtain ⟨t2, ht2⟩ : ∃ t2, t2 = tokP L (z.up 1).at_ := ⟨_, rfl⟩
      have HT := Hd (tok_any C.out.ps)
      rw [← ht2] at HT
      unfold ctV at HT
      replace ht2 := Hd ht2
      refine HT.out.mono ?_
      rintro e w8 ⟨rfl, hb8⟩
      replace C := Hd (C.out.below hb8)
      clear HT
      have hcc := C.out.var (i := 0) rfl
      go_wp2_with (refine wpList_store_row rfl 95 _ _ rfl w7.heap.size _ rfl rfl 95 _ hcc info_tok rfl (by simp [Value.oneCell']) ?_)
      go_roundg gk
      case measure => omega
      case rel => exact ⟨_, z.up 1, _, _, _, _, t2, rfl, rfl, ht2, hm7, Hd (by have h1 := hm7.out; have := hm.out; have := hq.out; simp at h1; omega), Hd ((C.out.setT (i := 0) rfl rfl _).weak (by simp) ((List.nil_sublist _).cons_cons _)), hL2⟩
     ·have hq2 := eqb_no ([113,117,97,108,105,102,105,101,114] : List UInt8) hq1
      rw [if_neg (by simpa using hq1)] at hL2
      obtain ⟨rfl, rfl⟩ := Prod.mk.inj (Option.some.inj hL2)
      go_wp2_with fail
      refine (HK.out).mono ?_
      rintro e w5 ⟨rfl, hb5⟩
      replace C := Hd (C.out.below hb5)
      go_wp2
      go_ret
      exact ⟨_, _, _, rfl, hm, Hd (by have := hq.out; omega), C.out.kd, C.out.ps, C.out.kp.grown⟩
    ·have hk' : (t.kind == 2) = false := beq_false_of_ne hk2
     rw [if_neg (by unfold qualB; rw [decide_eq_false hk2]; simp)] at hL2
     obtain ⟨rfl, rfl⟩ := Prod.mk.inj (Option.some.inj hL2)
     go_wp2
     go_ret
     exact ⟨_, _, _, rfl, hm, Hd (by have := hq.out; omega), C.out.kd, C.out.ps, C.out.kp.grown⟩
def DirOk (L : List Ct) (ta : Option Addr) (tc rb : Nat) (R : Rec) : Prop :=
 ∀ {w : World} {s : Ps} {nest mode : Nat} {n : T} {s' : Ps}, PS L ta tc rb s w → nest ≤ 1000 → mode ≤ 2 → directF L R nest mode s = some (n, s') → Calls Tryz.prog 159 #[.pointer (some ⟨rb, 0, none⟩), .int .i64 nest, .int .i64 mode] w (NdRet L ta tc rb w n s')
theorem pointer_step {L : List Ct} {ta : Option Addr} {tc rb : Nat} {R : Rec} (G : Good L ta tc rb R) (HD : DirOk L ta tc rb R) {w : World} {s : Ps} {nest mode : Nat} {n : T} {s' : Ps} (h : PS L ta tc rb s w) (hn : nest ≤ 1000) (hm : mode ≤ 2) (hr : pointerF L R nest mode s = some (n, s')) :
 Calls Tryz.prog 110 #[.pointer (some ⟨rb, 0, none⟩), .int .i64 nest, .int .i64 mode] w (NdRet L ta tc rb w n s') := by
 have C := Hd ((Cx.start h).alloc nzO (a := w.heap.size) rfl)
 have hlt := h.lt
 have hmm := Hd hm
 clear hm
 unfold pointerF at hr
 try clear c0 c1 c2 c3 cf
 obtain ⟨p4, he4, c0, c1, c2, c3, cf⟩ := C.out.ps.cells
 clear he4
 go_enter Tryz.func110, Tryz.ntmps110
 cases p1 : hasP L s (⟨#[42]⟩ : ByteArray) with
 | false =>
   rw [p1, if_neg (by simp)] at hr
   replace hr := Hd hr
   have HH := Hd (rHas_any C.out.ps (⟨#[42]⟩ : ByteArray))
   rw [p1, if_neg (by simp)] at HH
   go_wp2_with fail
   refine (HH.out).mono ?_
   rintro e w1 ⟨rfl, h1, k1⟩
   replace C := Hd (C.out.call h1 k1)
   clear HH
   go_wp2_with fail
   refine (HD C.out.ps hn hmm.out hr.out).mono ?_
   rintro e w2 ⟨ao2, cap2, rfl, hn2, h2, k2⟩
   replace C := Hd (C.out.ret hn2 h2 k2)
   unfold ndV
   have hcc := C.out.var (i := 0) rfl
   go_wp2_with (refine stN rfl rfl rfl rfl hcc rfl rfl (by simp [Value.oneCell']) ?_)
   refine retN rfl rfl rfl (setRow_heap _ _ _ _ _ _ hcc) rfl ?_
   exact ⟨_, _, rfl, (C.out.set (i := 0) rfl rfl _).out (.head _)⟩
 | true =>
   rw [p1, if_pos rfl] at hr
   obtain ⟨⟨ks, z1⟩, hr1, hr2⟩ := Option.bind_eq_some_iff.1 hr
   simp only at hr2
   replace hr1 := Hd hr1
   replace hr2 := Hd hr2
   clear hr
   have hr := hr2.out
   clear hr2
   obtain ⟨⟨b, z2⟩, hb1, hb2⟩ := Option.bind_eq_some_iff.1 hr
   simp only at hb2
   replace hb1 := Hd hb1
   replace hb2 := Hd hb2
   clear hr
   obtain ⟨rfl, rfl⟩ := Prod.mk.inj (Option.some.inj hb2.out)
   clear hb2
   have HH := Hd (rHas_any C.out.ps (⟨#[42]⟩ : ByteArray))
   rw [p1, if_pos rfl] at HH
   go_wp2_with fail
   refine (HH.out).mono ?_
   rintro e w1 ⟨rfl, h1, k1⟩
   replace C := Hd (C.out.call h1 k1)
   clear HH
   clear c0 c1 c2 c3 cf
   go_wp2_with fail
   refine (quals_any C.out.ps hr1.out).mono ?_
   rintro e w2 ⟨m, ao2, cap2, rfl, hm, hq, hk2, h2, k2⟩
   replace C := Hd (C.out.retK hk2 h2 k2)
   go_wp2_with fail
   refine (G.pointer C.out.ps hn hmm.out hb1.out).mono ?_
   rintro e w3 ⟨ao3, cap3, rfl, hn3, h3, k3⟩
   replace C := Hd (C.out.ret hn3 h3 k3)
   unfold ndV
   go_wp2_with (refine wpList_snoc C.out (.head _) (by have := hm.out; have := hq.out; omega) rfl rfl rfl rfl rfl ?_; intro m7 ao7 cap7 w7 hm7 C7)
   replace C := Hd C7
   clear C7
   go_wp2_with fail
   refine (rMake_any C.out.ps (⟨#[112,111,105,110,116,101,114]⟩ : ByteArray) ⟨#[]⟩ s.at_ _ _ _).mono ?_
   rintro e w8 ⟨rfl, hb8⟩
   replace C := Hd (C.out.made hb8 (by have := hm7.out; have := hm.out; have := hq.out; simp; omega) (⟨#[112,111,105,110,116,101,114]⟩ : ByteArray) ⟨#[]⟩ s.at_)
   have hcc := C.out.var (i := 0) rfl
   go_wp2_with (refine stN rfl rfl rfl rfl hcc rfl rfl (by simp [Value.oneCell']) ?_)
   refine retN rfl rfl rfl (setRow_heap _ _ _ _ _ _ hcc) rfl ?_
   obtain rfl := hm7.out
   exact ⟨_, _, rfl, (C.out.set (i := 0) rfl rfl _).out (.head _)⟩
end Go.Proofs.YtllbbacnakoomaaGreatDoor
namespace Go.Proofs.YtllbbacnakoomaaGreatDoor
open Go.RowKit
set_option linter.unusedVariables false
def notQ (k : T) : Bool := !decide (k.kind = (⟨#[113,117,97,108,105,102,105,101,114]⟩ : ByteArray))
theorem rep_agg {w : World} {F : Nat → Prop} {x : T} {cs : List Value} (h : Rep w F x cs) : ∃ ao cap, cs = ndC x ao cap := by
 cases h with
 | mk hk hr hc => exact ⟨_, _, rfl⟩
theorem nq1_any (x : T) (ao : Option Addr) (cap : Nat) (w : World) :
 Calls Tryz.prog 65 #[ndV x ao cap] w fun e w' => e = .returned (.bool (notQ x)) ∧ Below w.heap.size w w' := by
 have hb := fun o => (Below.refl w.heap.size w).alloc (Nat.le_refl _) o
 unfold ndV notQ
 by_cases hq : x.kind = (⟨#[113,117,97,108,105,102,105,101,114]⟩ : ByteArray)
 ·rw [decide_eq_true hq, hq]
  go_enter Tryz.func65, Tryz.ntmps65
  go_wp2
  go_ret
  exact ⟨rfl, hb _⟩
 ·rw [decide_eq_false hq]
  have hf := eqb_no ([113,117,97,108,105,102,105,101,114] : List UInt8) hq
  go_enter Tryz.func65, Tryz.ntmps65
  go_wp2
  go_ret
  exact ⟨rfl, hb _⟩
theorem nq1_index (xs : List T) (F : Nat → Prop) (w : World) (ao : Option Addr) (ca : Nat) (css : List (List Value)) (ha : Reps w F xs css) (hra : RowF w F 5 ao css) (n : Nat) (h1 : xs.length = n) (hn : n ≤ 1000000000) :
 Calls Tryz.prog 64 #[.slice ao n ca, .func (.func 65) #[] #[]] w fun e w' => e = .returned (.int .i64 (idxV (xs.findIdx? notQ))) ∧ Below w.heap.size w w' := by
 have H1 := Hd h1
 clear h1
 obtain ⟨o, ho⟩ : ∃ o, o = xs.findIdx? notQ := ⟨_, rfl⟩
 rw [← ho]
 have hst : Hid (o = ((xs.drop 0).findIdx? notQ).map (· + 0)) := Hd (by rw [ho]; simp)
 have hrf := Below.refl w.heap.size w
 replace ha := Hd ha
 replace hra := Hd hra
 clear ho
 go_enter Tryz.func64, Tryz.ntmps64
 go_wp2_with fail
 go_loopg [8] n (fun q v8 wx => ∃ i : Nat, q = n - i ∧ i ≤ n ∧ v8 = .int .i64 i ∧ Hid (Below w.heap.size w wx) ∧ Hid (o = ((xs.drop i).findIdx? notQ).map (· + i)))
 case atStart => exact ⟨0, rfl, Nat.zero_le _, rfl, Hd hrf, hst⟩
 case round =>
  obtain ⟨i, rfl, hi, rfl, hbw, hf⟩ := hrel
  by_cases hi8 : i < n
  ·have f1 : (i : Int) < (n : Int) := by omega
   have g1 : IntKind.i64.wrap ((i : Int) + 1) = (i : Int) + 1 := IntWalk.i64_in _ (by omega)
   obtain ⟨x, hx⟩ : ∃ x, xs[i]? = some x := ⟨xs[i]'(by rw [H1.out]; exact hi8), by simp⟩
   obtain ⟨xc, hxc, hxr⟩ := ha.out.at hx
   obtain ⟨kb, ko, rfl, _, hat⟩ := hra.out.later (KeptOn.of_below hbw.out) (by intro h0; have := ha.out.len; rw [h0, H1.out] at this; simp at this; omega)
   obtain ⟨xa, xp, rfl⟩ := rep_agg hxr
   have c0 := hat.cell hxc (j := 0) rfl
   have c1 := hat.cell hxc (j := 1) rfl
   have c2 := hat.cell hxc (j := 2) rfl
   have c3 := hat.cell hxc (j := 3) rfl
   have c4 := hat.cell hxc (j := 4) rfl
   simp only [Nat.add_zero] at c0
   have HL := Hd (nq1_any x xa xp wr)
   have hf2 := hf.out
   rw [drop_get hx, List.findIdx?_cons] at hf2
   obtain ⟨cb, hcb⟩ : ∃ c, c = notQ x := ⟨_, rfl⟩
   rw [← hcb] at HL hf2
   unfold ndV at HL
   replace hf2 := Hd hf2
   clear hxr hxc hat hx hcb
   go_wp2_with fail
   refine HL.out.mono ?_
   rintro e w2 ⟨rfl, hb2⟩
   have hb3 := hbw.out.trans (hb2.mono hbw.out.size)
   cases cb with
   | true =>
     go_wp2_with fail
     go_ret
     refine ⟨?_, hb3⟩
     have : o = some i := by rw [hf2.out]; simp
     rw [this]
     rfl
   | false =>
     go_wp2_with fail
     go_roundg (n - (i + 1))
     case measure => omega
     case rel =>
      refine ⟨i + 1, rfl, hi8, by go_num, Hd hb3, Hd ?_⟩
      rw [hf2.out]
      simp only [Bool.false_eq_true, if_false, Option.map_map]
      congr 1
      funext n
      simp only [Function.comp]
      omega
  ·obtain rfl : i = n := by omega
   go_wp2_with fail
   go_ret
   refine ⟨?_, hbw.out⟩
   have : o = none := by rw [hf.out, List.drop_eq_nil_of_le (by rw [H1.out]; exact Nat.le_refl _)]; rfl
   rw [this]
   rfl
theorem nq2_any (x : T) (ao : Option Addr) (cap : Nat) (w : World) :
 Calls Tryz.prog 173 #[ndV x ao cap] w fun e w' => e = .returned (.bool (notQ x)) ∧ Below w.heap.size w w' := by
 have hb := fun o => (Below.refl w.heap.size w).alloc (Nat.le_refl _) o
 unfold ndV notQ
 by_cases hq : x.kind = (⟨#[113,117,97,108,105,102,105,101,114]⟩ : ByteArray)
 ·rw [decide_eq_true hq, hq]
  go_enter Tryz.func173, Tryz.ntmps173
  go_wp2
  go_ret
  exact ⟨rfl, hb _⟩
 ·rw [decide_eq_false hq]
  have hf := eqb_no ([113,117,97,108,105,102,105,101,114] : List UInt8) hq
  go_enter Tryz.func173, Tryz.ntmps173
  go_wp2
  go_ret
  exact ⟨rfl, hb _⟩
theorem nq2_index (xs : List T) (F : Nat → Prop) (w : World) (ao : Option Addr) (ca : Nat) (css : List (List Value)) (ha : Reps w F xs css) (hra : RowF w F 5 ao css) (n : Nat) (h1 : xs.length = n) (hn : n ≤ 1000000000) :
 Calls Tryz.prog 64 #[.slice ao n ca, .func (.func 173) #[] #[]] w fun e w' => e = .returned (.int .i64 (idxV (xs.findIdx? notQ))) ∧ Below w.heap.size w w' := by
 have H1 := Hd h1
 clear h1
 obtain ⟨o, ho⟩ : ∃ o, o = xs.findIdx? notQ := ⟨_, rfl⟩
 rw [← ho]
 have hst : Hid (o = ((xs.drop 0).findIdx? notQ).map (· + 0)) := Hd (by rw [ho]; simp)
 have hrf := Below.refl w.heap.size w
 replace ha := Hd ha
 replace hra := Hd hra
 clear ho
 go_enter Tryz.func64, Tryz.ntmps64
 go_wp2_with fail
 go_loopg [8] n (fun q v8 wx => ∃ i : Nat, q = n - i ∧ i ≤ n ∧ v8 = .int .i64 i ∧ Hid (Below w.heap.size w wx) ∧ Hid (o = ((xs.drop i).findIdx? notQ).map (· + i)))
 case atStart => exact ⟨0, rfl, Nat.zero_le _, rfl, Hd hrf, hst⟩
 case round =>
  obtain ⟨i, rfl, hi, rfl, hbw, hf⟩ := hrel
  by_cases hi8 : i < n
  ·have f1 : (i : Int) < (n : Int) := by omega
   have g1 : IntKind.i64.wrap ((i : Int) + 1) = (i : Int) + 1 := IntWalk.i64_in _ (by omega)
   obtain ⟨x, hx⟩ : ∃ x, xs[i]? = some x := ⟨xs[i]'(by rw [H1.out]; exact hi8), by simp⟩
   obtain ⟨xc, hxc, hxr⟩ := ha.out.at hx
   obtain ⟨kb, ko, rfl, _, hat⟩ := hra.out.later (KeptOn.of_below hbw.out) (by intro h0; have := ha.out.len; rw [h0, H1.out] at this; simp at this; omega)
   obtain ⟨xa, xp, rfl⟩ := rep_agg hxr
   have c0 := hat.cell hxc (j := 0) rfl
   have c1 := hat.cell hxc (j := 1) rfl
   have c2 := hat.cell hxc (j := 2) rfl
   have c3 := hat.cell hxc (j := 3) rfl
   have c4 := hat.cell hxc (j := 4) rfl
   simp only [Nat.add_zero] at c0
   have HL := Hd (nq2_any x xa xp wr)
   have hf2 := hf.out
   rw [drop_get hx, List.findIdx?_cons] at hf2
   obtain ⟨cb, hcb⟩ : ∃ c, c = notQ x := ⟨_, rfl⟩
   rw [← hcb] at HL hf2
   unfold ndV at HL
   replace hf2 := Hd hf2
   clear hxr hxc hat hx hcb
   go_wp2_with fail
   refine HL.out.mono ?_
   rintro e w2 ⟨rfl, hb2⟩
   have hb3 := hbw.out.trans (hb2.mono hbw.out.size)
   cases cb with
   | true =>
     go_wp2_with fail
     go_ret
     refine ⟨?_, hb3⟩
     have : o = some i := by rw [hf2.out]; simp
     rw [this]
     rfl
   | false =>
     go_wp2_with fail
     go_roundg (n - (i + 1))
     case measure => omega
     case rel =>
      refine ⟨i + 1, rfl, hi8, by go_num, Hd hb3, Hd ?_⟩
      rw [hf2.out]
      simp only [Bool.false_eq_true, if_false, Option.map_map]
      congr 1
      funext n
      simp only [Function.comp]
      omega
  ·obtain rfl : i = n := by omega
   go_wp2_with fail
   go_ret
   refine ⟨?_, hbw.out⟩
   have : o = none := by rw [hf.out, List.drop_eq_nil_of_le (by rw [H1.out]; exact Nat.le_refl _)]; rfl
   rw [this]
   rfl
theorem names_idx (ks : List T) : (ks.findIdx? notQ = none ∧ namesT ks = ⟨#[]⟩) ∨ ∃ i x, ks.findIdx? notQ = some i ∧ ks[i]? = some x ∧ namesT ks = nameT x := by
 induction ks with
 | nil => exact .inl ⟨rfl, by rw [namesT]⟩
 | cons a r ih =>
   by_cases hq : a.kind = (⟨#[113,117,97,108,105,102,105,101,114]⟩ : ByteArray)
   ·have hn : notQ a = false := by unfold notQ; rw [decide_eq_true hq]; rfl
    rw [namesT, if_pos hq, List.findIdx?_cons, hn]
    rcases ih with ⟨h1, h2⟩ | ⟨i, x, h1, h2, h3⟩
    ·exact .inl ⟨by rw [h1]; rfl, h2⟩
    ·exact .inr ⟨i + 1, x, by rw [h1]; rfl, by simpa using h2, h3⟩
   ·have hn : notQ a = true := by unfold notQ; rw [decide_eq_false hq]; rfl
    rw [namesT, if_neg hq, List.findIdx?_cons, hn]
    exact .inr ⟨0, a, rfl, rfl, rfl⟩
theorem kid_lt {x : T} {ks : List T} (h : x ∈ ks) (k t : ByteArray) (f o : Int) : T.size x < T.size (.mk k t f o ks) := by
 rw [T.size]
 induction ks with
 | nil => cases h
 | cons a r ih =>
   rw [T.sizes]
   rcases List.mem_cons.1 h with rfl | h
   ·omega
   ·have := ih h
    omega
theorem name_any {w : World} {F : Nat → Prop} {x : T} {ao : Option Addr} {cap : Nat} (h : Rep w F x (ndC x ao cap)) :
 Calls Tryz.prog 29 #[ndV x ao cap] w fun e w' => e = .returned (.string (nameT x)) ∧ Below w.heap.size w w' := by
 have hR := Hd h
 have hb0 := Hd ((Below.refl w.heap.size w).alloc (Nat.le_refl _) (bxO x ao cap))
 have hc0 := Hd (heap_alloc_new w (bxO x ao cap))
 clear h
 unfold ndV
 obtain ⟨nm, hnm⟩ : ∃ nm, nm = nameT x := ⟨_, rfl⟩
 rw [← hnm]
 have hN : Hid (nameT x = nm) := Hd hnm.symm
 clear hnm
 go_enter Tryz.func29, Tryz.ntmps29
 go_wp2_with fail
 refine wp_scope_gh 0 (fun q a' wx => ∃ (y : T) (ao : Option Addr) (cap : Nat) (u0 u3 u4 u5 u6 u7 u8 u9 u10 u11 u12 u13 u14 u15 u16 u17 u18 : Value), a' = { tmps := #[u0, .pointer (some ⟨w.heap.size, 0, none⟩), .string ⟨#[]⟩, u3, u4, u5, u6, u7, u8, u9, u10, u11, u12, u13, u14, u15, u16, u17, u18], defers := [] } ∧ Hid (q = T.size y) ∧ Hid (wx.heap[w.heap.size]? = some (bxO y ao cap)) ∧ Hid (Rep w F y (ndC y ao cap)) ∧ Hid (nameT y = nm) ∧ Hid (Below w.heap.size w wx)) rfl ?_ ?_
 ·intro Rst
  go_wp2_with fail
  go_step3
  go_step
  go_step
  exact Rst.out _ _ _ ⟨x, ao, cap, _, _, _, _, _, _, _, _, _, _, _, _, _, _, _, _, _, rfl, Hd rfl, hc0, hR, hN, hb0⟩
 ·rintro q a' wx ⟨y, ao, cap, u0, u3, u4, u5, u6, u7, u8, u9, u10, u11, u12, u13, u14, u15, u16, u17, u18, rfl, hq, hbx, hRy, hNy, hbw⟩
  obtain ⟨q0, q1, q2, q3, q4, qf⟩ := nd_cells hbx.out
  cases y with
  | mk k t f o ks =>
    simp only [T.kind, T.text, T.from_, T.to_, T.kids] at q0 q1 q2 q3 q4
    have hn := hNy.out
    rw [nameT] at hn
    by_cases hk : k = (⟨#[110,97,109,101]⟩ : ByteArray)
    ·rw [if_pos hk] at hn
     subst hk hn
     go_wp2
     simp only [Exit.jump]
     go_ret
     exact ⟨rfl, hbw.out⟩
    ·rw [if_neg hk] at hn
     have hf := eqb_no ([110,97,109,101] : List UInt8) hk
     obtain ⟨css, hks, hrow, hcl⟩ : ∃ css, Reps w F ks css ∧ RowF w F 5 ao css ∧ (ks.length ≤ cap ∧ ks.length ≤ 1000000000) := by
      cases hRy.out with
      | mk a b c => exact ⟨_, a, b, c⟩
     obtain ⟨m, hm⟩ : ∃ m, m = ks.length := ⟨_, rfl⟩
     rw [← hm] at q4 hcl
     have HI := Hd (nq1_index ks F wx ao cap css (hks.later (KeptOn.of_below hbw.out)) (hrow.later (KeptOn.of_below hbw.out)) m hm.symm hcl.2)
     rcases names_idx ks with ⟨h1, h2⟩ | ⟨i, z, h1, h2, h3⟩
     ·rw [h1] at HI
      rw [h2] at hn
      subst hn
      replace hm := Hd hm
      go_wp2_with fail
      refine HI.out.mono ?_
      rintro e w2 ⟨rfl, hb2⟩
      have hbw2 := Hd (hbw.out.trans (hb2.mono hbw.out.size))
      simp only [idxV]
      go_wp2
      simp only [Exit.jump]
      go_ret
      exact ⟨rfl, hbw2.out⟩
     ·rw [h1] at HI
      rw [h3] at hn
      have hlt := kid_lt (List.mem_of_getElem? h2) k t f o
      obtain ⟨zc, hzc, hzr⟩ := hks.at h2
      obtain ⟨za, zp, rfl⟩ := rep_agg hzr
      have him : i < m := by rw [hm]; exact (List.getElem?_eq_some_iff.1 h2).1
      have him2 : (i : Int) < (m : Int) := by omega
      have hi0 : ¬ ((i : Int) < 0) := by omega
      replace hm := Hd hm
      replace hq := Hd hq.out
      go_wp2_with fail
      refine HI.out.mono ?_
      rintro e w2 ⟨rfl, hb2⟩
      simp only [idxV]
      have hbw2 := hbw.out.trans (hb2.mono hbw.out.size)
      have hbx2 := (hb2.block _ (lt_of_block hbx.out)).trans hbx.out
      obtain ⟨kb, ko, rfl, _, hat⟩ := hrow.later (KeptOn.of_below hbw2) (by intro h0; rw [h0] at hzc; simp at hzc)
      have c0 := hat.cell hzc (j := 0) rfl
      have c1 := hat.cell hzc (j := 1) rfl
      have c2 := hat.cell hzc (j := 2) rfl
      have c3 := hat.cell hzc (j := 3) rfl
      have c4 := hat.cell hzc (j := 4) rfl
      simp only [Nat.add_zero] at c0
      clear q0 q1 q2 q3 q4 qf
      obtain ⟨q0, q1, q2, q3, q4, qf⟩ := nd_cells hbx2
      simp only [T.kind, T.text, T.from_, T.to_, T.kids] at q0 q1 q2 q3 q4
      rw [← hm.out] at q4
      go_wp2_with (refine stN rfl rfl rfl rfl hbx2 rfl rfl (by simp [Value.oneCell']) ?_)
      go_step3
      exact ⟨rfl, T.size z, by rw [hq.out]; exact hlt, z, za, zp, _, _, _, _, _, _, _, _, _, _, _, _, _, _, _, _, _, rfl, Hd rfl, Hd (setRow_heap _ _ _ _ _ _ hbx2), Hd hzr, Hd hn, Hd (Below.row hbw2 (Nat.le_refl _) _)⟩
end Go.Proofs.YtllbbacnakoomaaGreatDoor
