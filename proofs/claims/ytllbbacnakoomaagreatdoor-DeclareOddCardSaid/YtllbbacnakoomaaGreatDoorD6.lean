/- Texts of this seat's proofs, laid into one file. -/
import Derived.Test.YtllbbacnakoomaaGreatDoorD4
set_option maxRecDepth 100000
set_option maxHeartbeats 16000000
namespace Go.Proofs.YtllbbacnakoomaaGreatDoor
open Go.RowKit
set_option linter.unusedVariables false
theorem dnames_any {L : List Ct} {ta : Option Addr} {tc rb : Nat} {w : World} {s : Ps} {F : Nat → Prop} {a b : T} {ao bo : Option Addr} {ac bc : Nat} (h : PS L ta tc rb s w) (ha : Rep w F a (ndC a ao ac)) (hb : Rep w F b (ndC b bo bc)) :
 Calls Tryz.prog 120 #[drV rb, ndV a ao ac, ndV b bo bc] w fun e w' => e = .returned (.tuple #[]) ∧ PS L ta tc rb (s.declare (nameT b) (isTypedefT a)) w' ∧ w.grownBy w' (some rb) := by
 have C := Hd ((((Cx.start h).alloc (drO rb) (a := w.heap.size) rfl).alloc (bxO a ao ac) (a := w.heap.size + 1) (by simp)).alloc (bxO b bo bc) (a := w.heap.size + 2) (by simp))
 obtain ⟨W, hW⟩ : ∃ W, W = ((w.alloc (drO rb)).alloc (bxO a ao ac)).alloc (bxO b bo bc) := ⟨_, rfl⟩
 rw [← hW] at C
 have hbw : Below w.heap.size w W := by rw [hW]; exact (((Below.refl _ w).alloc (Nat.le_refl _) _).alloc (by simp) _).alloc (by simp; omega) _
 have hbD : Below W.heap.size W W.drew := (Below.refl _ W).drew
 have HF : Hid (∀ x, Below W.heap.size W x → (x.cell? ⟨w.heap.size, 0, none⟩ = some (.pointer (some ⟨rb, 0, none⟩))) ∧ x.heap[w.heap.size + 1]? = some (bxO a ao ac) ∧ x.heap[w.heap.size + 2]? = some (bxO b bo bc)) := Hd fun x hx =>
  ⟨(dr_cell ((C.out.below hx).var (i := 2) rfl)).1, (C.out.below hx).var (i := 1) rfl, (C.out.below hx).var (i := 0) rfl⟩
 have HNm : Hid (∀ x, Below W.heap.size W x → Calls Tryz.prog 29 #[ndV b bo bc] x fun e w' => e = .returned (.string (nameT b)) ∧ Below x.heap.size x w') := Hd fun x hx => name_any (hb.later (KeptOn.of_below (hbw.trans (hx.mono hbw.size))))
 have HTd : Hid (∀ x, Below W.heap.size W x → Calls Tryz.prog 71 #[ndV a ao ac] x fun e w' => e = .returned (.bool (isTypedefT a)) ∧ Below x.heap.size x w') := Hd fun x hx => isTypedef_any (ha.later (KeptOn.of_below (hbw.trans (hx.mono hbw.size))))
 have HDc : Hid (∀ x, Below W.heap.size W x → Calls Tryz.prog 131 #[.pointer (some ⟨rb, 0, none⟩), .string (nameT b), .bool (isTypedefT a)] x fun e w' => e = .returned (.tuple #[]) ∧ PS L ta tc rb (s.declare (nameT b) (isTypedefT a)) w' ∧ x.grownBy w' (some rb)) := Hd fun x hx => rDeclare_any (C.out.below hx).ps _ _
 obtain ⟨z0, z1, z2⟩ := HF.out _ (Below.refl _ W)
 obtain ⟨q0, q1, q2, q3, q4, qf⟩ := nd_cells z1
 obtain ⟨b0, b1, b2, b3, b4, bf⟩ := nd_cells z2
 replace z1 := Hd z1
 replace z2 := Hd z2
 generalize nameT b = nm at HNm HDc ⊢
 generalize isTypedefT a = td at HTd HDc ⊢
 unfold ndV at HNm HTd ⊢
 replace hbw := Hd hbw
 go_enter Tryz.func120, Tryz.ntmps120
 go_upto_region 1 with fail
 rw [← hW]
 replace hW := Hd hW
 clear ha hb
 go_region_with (first
  | (go_at_call 29; refine (HNm.out _ hbD).mono ?_; rintro e w1 ⟨rfl, hb1⟩; have hw1 := hbD.trans hb1; obtain ⟨z0, z1, z2⟩ := HF.out _ hw1; obtain ⟨q0, q1, q2, q3, q4, qf⟩ := nd_cells z1; obtain ⟨b0, b1, b2, b3, b4, bf⟩ := nd_cells z2; replace z1 := Hd z1; replace z2 := Hd z2)
  | (go_at_call 29; refine (HNm.out _ hv1).mono ?_; rintro e w2 ⟨rfl, hb2⟩; have hw2 := hv1.trans (hb2.mono hv1.size); obtain ⟨z0, z1, z2⟩ := HF.out _ hw2; replace z1 := Hd z1; replace z2 := Hd z2)
  | (go_at_call 71; refine (HTd.out _ hbD).mono ?_; rintro e v1 ⟨rfl, hb1⟩; have hv1 := hbD.trans hb1; obtain ⟨z0, z1, z2⟩ := HF.out _ hv1; obtain ⟨q0, q1, q2, q3, q4, qf⟩ := nd_cells z1; obtain ⟨b0, b1, b2, b3, b4, bf⟩ := nd_cells z2; replace z1 := Hd z1; replace z2 := Hd z2)
  | (go_at_call 71; refine (HTd.out _ hw1).mono ?_; rintro e w2 ⟨rfl, hb2⟩; have hw2 := hw1.trans (hb2.mono hw1.size); obtain ⟨z0, z1, z2⟩ := HF.out _ hw2; replace z1 := Hd z1; replace z2 := Hd z2)
  | (go_at_call 131; refine (HDc.out _ hw2).mono ?_; rintro e w3 ⟨rfl, h3, k3⟩))
 all_goals
  have hk := Hd (kp_pb (hbw.out.trans (hw2.mono hbw.out.size)) k3)
  go_wp2
  go_end0
  exact ⟨rfl, h3, hk.out⟩
end Go.Proofs.YtllbbacnakoomaaGreatDoor
namespace Go.Proofs.YtllbbacnakoomaaGreatDoor
open Go.RowKit
set_option linter.unusedVariables false
theorem items_any {L : List Ct} {ta : Option Addr} {tc rb : Nat} {R : Rec} (G2 : Good2 L ta tc rb R) {w : World} {s : Ps} {nest : Nat} {n : T} {s' : Ps} (h : PS L ta tc rb s w) (hn : nest ≤ 1000) (hr : itemsF L R nest s = some (n, s')) :
 Calls Tryz.prog 115 #[drV rb, .int .i64 nest] w (NdRet L ta tc rb w n s') := by
 have C := Hd (((Cx.start h).alloc (drO rb) (a := w.heap.size) rfl).alloc nzO (a := w.heap.size + 1) (by simp))
 have hlt := h.lt
 obtain ⟨p4, he4, c0, c1, c2, c3, cf⟩ := h.cells
 clear he4
 unfold itemsF at hr
 obtain ⟨⟨kl, s2⟩, hr3, hr4⟩ := Option.bind_eq_some_iff.1 hr
 obtain ⟨rfl, rfl⟩ := Prod.mk.inj (Option.some.inj hr4)
 replace hr3 := Hd hr3
 clear hr hr4
 go_enter Tryz.func115, Tryz.ntmps115
 go_wp2_with fail
 refine (rNeed_any C.out.ps (⟨#[123]⟩ : ByteArray)).mono ?_
 rintro e w1 ⟨rfl, h1, k1⟩
 replace C := Hd (C.out.call h1 k1)
 clear c0 c1 c2 c3 cf
 go_wp2_with fail
 go_loopg [5] KK (fun q v5 wx => ∃ (k : List T) (z : Ps) (m : Nat) (ao3 : Option Addr) (cap3 : Nat), v5 = .slice ao3 m cap3 ∧ Hid (k.length = m) ∧ Hid (m + q ≤ 6000) ∧ Hid (Cx L ta tc rb (fun _ => False) none w z [] [(w.heap.size + 1, nzO), (w.heap.size, drO rb)] k (.slice ao3 m cap3) wx) ∧ Hid (itemLoop L R nest q k z = some (kl, s2)))
 case atStart => exact ⟨[], _, 0, none, 0, rfl, Hd rfl, Hd (by unfold KK; omega), C, hr3⟩
 case round =>
  have Cx := C
  clear Cx C hr3
  obtain ⟨k, z, m, ao3, cap3, rfl, hm, hq, C, hL⟩ := hrel
  obtain ⟨w4, hw4⟩ : ∃ w4, w4 = wr := ⟨_, rfl⟩
  subst hw4
  cases gk with
  | zero => exact absurd hL.out (by simp [itemLoop])
  | succ gk =>
    have hL2 := hL.out
    unfold itemLoop at hL2
    obtain ⟨z0, zf⟩ := dr_cell (C.out.var (i := 1) rfl)
    try clear c0 c1 c2 c3 cf
    obtain ⟨p4, he4, c0, c1, c2, c3, cf⟩ := C.out.ps.cells
    clear he4
    have HI := Hd (rIs_any C.out.ps (⟨#[125]⟩ : ByteArray))
    cases hbad : z.bad with
    | true =>
      rw [if_pos (.inl hbad)] at hL2
      obtain ⟨rfl, rfl⟩ := Prod.mk.inj (Option.some.inj hL2)
      clear hL2
      rw [hbad] at c3
      replace hbad := Hd hbad
      go_wp2_with fail
      refine (rNeed_any C.out.ps (⟨#[125]⟩ : ByteArray)).mono ?_
      rintro e w40 ⟨rfl, h40, k40⟩
      replace C := Hd (C.out.call h40 k40)
      clear z0 zf c0 c1 c2 c3 cf
      obtain ⟨z0, zf⟩ := dr_cell (C.out.var (i := 1) rfl)
      go_wp2_with fail
      refine (rMake_any C.out.ps (⟨#[98,108,111,99,107]⟩ : ByteArray) ⟨#[]⟩ s.at_ _ _ _).mono ?_
      rintro e w41 ⟨rfl, hb41⟩
      replace C := Hd (C.out.made hb41 (by have := hm.out; have := hq.out; omega) (⟨#[98,108,111,99,107]⟩ : ByteArray) ⟨#[]⟩ s.at_)
      obtain rfl := hm.out
      have hcc := C.out.var (i := 0) rfl
      go_wp2_with (refine stN rfl rfl rfl rfl hcc rfl rfl (by simp [Value.oneCell']) ?_)
      refine retN rfl rfl rfl (setRow_heap _ _ _ _ _ _ hcc) rfl ?_
      exact ⟨_, _, rfl, (C.out.set (i := 0) rfl rfl _).out (.head _)⟩
    | false =>
      rw [hbad] at c3
      cases p3 : isP L z (⟨#[125]⟩ : ByteArray) with
      | true =>
        rw [if_pos (.inr p3)] at hL2
        rw [p3] at HI
        obtain ⟨rfl, rfl⟩ := Prod.mk.inj (Option.some.inj hL2)
        clear hL2
        replace hbad := Hd hbad
        go_wp2_with fail
        refine (HI.out).mono ?_
        rintro e w8 ⟨rfl, hb8⟩
        replace C := Hd (C.out.below hb8)
        clear c0 c1 c2 c3 cf
        clear z0 zf
        obtain ⟨z0, zf⟩ := dr_cell (C.out.var (i := 1) rfl)
        go_wp2_with fail
        refine (rNeed_any C.out.ps (⟨#[125]⟩ : ByteArray)).mono ?_
        rintro e w40 ⟨rfl, h40, k40⟩
        replace C := Hd (C.out.call h40 k40)
        clear z0 zf
        obtain ⟨z0, zf⟩ := dr_cell (C.out.var (i := 1) rfl)
        go_wp2_with fail
        refine (rMake_any C.out.ps (⟨#[98,108,111,99,107]⟩ : ByteArray) ⟨#[]⟩ s.at_ _ _ _).mono ?_
        rintro e w41 ⟨rfl, hb41⟩
        replace C := Hd (C.out.made hb41 (by have := hm.out; have := hq.out; omega) (⟨#[98,108,111,99,107]⟩ : ByteArray) ⟨#[]⟩ s.at_)
        obtain rfl := hm.out
        have hcc := C.out.var (i := 0) rfl
        go_wp2_with (refine stN rfl rfl rfl rfl hcc rfl rfl (by simp [Value.oneCell']) ?_)
        refine retN rfl rfl rfl (setRow_heap _ _ _ _ _ _ hcc) rfl ?_
        exact ⟨_, _, rfl, (C.out.set (i := 0) rfl rfl _).out (.head _)⟩
      | false =>
        rw [if_neg (by rw [hbad, p3]; simp)] at hL2
        rw [p3] at HI
        replace hbad := Hd hbad
        go_wp2_with fail
        refine (HI.out).mono ?_
        rintro e w8 ⟨rfl, hb8⟩
        replace C := Hd (C.out.below hb8)
        clear c0 c1 c2 c3 cf z0 zf
        obtain ⟨z0, zf⟩ := dr_cell (C.out.var (i := 1) rfl)
        obtain ⟨t, ht⟩ : ∃ t, t = tokP L z.at_ := ⟨_, rfl⟩
        have HT := Hd (tok_any C.out.ps)
        rw [← ht] at HT hL2
        unfold ctV at HT
        have hfd := fun w => fld_kind (.int .i64 t.fro) (.int .i64 t.cnt) undef t.kind t.text t.file t.f t.t w
        replace ht := Hd ht
        by_cases hk : t.kind = 1
        ·rw [decide_eq_true hk, Bool.true_and] at hL2
         rw [hk] at HT hfd
         replace hk := Hd hk
         go_wp2_with fail
         refine (HT.out).mono ?_
         rintro e w10 ⟨rfl, hb10⟩
         replace C := Hd (C.out.below hb10)
         clear HT z0 zf
         obtain ⟨z0, zf⟩ := dr_cell (C.out.var (i := 1) rfl)
         have HB := Hd (rBehind_any C.out.ps (⟨#[58]⟩ : ByteArray))
         cases pb : behP L z (⟨#[58]⟩ : ByteArray) with
         | true =>
           rw [pb] at HB hL2
           go_wp2_with fail
           refine (HB.out).mono ?_
           rintro e w11 ⟨rfl, hb11⟩
           replace C := Hd (C.out.below hb11)
           clear z0 zf
           obtain ⟨z0, zf⟩ := dr_cell (C.out.var (i := 1) rfl)
           have HW := Hd (rWord_any C.out.ps (⟨#[95,83,116,97,116,105,99,95,97,115,115,101,114,116]⟩ : ByteArray))
           cases pw : wordP L z (⟨#[95,83,116,97,116,105,99,95,97,115,115,101,114,116]⟩ : ByteArray) with
           | true =>
             rw [pw] at HW
             rw [pw, Bool.true_or, if_pos rfl] at hL2
             go_wp2_with fail
             refine (HW.out).mono ?_
             rintro e w31 ⟨rfl, hb31⟩
             replace C := Hd (C.out.below hb31)
             clear z0 zf
             obtain ⟨z0, zf⟩ := dr_cell (C.out.var (i := 1) rfl)
             obtain ⟨⟨b, z2⟩, hb1, hb2⟩ := Option.bind_eq_some_iff.1 hL2
             simp only at hb2
             replace hb1 := Hd hb1
             replace hb2 := Hd hb2
             clear hL2
             go_wp2_with fail
             refine (G2.declaration C.out.ps hn hb1.out).mono ?_
             rintro e w9 ⟨ao9, cap9, rfl, hn9, h9, k9⟩
             replace C := Hd (C.out.ret hn9 h9 k9)
             unfold ndV
             go_wp2_with (refine wpList_snoc C.out (.head _) (by have := hm.out; have := hq.out; omega) rfl rfl rfl rfl rfl ?_; intro m7 ao7 cap7 w7 hm7 C7)
             go_roundg gk
             case measure => omega
             case rel => exact ⟨_, _, _, _, _, rfl, hm7, Hd (by have h1 := hm7.out; have := hm.out; have := hq.out; simp at h1; omega), Hd (C7.weak (by simp) (List.Sublist.refl _)), hb2⟩
           | false =>
             rw [pw] at HW
             rw [pw, Bool.false_or] at hL2
             go_wp2_with fail
             refine (HW.out).mono ?_
             rintro e w31 ⟨rfl, hb31⟩
             replace C := Hd (C.out.below hb31)
             clear z0 zf
             obtain ⟨z0, zf⟩ := dr_cell (C.out.var (i := 1) rfl)
             have HS := Hd (starts_any C.out.ps)
             cases pst : startsP L z with
             | true =>
               rw [pst] at HS
               rw [pst, Bool.true_and, if_neg (by simp)] at hL2
               go_wp2_with fail
               refine (HS.out).mono ?_
               rintro e w32 ⟨rfl, hb32⟩
               replace C := Hd (C.out.below hb32)
               clear z0 zf
               obtain ⟨z0, zf⟩ := dr_cell (C.out.var (i := 1) rfl)
               obtain ⟨⟨b, z2⟩, hb1, hb2⟩ := Option.bind_eq_some_iff.1 hL2
               simp only at hb2
               replace hb1 := Hd hb1
               replace hb2 := Hd hb2
               clear hL2
               go_wp2_with fail
               refine (G2.stmt C.out.ps hn hb1.out).mono ?_
               rintro e w9 ⟨ao9, cap9, rfl, hn9, h9, k9⟩
               replace C := Hd (C.out.ret hn9 h9 k9)
               unfold ndV
               go_wp2_with (refine wpList_snoc C.out (.head _) (by have := hm.out; have := hq.out; omega) rfl rfl rfl rfl rfl ?_; intro m7 ao7 cap7 w7 hm7 C7)
               go_roundg gk
               case measure => omega
               case rel => exact ⟨_, _, _, _, _, rfl, hm7, Hd (by have h1 := hm7.out; have := hm.out; have := hq.out; simp at h1; omega), Hd (C7.weak (by simp) (List.Sublist.refl _)), hb2⟩
             | false =>
               rw [pst] at HS
               rw [pst, Bool.false_and, if_neg (by simp)] at hL2
               go_wp2_with fail
               refine (HS.out).mono ?_
               rintro e w32 ⟨rfl, hb32⟩
               replace C := Hd (C.out.below hb32)
               clear z0 zf
               obtain ⟨z0, zf⟩ := dr_cell (C.out.var (i := 1) rfl)
               obtain ⟨⟨b, z2⟩, hb1, hb2⟩ := Option.bind_eq_some_iff.1 hL2
               simp only at hb2
               replace hb1 := Hd hb1
               replace hb2 := Hd hb2
               clear hL2
               go_wp2_with fail
               refine (G2.stmt C.out.ps hn hb1.out).mono ?_
               rintro e w9 ⟨ao9, cap9, rfl, hn9, h9, k9⟩
               replace C := Hd (C.out.ret hn9 h9 k9)
               unfold ndV
               go_wp2_with (refine wpList_snoc C.out (.head _) (by have := hm.out; have := hq.out; omega) rfl rfl rfl rfl rfl ?_; intro m7 ao7 cap7 w7 hm7 C7)
               go_roundg gk
               case measure => omega
               case rel => exact ⟨_, _, _, _, _, rfl, hm7, Hd (by have h1 := hm7.out; have := hm.out; have := hq.out; simp at h1; omega), Hd (C7.weak (by simp) (List.Sublist.refl _)), hb2⟩
         | false =>
           rw [pb] at HB hL2
           go_wp2_with fail
           refine (HB.out).mono ?_
           rintro e w11 ⟨rfl, hb11⟩
           replace C := Hd (C.out.below hb11)
           clear z0 zf
           obtain ⟨z0, zf⟩ := dr_cell (C.out.var (i := 1) rfl)
           have HW := Hd (rWord_any C.out.ps (⟨#[95,83,116,97,116,105,99,95,97,115,115,101,114,116]⟩ : ByteArray))
           cases pw : wordP L z (⟨#[95,83,116,97,116,105,99,95,97,115,115,101,114,116]⟩ : ByteArray) with
           | true =>
             rw [pw] at HW
             rw [pw, Bool.true_or, if_pos rfl] at hL2
             go_wp2_with fail
             refine (HW.out).mono ?_
             rintro e w31 ⟨rfl, hb31⟩
             replace C := Hd (C.out.below hb31)
             clear z0 zf
             obtain ⟨z0, zf⟩ := dr_cell (C.out.var (i := 1) rfl)
             obtain ⟨⟨b, z2⟩, hb1, hb2⟩ := Option.bind_eq_some_iff.1 hL2
             simp only at hb2
             replace hb1 := Hd hb1
             replace hb2 := Hd hb2
             clear hL2
             go_wp2_with fail
             refine (G2.declaration C.out.ps hn hb1.out).mono ?_
             rintro e w9 ⟨ao9, cap9, rfl, hn9, h9, k9⟩
             replace C := Hd (C.out.ret hn9 h9 k9)
             unfold ndV
             go_wp2_with (refine wpList_snoc C.out (.head _) (by have := hm.out; have := hq.out; omega) rfl rfl rfl rfl rfl ?_; intro m7 ao7 cap7 w7 hm7 C7)
             go_roundg gk
             case measure => omega
             case rel => exact ⟨_, _, _, _, _, rfl, hm7, Hd (by have h1 := hm7.out; have := hm.out; have := hq.out; simp at h1; omega), Hd (C7.weak (by simp) (List.Sublist.refl _)), hb2⟩
           | false =>
             rw [pw] at HW
             rw [pw, Bool.false_or] at hL2
             go_wp2_with fail
             refine (HW.out).mono ?_
             rintro e w31 ⟨rfl, hb31⟩
             replace C := Hd (C.out.below hb31)
             clear z0 zf
             obtain ⟨z0, zf⟩ := dr_cell (C.out.var (i := 1) rfl)
             have HS := Hd (starts_any C.out.ps)
             cases pst : startsP L z with
             | true =>
               rw [pst] at HS
               rw [pst, Bool.true_and, if_pos (by simp)] at hL2
               go_wp2_with fail
               refine (HS.out).mono ?_
               rintro e w32 ⟨rfl, hb32⟩
               replace C := Hd (C.out.below hb32)
               clear z0 zf
               obtain ⟨z0, zf⟩ := dr_cell (C.out.var (i := 1) rfl)
               obtain ⟨⟨b, z2⟩, hb1, hb2⟩ := Option.bind_eq_some_iff.1 hL2
               simp only at hb2
               replace hb1 := Hd hb1
               replace hb2 := Hd hb2
               clear hL2
               go_wp2_with fail
               refine (G2.declaration C.out.ps hn hb1.out).mono ?_
               rintro e w9 ⟨ao9, cap9, rfl, hn9, h9, k9⟩
               replace C := Hd (C.out.ret hn9 h9 k9)
               unfold ndV
               go_wp2_with (refine wpList_snoc C.out (.head _) (by have := hm.out; have := hq.out; omega) rfl rfl rfl rfl rfl ?_; intro m7 ao7 cap7 w7 hm7 C7)
               go_roundg gk
               case measure => omega
               case rel => exact ⟨_, _, _, _, _, rfl, hm7, Hd (by have h1 := hm7.out; have := hm.out; have := hq.out; simp at h1; omega), Hd (C7.weak (by simp) (List.Sublist.refl _)), hb2⟩
             | false =>
               rw [pst] at HS
               rw [pst, Bool.false_and, if_neg (by simp)] at hL2
               go_wp2_with fail
               refine (HS.out).mono ?_
               rintro e w32 ⟨rfl, hb32⟩
               replace C := Hd (C.out.below hb32)
               clear z0 zf
               obtain ⟨z0, zf⟩ := dr_cell (C.out.var (i := 1) rfl)
               obtain ⟨⟨b, z2⟩, hb1, hb2⟩ := Option.bind_eq_some_iff.1 hL2
               simp only at hb2
               replace hb1 := Hd hb1
               replace hb2 := Hd hb2
               clear hL2
               go_wp2_with fail
               refine (G2.stmt C.out.ps hn hb1.out).mono ?_
               rintro e w9 ⟨ao9, cap9, rfl, hn9, h9, k9⟩
               replace C := Hd (C.out.ret hn9 h9 k9)
               unfold ndV
               go_wp2_with (refine wpList_snoc C.out (.head _) (by have := hm.out; have := hq.out; omega) rfl rfl rfl rfl rfl ?_; intro m7 ao7 cap7 w7 hm7 C7)
               go_roundg gk
               case measure => omega
               case rel => exact ⟨_, _, _, _, _, rfl, hm7, Hd (by have h1 := hm7.out; have := hm.out; have := hq.out; simp at h1; omega), Hd (C7.weak (by simp) (List.Sublist.refl _)), hb2⟩
        ·rw [decide_eq_false hk, Bool.false_and] at hL2
         have hk' : (t.kind == 1) = false := beq_false_of_ne hk
         go_wp2_with fail
         refine (HT.out).mono ?_
         rintro e w10 ⟨rfl, hb10⟩
         replace C := Hd (C.out.below hb10)
         clear HT
         clear z0 zf
         obtain ⟨z0, zf⟩ := dr_cell (C.out.var (i := 1) rfl)
         have HW := Hd (rWord_any C.out.ps (⟨#[95,83,116,97,116,105,99,95,97,115,115,101,114,116]⟩ : ByteArray))
         cases pw : wordP L z (⟨#[95,83,116,97,116,105,99,95,97,115,115,101,114,116]⟩ : ByteArray) with
         | true =>
           rw [pw] at HW
           rw [pw, Bool.true_or, if_pos rfl] at hL2
           go_wp2_with fail
           refine (HW.out).mono ?_
           rintro e w31 ⟨rfl, hb31⟩
           replace C := Hd (C.out.below hb31)
           clear z0 zf
           obtain ⟨z0, zf⟩ := dr_cell (C.out.var (i := 1) rfl)
           obtain ⟨⟨b, z2⟩, hb1, hb2⟩ := Option.bind_eq_some_iff.1 hL2
           simp only at hb2
           replace hb1 := Hd hb1
           replace hb2 := Hd hb2
           clear hL2
           go_wp2_with fail
           refine (G2.declaration C.out.ps hn hb1.out).mono ?_
           rintro e w9 ⟨ao9, cap9, rfl, hn9, h9, k9⟩
           replace C := Hd (C.out.ret hn9 h9 k9)
           unfold ndV
           go_wp2_with (refine wpList_snoc C.out (.head _) (by have := hm.out; have := hq.out; omega) rfl rfl rfl rfl rfl ?_; intro m7 ao7 cap7 w7 hm7 C7)
           go_roundg gk
           case measure => omega
           case rel => exact ⟨_, _, _, _, _, rfl, hm7, Hd (by have h1 := hm7.out; have := hm.out; have := hq.out; simp at h1; omega), Hd (C7.weak (by simp) (List.Sublist.refl _)), hb2⟩
         | false =>
           rw [pw] at HW
           rw [pw, Bool.false_or] at hL2
           go_wp2_with fail
           refine (HW.out).mono ?_
           rintro e w31 ⟨rfl, hb31⟩
           replace C := Hd (C.out.below hb31)
           clear z0 zf
           obtain ⟨z0, zf⟩ := dr_cell (C.out.var (i := 1) rfl)
           have HS := Hd (starts_any C.out.ps)
           cases pst : startsP L z with
           | true =>
             rw [pst] at HS
             rw [pst, Bool.true_and, if_pos (by simp)] at hL2
             go_wp2_with fail
             refine (HS.out).mono ?_
             rintro e w32 ⟨rfl, hb32⟩
             replace C := Hd (C.out.below hb32)
             clear z0 zf
             obtain ⟨z0, zf⟩ := dr_cell (C.out.var (i := 1) rfl)
             obtain ⟨⟨b, z2⟩, hb1, hb2⟩ := Option.bind_eq_some_iff.1 hL2
             simp only at hb2
             replace hb1 := Hd hb1
             replace hb2 := Hd hb2
             clear hL2
             go_wp2_with fail
             refine (G2.declaration C.out.ps hn hb1.out).mono ?_
             rintro e w9 ⟨ao9, cap9, rfl, hn9, h9, k9⟩
             replace C := Hd (C.out.ret hn9 h9 k9)
             unfold ndV
             go_wp2_with (refine wpList_snoc C.out (.head _) (by have := hm.out; have := hq.out; omega) rfl rfl rfl rfl rfl ?_; intro m7 ao7 cap7 w7 hm7 C7)
             go_roundg gk
             case measure => omega
             case rel => exact ⟨_, _, _, _, _, rfl, hm7, Hd (by have h1 := hm7.out; have := hm.out; have := hq.out; simp at h1; omega), Hd (C7.weak (by simp) (List.Sublist.refl _)), hb2⟩
           | false =>
             rw [pst] at HS
             rw [pst, Bool.false_and, if_neg (by simp)] at hL2
             go_wp2_with fail
             refine (HS.out).mono ?_
             rintro e w32 ⟨rfl, hb32⟩
             replace C := Hd (C.out.below hb32)
             clear z0 zf
             obtain ⟨z0, zf⟩ := dr_cell (C.out.var (i := 1) rfl)
             obtain ⟨⟨b, z2⟩, hb1, hb2⟩ := Option.bind_eq_some_iff.1 hL2
             simp only at hb2
             replace hb1 := Hd hb1
             replace hb2 := Hd hb2
             clear hL2
             go_wp2_with fail
             refine (G2.stmt C.out.ps hn hb1.out).mono ?_
             rintro e w9 ⟨ao9, cap9, rfl, hn9, h9, k9⟩
             replace C := Hd (C.out.ret hn9 h9 k9)
             unfold ndV
             go_wp2_with (refine wpList_snoc C.out (.head _) (by have := hm.out; have := hq.out; omega) rfl rfl rfl rfl rfl ?_; intro m7 ao7 cap7 w7 hm7 C7)
             go_roundg gk
             case measure => omega
             case rel => exact ⟨_, _, _, _, _, rfl, hm7, Hd (by have h1 := hm7.out; have := hm.out; have := hq.out; simp at h1; omega), Hd (C7.weak (by simp) (List.Sublist.refl _)), hb2⟩
end Go.Proofs.YtllbbacnakoomaaGreatDoor
namespace Go.Proofs.YtllbbacnakoomaaGreatDoor
open Go.RowKit
set_option linter.unusedVariables false
theorem rDeep_any {L : List Ct} {ta : Option Addr} {tc rb : Nat} {s : Ps} {w : World} (h : PS L ta tc rb s w) (nest : Nat) (hn : nest ≤ 100000) :
 Calls Tryz.prog 113 #[.pointer (some ⟨rb, 0, none⟩), .int .i64 nest] w fun e w' => e = .returned (.bool (s.deep nest)) ∧ PS L ta tc rb (if s.deep nest then s.fail else s) w' ∧ w.grownBy w' (some rb) := by
 have HD := Hd (rdeep_any h nest hn)
 cases hb : s.deep nest with
 | true =>
   rw [hb, if_pos rfl] at HD
   rw [if_pos rfl]
   clear h hb
   go_enter Tryz.func113, Tryz.ntmps113
   go_wp2_with fail
   refine HD.out.mono ?_
   rintro e w1 ⟨rfl, h1, k1⟩
   go_wp2
   go_ret
   exact ⟨rfl, h1, k1⟩
 | false =>
   rw [hb, if_neg (by simp)] at HD
   rw [if_neg (by simp)]
   clear h hb
   go_enter Tryz.func113, Tryz.ntmps113
   go_wp2_with fail
   refine HD.out.mono ?_
   rintro e w1 ⟨rfl, h1, k1⟩
   go_wp2
   go_ret
   exact ⟨rfl, h1, k1⟩
theorem EvAt.row {w : World} {p : Option Addr} {e : Ev} (h : EvAt w p e) {g : Nat} {c : Array Value} {fz : Nat × Nat} (hg : w.heap[g]? = some (.cells c 50 fz)) (cs : Array Value) : EvAt (w.setRow g cs) p e :=
 h.moved fun b x fz' hx => (row_other _ (by
  rintro rfl
  rw [hg] at hx
  injection hx with hx
  injection hx with _ hx _
  revert hx
  decide)).trans hx
theorem block_step {L : List Ct} {ta : Option Addr} {tc rb : Nat} {R : Rec} (G2 : Good2 L ta tc rb R) {w : World} {s : Ps} {nest : Nat} {n : T} {s' : Ps} (h : PS L ta tc rb s w) (hn : nest ≤ 1000) (hr : blockF L R nest s = some (n, s')) :
 Calls Tryz.prog 68 #[drV rb, .int .i64 nest] w (NdRet L ta tc rb w n s') := by
 have C := Hd (((Cx.start h).alloc (drO rb) (a := w.heap.size) rfl).alloc nzO (a := w.heap.size + 1) (by simp))
 have hlt := h.lt
 unfold blockF at hr
 have HD := Hd (rDeep_any C.out.ps nest (by omega))
 go_enter Tryz.func68, Tryz.ntmps68
 cases hd : s.deep nest with
 | true =>
   rw [hd, if_pos rfl] at hr HD
   obtain ⟨rfl, rfl⟩ := Prod.mk.inj (Option.some.inj hr)
   go_wp2_with fail
   refine (HD.out).mono ?_
   rintro e w1 ⟨rfl, h1, k1⟩
   replace C := Hd (C.out.call h1 k1)
   obtain ⟨q0, q1, q2, q3, q4, qf⟩ := nd_cells (C.out.var (i := 0) rfl)
   replace C := Hd (C.out.leaf eB eB 0 0)
   have hcc := C.out.var (i := 0) rfl
   go_wp2_with (refine stN rfl rfl rfl rfl hcc rfl rfl (by simp [Value.oneCell']) ?_)
   refine retN rfl rfl rfl (setRow_heap _ _ _ _ _ _ hcc) rfl ?_
   exact ⟨_, _, rfl, (C.out.set (i := 0) rfl rfl _).out (.head _)⟩
 | false =>
   rw [hd, if_neg (by simp)] at hr HD
   obtain ⟨⟨b, z⟩, hb1, hb2⟩ := Option.bind_eq_some_iff.1 hr
   simp only at hb2
   replace hb1 := Hd hb1
   replace hb2 := Hd hb2
   clear hr
   obtain ⟨rfl, rfl⟩ := Prod.mk.inj (Option.some.inj hb2.out)
   clear hb2
   have hn2 : nest ≤ 200 := by unfold Ps.deep at hd; simp at hd; omega
   have g1 : IntKind.i64.wrap ((nest : Int) + 1) = ((nest + 1 : Nat) : Int) := by rw [IntWalk.i64_in _ (by omega)]; omega
   go_wp2_with fail
   refine (HD.out).mono ?_
   rintro e w1 ⟨rfl, h1, k1⟩
   replace C := Hd (C.out.call h1 k1)
   clear HD
   obtain ⟨p, he, c0, c1, c2, c3, cf⟩ := C.out.ps.cells
   obtain ⟨z0, zf⟩ := dr_cell (C.out.var (i := 1) rfl)
   have hbD : Below w1.heap.size w1 w1.drew := (Below.refl _ w1).drew
   have HPu := Hd (push_any (he.under hbD))
   replace he := Hd he
   go_upto_region 4 with fail
   go_region_with (go_at_call 114; refine HPu.out.mono ?_; rintro e w2 ⟨⟨q, rfl, hq⟩, hb2⟩; obtain ⟨z0, zf⟩ := dr_cell ((C.out.drew.below hb2).var (i := 1) rfl); obtain ⟨p2, he2, c0, c1, c2, c3, cf⟩ := (C.out.drew.below hb2).ps.cells; replace he2 := Hd he2; replace hq := Hd hq)
   all_goals
    have he3 := (he.out.under hbD).under hb2
    replace C := Hd (C.out.drew.below hb2)
    have he4 := C.out.ps.env_kp (kp_set w2 rb 2 (.pointer q)) he3
    replace C := Hd (C.out.into hq.out)
    replace he4 := Hd he4
    clear he3 c0 c1 c2 c3 cf z0 zf
    obtain ⟨z0, zf⟩ := dr_cell (C.out.var (i := 1) rfl)
    go_wp2_with fail
    refine (items_any G2 C.out.ps (by omega) hb1.out).mono ?_
    rintro e w3 ⟨ao3, cap3, rfl, hn3, h3, k3⟩
    have he5 := C.out.ps.env_kp k3 he4.out
    replace C := Hd (C.out.ret hn3 h3 k3)
    unfold ndV
    clear z0 zf
    have hcc := C.out.var (i := 0) rfl
    have he6 := Hd (he5.row hcc (rowA b ao3 cap3))
    replace C := Hd (C.out.set (i := 0) rfl rfl (rowA b ao3 cap3))
    obtain ⟨z0, zf⟩ := dr_cell (C.out.var (i := 1) rfl)
    try clear c0 c1 c2 c3 cf
    obtain ⟨p4, he4, c0, c1, c2, c3, cf⟩ := C.out.ps.cells
    clear he4
    replace C := Hd (C.out.into he6.out)
    obtain ⟨b0, b1, b2, b3, b4, bf⟩ := nd_cells (C.out.var (i := 0) rfl)
    have hcc2 := C.out.var (i := 0) rfl
    go_upto_region 6 with (refine wpList_store_row rfl 50 _ _ rfl (w.heap.size + 1) _ rfl rfl 50 _ hcc info_nd rfl (by simp [Value.oneCell']) ?_)
    replace hcc := Hd hcc
    go_wp2_with (refine stN rfl rfl rfl rfl hcc2 rfl rfl (by simp [Value.oneCell']) ?_)
    refine bodyPost_ret (results_cell_row rfl _ _ (w.heap.size + 1) 50 _ (0,0) _ rfl (setRow_heap _ _ _ _ _ _ hcc2) Tryz.underlying50 rfl (by kernel_rfl)) rfl ?_
    exact ⟨_, _, rfl, (C.out.set (i := 0) rfl rfl _).out (.head _)⟩
end Go.Proofs.YtllbbacnakoomaaGreatDoor
