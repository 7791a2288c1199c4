/- Texts of this seat's proofs, laid into one file. -/
import Derived.Test.YtllbbacnakoomaaGreatDoorS31
set_option maxRecDepth 100000
set_option maxHeartbeats 16000000
namespace Go.Proofs.YtllbbacnakoomaaGreatDoor
open Go.RowKit
set_option linter.unusedVariables false
theorem member_any {L : List Ct} {ta : Option Addr} {tc rb : Nat} {R : Rec} (G : Good L ta tc rb R) : MemOk L ta tc rb R := by
 intro w s sb nest pl ty n s' h hsb hne hn hr
 have C := Hd ((Cx.startS h hsb hne).alloc nzO (a := w.heap.size) rfl)
 have hsb' := Hd hsb
 have hlt := h.lt
 have hlts := lt_of_block hsb
 clear hsb
 unfold memberF at hr
 obtain ⟨w50, hw50⟩ : ∃ W, W = w.alloc nzO := ⟨_, rfl⟩
 rw [← hw50] at C
 obtain ⟨y0, y1, y2, y3, yf⟩ := sp_cells (C.out.var (i := 1) rfl)
 have HW := Hd (rWord_any C.out.drew.ps (⟨#[95,83,116,97,116,105,99,95,97,115,115,101,114,116]⟩ : ByteArray))
 go_enter Tryz.func239, Tryz.ntmps239
 go_upto_region 1 with fail
 rw [← hw50]
 replace hw50 := Hd hw50
 cases p1 : wordP L s (⟨#[95,83,116,97,116,105,99,95,97,115,115,101,114,116]⟩ : ByteArray) with
 | false =>
   rw [p1, if_neg (by simp)] at hr
   rw [p1] at HW
   refine wp_region_any (by kernel_rfl) ?_
   change wpAny _ _ _ _ _ _ _ (World.drew _)
   refine wpAny_take (i := 0) (v := ?v0) rfl (by kernel_rfl) (by kernel_rfl) (by kernel_rfl) (fun _ _ _ h => h) (Or.inl ⟨by kernel_rfl, ?hy0⟩) ?_
   case hy0 =>
    intro w'
    go_simp
    try with_reducible rfl
   refine wpAny_take (i := 1) (v := ?v1) rfl (by kernel_rfl) (by kernel_rfl) (by kernel_rfl) (fun _ _ _ h => h) (Or.inl ⟨by kernel_rfl, ?hy1⟩) ?_
   case hy1 =>
    intro w'
    go_simp
    try with_reducible rfl
   refine wpAny_take (i := 2) (v := ?v2) rfl (by kernel_rfl) (by kernel_rfl) (by kernel_rfl) (fun _ _ _ h => h) (Or.inl ⟨by kernel_rfl, ?hy2⟩) ?_
   case hy2 =>
    intro w'
    go_simp
    try with_reducible rfl
   refine wpAny_ready (rs := [3]) (by kernel_rfl) (by simp) ?_
   refine AllReady.cons rfl (fun K hK => ?_) AllReady.nil
   go_simp
   refine hK _ _ ?_
   clear hK K
   refine wpAny_ready (rs := [4]) (by kernel_rfl) (by simp) ?_
   refine AllReady.cons rfl (fun K hK => ?_) AllReady.nil
   go_simp
   go_wp2_with (go_at_call 116; refine HW.out.mono ?_; rintro e w1 ⟨rfl, hb1⟩)
   refine wpAny_take (i := 5) (v := ?v5) rfl (by kernel_rfl) (by kernel_rfl) (by kernel_rfl) (fun _ _ _ h => h) (Or.inl ⟨by kernel_rfl, ?hy5⟩) ?_
   case hy5 =>
    intro w'
    go_simp
    try with_reducible rfl
   refine wpAny_take (i := 6) (v := undef) rfl (by kernel_rfl) (by kernel_rfl) (by kernel_rfl) (fun _ _ _ h => h) (Or.inr ⟨by kernel_rfl, rfl⟩) ?_
   refine wpAny_take (i := 7) (v := undef) rfl (by kernel_rfl) (by kernel_rfl) (by kernel_rfl) (fun _ _ _ h => h) (Or.inr ⟨by kernel_rfl, rfl⟩) ?_
   refine wpAny_take (i := 8) (v := undef) rfl (by kernel_rfl) (by kernel_rfl) (by kernel_rfl) (fun _ _ _ h => h) (Or.inr ⟨by kernel_rfl, rfl⟩) ?_
   refine wpAny_take (i := 9) (v := undef) rfl (by kernel_rfl) (by kernel_rfl) (by kernel_rfl) (fun _ _ _ h => h) (Or.inr ⟨by kernel_rfl, rfl⟩) ?_
   refine wpAny_take (i := 10) (v := undef) rfl (by kernel_rfl) (by kernel_rfl) (by kernel_rfl) (fun _ _ _ h => h) (Or.inr ⟨by kernel_rfl, rfl⟩) ?_
   refine wpAny_take (i := 11) (v := undef) rfl (by kernel_rfl) (by kernel_rfl) (by kernel_rfl) (fun _ _ _ h => h) (Or.inr ⟨by kernel_rfl, rfl⟩) ?_
   refine wpAny_take (i := 12) (v := undef) rfl (by kernel_rfl) (by kernel_rfl) (by kernel_rfl) (fun _ _ _ h => h) (Or.inr ⟨by kernel_rfl, rfl⟩) ?_
   refine wpAny_take (i := 13) (v := undef) rfl (by kernel_rfl) (by kernel_rfl) (by kernel_rfl) (fun _ _ _ h => h) (Or.inr ⟨by kernel_rfl, rfl⟩) ?_
   refine wpAny_take (i := 14) (v := undef) rfl (by kernel_rfl) (by kernel_rfl) (by kernel_rfl) (fun _ _ _ h => h) (Or.inr ⟨by kernel_rfl, rfl⟩) ?_
   refine wpAny_take (i := 15) (v := undef) rfl (by kernel_rfl) (by kernel_rfl) (by kernel_rfl) (fun _ _ _ h => h) (Or.inr ⟨by kernel_rfl, rfl⟩) ?_
   try dsimp only [Act.put]
   refine wpAny_take (i := 16) (v := ?v16) rfl (by kernel_rfl) (by kernel_rfl) (by kernel_rfl) (fun _ _ _ h => h) (Or.inl ⟨by kernel_rfl, ?hy16⟩) ?_
   case hy16 =>
    intro w'
    go_simp
    try with_reducible rfl
   refine wpAny_done (by kernel_rfl) ?_ _
   go_simp
   replace C := Hd (C.out.drew.below hb1)
   clear y0 y1 y2 y3 yf HW
   unfold memberR at hr
   obtain ⟨⟨sp, z1⟩, hs1, hs2⟩ := Option.bind_eq_some_iff.1 hr
   simp only at hs2
   replace hs1 := Hd hs1
   replace hs2 := Hd hs2
   clear hr
   obtain ⟨⟨kl, s2⟩, hr3, hr4⟩ := Option.bind_eq_some_iff.1 hs2.out
   obtain ⟨rfl, rfl⟩ := Prod.mk.inj (Option.some.inj hr4)
   clear hs2 hr4
   obtain ⟨y0, y1, y2, y3, yf⟩ := sp_cells (C.out.var (i := 1) rfl)
   try clear c0 c1 c2 c3 cf
   obtain ⟨p4, he4, c0, c1, c2, c3, cf⟩ := C.out.ps.cells
   clear he4
   go_upto_region 4 with fail
   go_still_tail 8, (by kernel_rfl)
   change wpList _ _ _ _ _ (w1).drew
   replace C := Hd C.out.drew
   generalize (w1).drew = w21 at C ⊢
   go_wp2_with fail
   refine (G.specs C.out.ps hn hs1.out).mono ?_
   rintro e w22 ⟨ao22, cap22, rfl, hn22, h22, k22⟩
   replace C := Hd (C.out.ret hn22 h22 k22)
   unfold ndV
   clear y0 y1 y2 y3 yf c0 c1 c2 c3 cf
   replace C := Hd (C.out.lit (o := bxO sp ao22 cap22) [⟨sp, ao22, cap22⟩] (by simp) (by simp) rfl (a := w22.heap.size) rfl (n := 1) rfl)
   obtain ⟨w23, hw23⟩ : ∃ W, W = w22.alloc (bxO sp ao22 cap22) := ⟨_, rfl⟩
   rw [← hw23] at C
   obtain ⟨y0, y1, y2, y3, yf⟩ := sp_cells (C.out.var (i := 1) rfl)
   try clear c0 c1 c2 c3 cf
   obtain ⟨p4, he4, c0, c1, c2, c3, cf⟩ := C.out.ps.cells
   clear he4
   have HI := Hd (rIs_any C.out.ps (⟨#[59]⟩ : ByteArray))
   cases hbad : z1.bad with
   | true =>
     rw [if_pos (.inl hbad)] at hr3
     obtain ⟨rfl, rfl⟩ := Prod.mk.inj (Option.some.inj hr3)
     rw [hbad] at c3
     replace hbad := Hd hbad
     go_upto_region 5 with fail
     rw [← hw23]
     replace hw23 := Hd hw23
     go_wp2_with fail
     refine (rNeed_any C.out.ps (⟨#[59]⟩ : ByteArray)).mono ?_
     rintro e w40 ⟨rfl, h40, k40⟩
     replace C := Hd (C.out.call h40 k40)
     try clear y0 y1 y2 y3 yf
     obtain ⟨y0, y1, y2, y3, yf⟩ := sp_cells (C.out.var (i := 1) rfl)
     go_wp2_with fail
     refine (rMake_any C.out.ps (⟨#[109,101,109,98,101,114]⟩ : ByteArray) ⟨#[]⟩ s.at_ _ _ _).mono ?_
     rintro e w41 ⟨rfl, hb41⟩
     replace C := Hd (C.out.madeS (i := 1) rfl hb41 (by simp) (⟨#[109,101,109,98,101,114]⟩ : ByteArray) ⟨#[]⟩ s.at_)
     have hcc := C.out.var (i := 0) rfl
     go_wp2_with (refine stN rfl rfl rfl rfl hcc rfl rfl (by simp [Value.oneCell']) ?_)
     refine retN rfl rfl rfl (setRow_heap _ _ _ _ _ _ hcc) rfl ?_
     skip
     exact ⟨_, _, rfl, (C.out.set (i := 0) rfl rfl _).outS (i := 1) (.head _) rfl hsb'.out⟩
   | false =>
     rw [hbad] at c3
     cases p3 : isP L z1 (⟨#[59]⟩ : ByteArray) with
     | true =>
       rw [if_pos (.inr p3)] at hr3
       rw [p3] at HI
       obtain ⟨rfl, rfl⟩ := Prod.mk.inj (Option.some.inj hr3)
       replace hbad := Hd hbad
       go_upto_region 5 with fail
       rw [← hw23]
       replace hw23 := Hd hw23
       go_wp2_with fail
       refine (HI.out).mono ?_
       rintro e w24 ⟨rfl, hb24⟩
       replace C := Hd (C.out.below hb24)
       clear y0 y1 y2 y3 yf c0 c1 c2 c3 cf
       obtain ⟨y0, y1, y2, y3, yf⟩ := sp_cells (C.out.var (i := 1) rfl)
       go_wp2_with fail
       refine (rNeed_any C.out.ps (⟨#[59]⟩ : ByteArray)).mono ?_
       rintro e w40 ⟨rfl, h40, k40⟩
       replace C := Hd (C.out.call h40 k40)
       try clear y0 y1 y2 y3 yf
       obtain ⟨y0, y1, y2, y3, yf⟩ := sp_cells (C.out.var (i := 1) rfl)
       go_wp2_with fail
       refine (rMake_any C.out.ps (⟨#[109,101,109,98,101,114]⟩ : ByteArray) ⟨#[]⟩ s.at_ _ _ _).mono ?_
       rintro e w41 ⟨rfl, hb41⟩
       replace C := Hd (C.out.madeS (i := 1) rfl hb41 (by simp) (⟨#[109,101,109,98,101,114]⟩ : ByteArray) ⟨#[]⟩ s.at_)
       have hcc := C.out.var (i := 0) rfl
       go_wp2_with (refine stN rfl rfl rfl rfl hcc rfl rfl (by simp [Value.oneCell']) ?_)
       refine retN rfl rfl rfl (setRow_heap _ _ _ _ _ _ hcc) rfl ?_
       skip
       exact ⟨_, _, rfl, (C.out.set (i := 0) rfl rfl _).outS (i := 1) (.head _) rfl hsb'.out⟩
     | false =>
       rw [if_neg (by rw [hbad, p3]; simp)] at hr3
       rw [p3] at HI
       obtain ⟨⟨b, z2⟩, hb1, hb2⟩ := Option.bind_eq_some_iff.1 hr3
       simp only at hb2
       replace hb1 := Hd hb1
       replace hb2 := Hd hb2
       clear hr3
       replace hbad := Hd hbad
       go_upto_region 5 with fail
       rw [← hw23]
       replace hw23 := Hd hw23
       go_wp2_with fail
       refine (HI.out).mono ?_
       rintro e w24 ⟨rfl, hb24⟩
       replace C := Hd (C.out.below hb24)
       clear y0 y1 y2 y3 yf c0 c1 c2 c3 cf
       go_wp2_with fail
       refine (bits_any G C.out.ps (C.out.var (i := 1) rfl) hne hn hb1.out).mono ?_
       rintro e w25 ⟨ao25, cap25, rfl, hn25, h25, k25⟩
       replace C := Hd (C.out.ret hn25 h25 k25)
       unfold ndV
       go_wp2_with (refine wpList_snoc C.out (.head _) (by simp) rfl rfl rfl rfl rfl ?_; intro m3 ao3 cap3 w26 hm3 C3)
       replace C := Hd C3
       clear C3
       go_loopg [4] KK (fun q v4 wx => ∃ (k : List T) (z : Ps) (m : Nat) (ao3 : Option Addr) (cap3 : Nat), v4 = .slice ao3 m cap3 ∧ Hid (k.length = m) ∧ Hid (m + q ≤ 6000) ∧ Hid (Cx L ta tc rb (fun _ => False) (some sb) w z [] [(w.heap.size, nzO), (sb, spO rb nest pl ty)] k (.slice ao3 m cap3) wx) ∧ Hid (bitsLoop L R nest q k z = some (kl, s2)))
       case atStart => exact ⟨_, _, _, _, _, rfl, hm3, Hd (by have h1 := hm3.out; simp at h1; unfold KK; omega), Hd (C.out.weak (by simp) (List.Sublist.refl _)), hb2⟩
       case round =>
        have Cx := C
        clear Cx C hb2 hb1
        obtain ⟨k, z, m, ao3, cap3, rfl, hm, hq, C, hL⟩ := hrel
        obtain ⟨w4, hw4⟩ : ∃ w4, w4 = wr := ⟨_, rfl⟩
        subst hw4
        cases gk with
        | zero => exact absurd hL.out (by simp [bitsLoop])
        | succ gk =>
          have hL2 := hL.out
          unfold bitsLoop at hL2
          obtain ⟨y0, y1, y2, y3, yf⟩ := sp_cells (C.out.var (i := 1) rfl)
          cases p2 : hasP L z (⟨#[44]⟩ : ByteArray) with
          | false =>
            rw [p2, if_neg (by simp)] at hL2
            obtain ⟨rfl, rfl⟩ := Prod.mk.inj (Option.some.inj hL2)
            clear hL2
            have HH := Hd (rHas_any C.out.ps (⟨#[44]⟩ : ByteArray))
            rw [p2, if_neg (by simp)] at HH
            go_wp2_with fail
            refine (HH.out).mono ?_
            rintro e w5 ⟨rfl, h5, k5⟩
            replace C := Hd (C.out.call h5 k5)
            clear HH
            clear y0 y1 y2 y3 yf
            obtain ⟨y0, y1, y2, y3, yf⟩ := sp_cells (C.out.var (i := 1) rfl)
            go_wp2_with fail
            refine (rNeed_any C.out.ps (⟨#[59]⟩ : ByteArray)).mono ?_
            rintro e w40 ⟨rfl, h40, k40⟩
            replace C := Hd (C.out.call h40 k40)
            try clear y0 y1 y2 y3 yf
            obtain ⟨y0, y1, y2, y3, yf⟩ := sp_cells (C.out.var (i := 1) rfl)
            go_wp2_with fail
            refine (rMake_any C.out.ps (⟨#[109,101,109,98,101,114]⟩ : ByteArray) ⟨#[]⟩ s.at_ _ _ _).mono ?_
            rintro e w41 ⟨rfl, hb41⟩
            replace C := Hd (C.out.madeS (i := 1) rfl hb41 (by have := hm.out; have := hq.out; omega) (⟨#[109,101,109,98,101,114]⟩ : ByteArray) ⟨#[]⟩ s.at_)
            have hcc := C.out.var (i := 0) rfl
            go_wp2_with (refine stN rfl rfl rfl rfl hcc rfl rfl (by simp [Value.oneCell']) ?_)
            refine retN rfl rfl rfl (setRow_heap _ _ _ _ _ _ hcc) rfl ?_
            obtain rfl := hm.out
            exact ⟨_, _, rfl, (C.out.set (i := 0) rfl rfl _).outS (i := 1) (.head _) rfl hsb'.out⟩
          | true =>
            rw [p2, if_pos rfl] at hL2
            obtain ⟨⟨b, z2⟩, hb1, hb2⟩ := Option.bind_eq_some_iff.1 hL2
            simp only at hb2
            replace hb1 := Hd hb1
            replace hb2 := Hd hb2
            clear hL2
            have HH := Hd (rHas_any C.out.ps (⟨#[44]⟩ : ByteArray))
            rw [p2, if_pos rfl] at HH
            go_wp2_with fail
            refine (HH.out).mono ?_
            rintro e w5 ⟨rfl, h5, k5⟩
            replace C := Hd (C.out.call h5 k5)
            clear HH
            clear y0 y1 y2 y3 yf
            go_wp2_with fail
            refine (bits_any G C.out.ps (C.out.var (i := 1) rfl) hne hn hb1.out).mono ?_
            rintro e w9 ⟨ao9, cap9, rfl, hn9, h9, k9⟩
            replace C := Hd (C.out.ret hn9 h9 k9)
            unfold ndV
            go_wp2_with (refine wpList_snoc C.out (.head _) (by have := hm.out; have := hq.out; omega) rfl rfl rfl rfl rfl ?_; intro m7 ao7 cap7 w7 hm7 C7)
            go_roundg gk
            case measure => omega
            case rel => exact ⟨_, _, _, _, _, rfl, hm7, Hd (by have h1 := hm7.out; have := hm.out; have := hq.out; simp at h1; omega), Hd (C7.weak (by simp) (List.Sublist.refl _)), hb2⟩
 | true =>
   rw [p1, if_pos rfl] at hr
   rw [p1] at HW
   have hl0 := lt_of_block (C.out.var (i := 0) rfl)
   have hl1 := lt_of_block (C.out.var (i := 1) rfl)
   cases hd : s.deep nest with
   | true =>
     have HDp : ∀ x, PS L ta tc rb s x → Calls Tryz.prog 109 #[.pointer (some ⟨rb, 0, none⟩), .int .i64 nest] x (fun e w' => e = .returned (.bool true) ∧ PS L ta tc rb s.fail w' ∧ x.grownBy w' (some rb)) := fun x hx => by
      have := rdeep_any hx nest (by omega)
      rw [hd, if_pos rfl] at this
      exact this
     rw [hd, if_pos rfl] at hr
     go_region_with (first
      | (go_at_call 116; refine HW.out.mono ?_; rintro e w1 ⟨rfl, hb1⟩; obtain ⟨y0, y1, y2, y3, yf⟩ := sp_cells ((C.out.drew.below hb1).var (i := 1) rfl))
      | (go_at_call 109; refine (HDp _ (C.out.drew.below hb1).ps).mono ?_; rintro e w2 ⟨rfl, h2, k2⟩))
     all_goals
      replace C := Hd ((C.out.drew.below hb1).call h2 k2)
      clear y0 y1 y2 y3 yf HW HDp hl0 hl1
      unfold memberR at hr
      obtain ⟨⟨sp, z1⟩, hs1, hs2⟩ := Option.bind_eq_some_iff.1 hr
      simp only at hs2
      replace hs1 := Hd hs1
      replace hs2 := Hd hs2
      clear hr
      obtain ⟨⟨kl, s2⟩, hr3, hr4⟩ := Option.bind_eq_some_iff.1 hs2.out
      obtain ⟨rfl, rfl⟩ := Prod.mk.inj (Option.some.inj hr4)
      clear hs2 hr4
      obtain ⟨y0, y1, y2, y3, yf⟩ := sp_cells (C.out.var (i := 1) rfl)
      try clear c0 c1 c2 c3 cf
      obtain ⟨p4, he4, c0, c1, c2, c3, cf⟩ := C.out.ps.cells
      clear he4
      go_upto_region 4 with fail
      go_still_tail 8, (by kernel_rfl)
      change wpList _ _ _ _ _ (w2).drew
      replace C := Hd C.out.drew
      generalize (w2).drew = w21 at C ⊢
      go_wp2_with fail
      refine (G.specs C.out.ps hn hs1.out).mono ?_
      rintro e w22 ⟨ao22, cap22, rfl, hn22, h22, k22⟩
      replace C := Hd (C.out.ret hn22 h22 k22)
      unfold ndV
      clear y0 y1 y2 y3 yf c0 c1 c2 c3 cf
      replace C := Hd (C.out.lit (o := bxO sp ao22 cap22) [⟨sp, ao22, cap22⟩] (by simp) (by simp) rfl (a := w22.heap.size) rfl (n := 1) rfl)
      obtain ⟨w23, hw23⟩ : ∃ W, W = w22.alloc (bxO sp ao22 cap22) := ⟨_, rfl⟩
      rw [← hw23] at C
      obtain ⟨y0, y1, y2, y3, yf⟩ := sp_cells (C.out.var (i := 1) rfl)
      try clear c0 c1 c2 c3 cf
      obtain ⟨p4, he4, c0, c1, c2, c3, cf⟩ := C.out.ps.cells
      clear he4
      have HI := Hd (rIs_any C.out.ps (⟨#[59]⟩ : ByteArray))
      cases hbad : z1.bad with
      | true =>
        rw [if_pos (.inl hbad)] at hr3
        obtain ⟨rfl, rfl⟩ := Prod.mk.inj (Option.some.inj hr3)
        rw [hbad] at c3
        replace hbad := Hd hbad
        go_upto_region 5 with fail
        rw [← hw23]
        replace hw23 := Hd hw23
        go_wp2_with fail
        refine (rNeed_any C.out.ps (⟨#[59]⟩ : ByteArray)).mono ?_
        rintro e w40 ⟨rfl, h40, k40⟩
        replace C := Hd (C.out.call h40 k40)
        try clear y0 y1 y2 y3 yf
        obtain ⟨y0, y1, y2, y3, yf⟩ := sp_cells (C.out.var (i := 1) rfl)
        go_wp2_with fail
        refine (rMake_any C.out.ps (⟨#[109,101,109,98,101,114]⟩ : ByteArray) ⟨#[]⟩ s.at_ _ _ _).mono ?_
        rintro e w41 ⟨rfl, hb41⟩
        replace C := Hd (C.out.madeS (i := 1) rfl hb41 (by simp) (⟨#[109,101,109,98,101,114]⟩ : ByteArray) ⟨#[]⟩ s.at_)
        have hcc := C.out.var (i := 0) rfl
        go_wp2_with (refine stN rfl rfl rfl rfl hcc rfl rfl (by simp [Value.oneCell']) ?_)
        refine retN rfl rfl rfl (setRow_heap _ _ _ _ _ _ hcc) rfl ?_
        skip
        exact ⟨_, _, rfl, (C.out.set (i := 0) rfl rfl _).outS (i := 1) (.head _) rfl hsb'.out⟩
      | false =>
        rw [hbad] at c3
        cases p3 : isP L z1 (⟨#[59]⟩ : ByteArray) with
        | true =>
          rw [if_pos (.inr p3)] at hr3
          rw [p3] at HI
          obtain ⟨rfl, rfl⟩ := Prod.mk.inj (Option.some.inj hr3)
          replace hbad := Hd hbad
          go_upto_region 5 with fail
          rw [← hw23]
          replace hw23 := Hd hw23
          go_wp2_with fail
          refine (HI.out).mono ?_
          rintro e w24 ⟨rfl, hb24⟩
          replace C := Hd (C.out.below hb24)
          clear y0 y1 y2 y3 yf c0 c1 c2 c3 cf
          obtain ⟨y0, y1, y2, y3, yf⟩ := sp_cells (C.out.var (i := 1) rfl)
          go_wp2_with fail
          refine (rNeed_any C.out.ps (⟨#[59]⟩ : ByteArray)).mono ?_
          rintro e w40 ⟨rfl, h40, k40⟩
          replace C := Hd (C.out.call h40 k40)
          try clear y0 y1 y2 y3 yf
          obtain ⟨y0, y1, y2, y3, yf⟩ := sp_cells (C.out.var (i := 1) rfl)
          go_wp2_with fail
          refine (rMake_any C.out.ps (⟨#[109,101,109,98,101,114]⟩ : ByteArray) ⟨#[]⟩ s.at_ _ _ _).mono ?_
          rintro e w41 ⟨rfl, hb41⟩
          replace C := Hd (C.out.madeS (i := 1) rfl hb41 (by simp) (⟨#[109,101,109,98,101,114]⟩ : ByteArray) ⟨#[]⟩ s.at_)
          have hcc := C.out.var (i := 0) rfl
          go_wp2_with (refine stN rfl rfl rfl rfl hcc rfl rfl (by simp [Value.oneCell']) ?_)
          refine retN rfl rfl rfl (setRow_heap _ _ _ _ _ _ hcc) rfl ?_
          skip
          exact ⟨_, _, rfl, (C.out.set (i := 0) rfl rfl _).outS (i := 1) (.head _) rfl hsb'.out⟩
        | false =>
          rw [if_neg (by rw [hbad, p3]; simp)] at hr3
          rw [p3] at HI
          obtain ⟨⟨b, z2⟩, hb1, hb2⟩ := Option.bind_eq_some_iff.1 hr3
          simp only at hb2
          replace hb1 := Hd hb1
          replace hb2 := Hd hb2
          clear hr3
          replace hbad := Hd hbad
          go_upto_region 5 with fail
          rw [← hw23]
          replace hw23 := Hd hw23
          go_wp2_with fail
          refine (HI.out).mono ?_
          rintro e w24 ⟨rfl, hb24⟩
          replace C := Hd (C.out.below hb24)
          clear y0 y1 y2 y3 yf c0 c1 c2 c3 cf
          go_wp2_with fail
          refine (bits_any G C.out.ps (C.out.var (i := 1) rfl) hne hn hb1.out).mono ?_
          rintro e w25 ⟨ao25, cap25, rfl, hn25, h25, k25⟩
          replace C := Hd (C.out.ret hn25 h25 k25)
          unfold ndV
          go_wp2_with (refine wpList_snoc C.out (.head _) (by simp) rfl rfl rfl rfl rfl ?_; intro m3 ao3 cap3 w26 hm3 C3)
          replace C := Hd C3
          clear C3
          go_loopg [4] KK (fun q v4 wx => ∃ (k : List T) (z : Ps) (m : Nat) (ao3 : Option Addr) (cap3 : Nat), v4 = .slice ao3 m cap3 ∧ Hid (k.length = m) ∧ Hid (m + q ≤ 6000) ∧ Hid (Cx L ta tc rb (fun _ => False) (some sb) w z [] [(w.heap.size, nzO), (sb, spO rb nest pl ty)] k (.slice ao3 m cap3) wx) ∧ Hid (bitsLoop L R nest q k z = some (kl, s2)))
          case atStart => exact ⟨_, _, _, _, _, rfl, hm3, Hd (by have h1 := hm3.out; simp at h1; unfold KK; omega), Hd (C.out.weak (by simp) (List.Sublist.refl _)), hb2⟩
          case round =>
           have Cx := C
           clear Cx C hb2 hb1
           obtain ⟨k, z, m, ao3, cap3, rfl, hm, hq, C, hL⟩ := hrel
           obtain ⟨w4, hw4⟩ : ∃ w4, w4 = wr := ⟨_, rfl⟩
           subst hw4
           cases gk with
           | zero => exact absurd hL.out (by simp [bitsLoop])
           | succ gk =>
             have hL2 := hL.out
             unfold bitsLoop at hL2
             obtain ⟨y0, y1, y2, y3, yf⟩ := sp_cells (C.out.var (i := 1) rfl)
             cases p2 : hasP L z (⟨#[44]⟩ : ByteArray) with
             | false =>
               rw [p2, if_neg (by simp)] at hL2
               obtain ⟨rfl, rfl⟩ := Prod.mk.inj (Option.some.inj hL2)
               clear hL2
               have HH := Hd (rHas_any C.out.ps (⟨#[44]⟩ : ByteArray))
               rw [p2, if_neg (by simp)] at HH
               go_wp2_with fail
               refine (HH.out).mono ?_
               rintro e w5 ⟨rfl, h5, k5⟩
               replace C := Hd (C.out.call h5 k5)
               clear HH
               clear y0 y1 y2 y3 yf
               obtain ⟨y0, y1, y2, y3, yf⟩ := sp_cells (C.out.var (i := 1) rfl)
               go_wp2_with fail
               refine (rNeed_any C.out.ps (⟨#[59]⟩ : ByteArray)).mono ?_
               rintro e w40 ⟨rfl, h40, k40⟩
               replace C := Hd (C.out.call h40 k40)
               try clear y0 y1 y2 y3 yf
               obtain ⟨y0, y1, y2, y3, yf⟩ := sp_cells (C.out.var (i := 1) rfl)
               go_wp2_with fail
               refine (rMake_any C.out.ps (⟨#[109,101,109,98,101,114]⟩ : ByteArray) ⟨#[]⟩ s.at_ _ _ _).mono ?_
               rintro e w41 ⟨rfl, hb41⟩
               replace C := Hd (C.out.madeS (i := 1) rfl hb41 (by have := hm.out; have := hq.out; omega) (⟨#[109,101,109,98,101,114]⟩ : ByteArray) ⟨#[]⟩ s.at_)
               have hcc := C.out.var (i := 0) rfl
               go_wp2_with (refine stN rfl rfl rfl rfl hcc rfl rfl (by simp [Value.oneCell']) ?_)
               refine retN rfl rfl rfl (setRow_heap _ _ _ _ _ _ hcc) rfl ?_
               obtain rfl := hm.out
               exact ⟨_, _, rfl, (C.out.set (i := 0) rfl rfl _).outS (i := 1) (.head _) rfl hsb'.out⟩
             | true =>
               rw [p2, if_pos rfl] at hL2
               obtain ⟨⟨b, z2⟩, hb1, hb2⟩ := Option.bind_eq_some_iff.1 hL2
               simp only at hb2
               replace hb1 := Hd hb1
               replace hb2 := Hd hb2
               clear hL2
               have HH := Hd (rHas_any C.out.ps (⟨#[44]⟩ : ByteArray))
               rw [p2, if_pos rfl] at HH
               go_wp2_with fail
               refine (HH.out).mono ?_
               rintro e w5 ⟨rfl, h5, k5⟩
               replace C := Hd (C.out.call h5 k5)
               clear HH
               clear y0 y1 y2 y3 yf
               go_wp2_with fail
               refine (bits_any G C.out.ps (C.out.var (i := 1) rfl) hne hn hb1.out).mono ?_
               rintro e w9 ⟨ao9, cap9, rfl, hn9, h9, k9⟩
               replace C := Hd (C.out.ret hn9 h9 k9)
               unfold ndV
               go_wp2_with (refine wpList_snoc C.out (.head _) (by have := hm.out; have := hq.out; omega) rfl rfl rfl rfl rfl ?_; intro m7 ao7 cap7 w7 hm7 C7)
               go_roundg gk
               case measure => omega
               case rel => exact ⟨_, _, _, _, _, rfl, hm7, Hd (by have h1 := hm7.out; have := hm.out; have := hq.out; simp at h1; omega), Hd (C7.weak (by simp) (List.Sublist.refl _)), hb2⟩
   | false =>
     have HDp : ∀ x, PS L ta tc rb s x → Calls Tryz.prog 109 #[.pointer (some ⟨rb, 0, none⟩), .int .i64 nest] x (fun e w' => e = .returned (.bool false) ∧ PS L ta tc rb s w' ∧ x.grownBy w' (some rb)) := fun x hx => by
      have := rdeep_any hx nest (by omega)
      rw [hd, if_neg (by simp)] at this
      exact this
     rw [hd, if_neg (by simp)] at hr
     go_region_with (first
      | (go_at_call 116; refine HW.out.mono ?_; rintro e w1 ⟨rfl, hb1⟩; obtain ⟨y0, y1, y2, y3, yf⟩ := sp_cells ((C.out.drew.below hb1).var (i := 1) rfl))
      | (go_at_call 109; refine (HDp _ (C.out.drew.below hb1).ps).mono ?_; rintro e w2 ⟨rfl, h2, k2⟩))
     all_goals
      replace C := Hd ((C.out.drew.below hb1).call h2 k2)
      clear y0 y1 y2 y3 yf HW HDp hl0 hl1
      replace hr := Hd hr
      have hn2 : nest ≤ 200 := by unfold Ps.deep at hd; simp at hd; omega
      have g1 : IntKind.i64.wrap ((nest : Int) + 1) = ((nest + 1 : Nat) : Int) := by rw [IntWalk.i64_in _ (by omega)]; omega
      have hin := tok_in (L := L) (i := s.at_) (by unfold wordP at p1; simp only [Bool.and_eq_true, decide_eq_true_eq] at p1; omega)
      have hin2 := Hd hin.2.1
      clear hin
      obtain ⟨y0, y1, y2, y3, yf⟩ := sp_cells (C.out.var (i := 1) rfl)
      go_upto_region 2 with fail
      go_still_tail 9, (by kernel_rfl)
      change wpList _ _ _ _ _ (w2).drew
      replace C := Hd C.out.drew
      generalize (w2).drew = w31 at C ⊢
      go_wp2_with fail
      refine (assertion_any G C.out.ps (by omega) hin2.out hr.out).mono ?_
      rintro e w32 ⟨ao32, cap32, rfl, hn32, h32, k32⟩
      replace C := Hd (C.out.ret hn32 h32 k32)
      unfold ndV
      clear y0 y1 y2 y3 yf
      have hcc := C.out.var (i := 0) rfl
      go_wp2_with (refine stN rfl rfl rfl rfl hcc rfl rfl (by simp [Value.oneCell']) ?_)
      refine retN rfl rfl rfl (setRow_heap _ _ _ _ _ _ hcc) rfl ?_
      exact ⟨_, _, rfl, (C.out.set (i := 0) rfl rfl _).outS (i := 1) (.head _) rfl hsb'.out⟩
end Go.Proofs.YtllbbacnakoomaaGreatDoor
namespace Go.Proofs.YtllbbacnakoomaaGreatDoor
open Go.RowKit
set_option linter.unusedVariables false
def OneRet (L : List Ct) (ta : Option Addr) (tc rb sb nest : Nat) (pl : Bool) (w : World) (n : T × Bool × Bool) (s : Ps) (e : Ending) (w' : World) : Prop :=
 ∃ ao cap, e = .returned (.tuple #[ndV n.1 ao cap, .bool n.2.1]) ∧ NdAt w' w.heap.size n.1 ao cap ∧ PS L ta tc rb s w' ∧ Grown2 w w' rb (some sb) ∧ w'.heap[sb]? = some (spO rb nest pl n.2.2)
def OneOk (L : List Ct) (ta : Option Addr) (tc rb : Nat) (R : Rec) : Prop :=
 ∀ {w : World} {s : Ps} {sb nest : Nat} {pl ty : Bool} {n : T × Bool × Bool} {s' : Ps}, PS L ta tc rb s w → w.heap[sb]? = some (spO rb nest pl ty) → sb ≠ rb → nest ≤ 1000 → oneF L R nest pl ty s = some (n, s') → Calls Tryz.prog 192 #[.pointer (some ⟨sb, 0, none⟩)] w (OneRet L ta tc rb sb nest pl w n s')
theorem Cx.retS {L : List Ct} {ta : Option Addr} {tc rb : Nat} {F : Nat → Prop} {O0 : Option Nat} {w0 : World} {s s' : Ps} {ns : List Nd} {vs : List (Nat × Obj)} {ks : List T} {v : Value} {w w' : World} (C : Cx L ta tc rb F O0 w0 s ns vs ks v w) {i sb : Nat} {o o' : Obj} (hi : vs[i]? = some (sb, o)) {n : T} {ao : Option Addr} {cap : Nat} (hn : NdAt w' w.heap.size n ao cap) (h : PS L ta tc rb s' w') (hg : Grown2 w w' rb (some sb)) (hs : w'.heap[sb]? = some o') : Cx L ta tc rb F O0 w0 s' (⟨n, ao, cap⟩ :: ns) (vs.set i (sb, o')) ks v w' := by
 have hsb := (C.vok _ (List.mem_of_getElem? hi)).2
 have hsv := C.ovs _ (List.mem_of_getElem? hi)
 simp only at hsb hsv
 have hge : ∀ x ∈ vs.set i (sb, o'), ∃ y ∈ vs, y.1 = x.1 := by
  intro x hx
  obtain ⟨j, hj⟩ := List.getElem?_of_mem hx
  rcases set_at hj with ⟨_, rfl⟩ | ⟨_, hj⟩
  ·exact ⟨_, List.mem_of_getElem? hi, rfl⟩
  ·exact ⟨x, List.mem_of_getElem? hj, rfl⟩
 have hft : ∀ k, Ft F w0.heap.size vs v.ownBlock k → Ft F w0.heap.size (vs.set i (sb, o')) v.ownBlock k := by
  rintro k ⟨h1, h2, h3⟩
  refine ⟨h1, fun x hx => ?_, h3⟩
  obtain ⟨y, hy, e⟩ := hge x hx
  rw [← e]
  exact h2 y hy
 have hK : KeptOn (Ft F w0.heap.size vs v.ownBlock) w w' := fun k hk hl => hg.block k hl (fun e => C.nrb (e ▸ hk)) (fun e => hk.2.1 _ (List.mem_of_getElem? hi) (Option.some.inj e))
 refine ⟨h, ⟨hg.os.trans C.kp.os, hg.tape.trans C.kp.tape, hg.output.trans C.kp.output, Nat.le_trans C.kp.size hg.size, fun k a b c => (hg.block k (Nat.lt_of_lt_of_le a C.kp.size) b (fun e => by
  have e' := Option.some.inj e
  rcases hsb.2 with h | h
  ·omega
  ·exact c (by rw [h, e']))).trans (C.kp.block k a b c), fun b y fz hy => hg.env b y fz (C.kp.env b y fz hy)⟩, C.fr, C.rb0, C.tlo, fun x hx => ?_, ?_, ?_, C.olo, fun x hx => ?_, fun x hx => ?_⟩
 ·obtain ⟨j, hj⟩ := List.getElem?_of_mem hx
  rcases set_at hj with ⟨_, rfl⟩ | ⟨hne, hj⟩
  ·exact ⟨hs, hsb⟩
  ·have := C.vok x (List.mem_of_getElem? hj)
   exact ⟨(hg.block _ (lt_of_block this.1) this.2.1 (fun e => hne (nd_at C.vnd hj hi (Option.some.inj e).symm))).trans this.1, this.2⟩
 ·have e : (vs.set i (sb, o')).map (·.1) = vs.map (·.1) := by
   refine List.ext_getElem? fun j => ?_
   rw [List.getElem?_map, List.getElem?_map, List.getElem?_set]
   by_cases hij : i = j
   ·subst hij
    rw [if_pos rfl, hi, if_pos (List.getElem?_eq_some_iff.1 hi).1]
    rfl
   ·rw [if_neg hij]
  rw [e]
  exact C.vnd
 ·obtain ⟨css, h1, h2⟩ := C.own
  refine ⟨css, ⟨⟨h1.1.1, ?_⟩, h1.2⟩, (h2.later hK).wide fun k hk _ => hft k hk⟩
  rcases h1.1.2 with h0 | ⟨g, cap, cur, hv, hg1, hgb, r⟩
  ·exact .inl h0
  ·refine .inr ⟨g, cap, cur, hv, hg1, (hg.block g (lt_of_block hgb) (fun e => (C.olo g (by rw [hv]; rfl)).1 e) (fun e => hsv (by rw [hv, Option.some.inj e]; rfl))).trans hgb, r⟩
 ·obtain ⟨y, hy, e⟩ := hge x hx
  rw [← e]
  exact C.ovs y hy
 ·rcases List.mem_cons.1 hx with rfl | hx
  ·refine hn.wide fun k hk _ => ⟨.inr (Nat.le_trans C.kp.size hk), fun y hy e => ?_, fun e => ?_⟩
   ·obtain ⟨z, hz, e2⟩ := hge y hy
    have := lt_of_block (C.vok z hz).1
    omega
   ·obtain ⟨css, h1, _⟩ := C.own
    have := h1.block_lt e
    omega
  ·exact ((C.nok x hx).later hK).wide fun k hk _ => hft k hk
theorem specs_step {L : List Ct} {ta : Option Addr} {tc rb : Nat} {R : Rec} (HO : OneOk L ta tc rb R) {w : World} {s : Ps} {nest : Nat} {plain : Bool} {n : T} {s' : Ps} (h : PS L ta tc rb s w) (hn : nest ≤ 1000) (hr : specsF L R nest plain s = some (n, s')) :
 Calls Tryz.prog 164 #[.pointer (some ⟨rb, 0, none⟩), .int .i64 nest, .bool plain] w (NdRet L ta tc rb w n s') := by
 have C := Hd (((Cx.start h).alloc nzO (a := w.heap.size) rfl).alloc (spO rb (nest + 1) plain false) (a := w.heap.size + 1) (by simp))
 have hlt := h.lt
 obtain ⟨p4, he4, c0, c1, c2, c3, cf⟩ := h.cells
 clear he4
 have g1 : IntKind.i64.wrap ((nest : Int) + 1) = ((nest + 1 : Nat) : Int) := by rw [IntWalk.i64_in _ (by omega)]; omega
 unfold specsF at hr
 obtain ⟨⟨kl, s2⟩, hr3, hfin⟩ := Option.bind_eq_some_iff.1 hr
 simp only at hfin
 replace hr3 := Hd hr3
 clear hr
 go_enter Tryz.func164, Tryz.ntmps164
 go_wp2_with fail
 go_loopg [7] KK (fun q v7 wx => ∃ (k : List T) (z : Ps) (ty : Bool) (m : Nat) (ao3 : Option Addr) (cap3 : Nat), v7 = .slice ao3 m cap3 ∧ Hid (k.length = m) ∧ Hid (m + q ≤ 6000) ∧ Hid (Cx L ta tc rb (fun _ => False) none w z [] [(w.heap.size + 1, spO rb (nest + 1) plain ty), (w.heap.size, nzO)] k (.slice ao3 m cap3) wx) ∧ Hid (spLoop L R nest plain q k ty z = some (kl, s2)))
 case atStart => exact ⟨[], s, false, 0, none, 0, rfl, Hd rfl, Hd (by unfold KK; omega), C, hr3⟩
 case round =>
  have Cx := C
  clear Cx C hr3 c0 c1 c2 c3 cf
  obtain ⟨k, z, ty, m, ao3, cap3, rfl, hm, hq, C, hL⟩ := hrel
  obtain ⟨w4, hw4⟩ : ∃ w4, w4 = wr := ⟨_, rfl⟩
  subst hw4
  cases gk with
  | zero => exact absurd hL.out (by simp [spLoop])
  | succ gk =>
    have hL2 := hL.out
    unfold spLoop at hL2
    have HD := Hd (rdeep_any C.out.ps nest (by omega))
    cases hd : z.deep nest with
    | true =>
      rw [hd, if_pos rfl] at hL2 HD
      obtain ⟨rfl, rfl⟩ := Prod.mk.inj (Option.some.inj hL2)
      go_wp2_with fail
      refine (HD.out).mono ?_
      rintro e w5 ⟨rfl, h5, k5⟩
      replace C := Hd (C.out.call h5 k5)
      by_cases hz0 : k.length = 0
      ·rw [if_pos hz0] at hfin
       obtain ⟨rfl, rfl⟩ := Prod.mk.inj (Option.some.inj hfin)
       obtain rfl : m = 0 := hm.out.symm.trans hz0
       replace hz0 := Hd hz0
       go_wp2_with fail
       refine (rFail_any C.out.ps).mono ?_
       rintro e w40 ⟨rfl, h40, k40⟩
       replace C := Hd (C.out.call h40 k40)
       go_wp2_with fail
       refine (rMake_any C.out.ps (⟨#[115,112,101,99,115]⟩ : ByteArray) ⟨#[]⟩ s.at_ _ _ _).mono ?_
       rintro e w41 ⟨rfl, hb41⟩
       replace C := Hd (C.out.made hb41 (by have := hm.out; omega) (⟨#[115,112,101,99,115]⟩ : ByteArray) ⟨#[]⟩ s.at_)
       have hcc := C.out.var (i := 1) rfl
       go_wp2_with (refine stN rfl rfl rfl rfl hcc rfl rfl (by simp [Value.oneCell']) ?_)
       refine retN rfl rfl rfl (setRow_heap _ _ _ _ _ _ hcc) rfl ?_
       obtain rfl := List.eq_nil_of_length_eq_zero hz0.out
       exact ⟨_, _, rfl, (C.out.set (i := 1) rfl rfl _).out (.head _)⟩
      ·rw [if_neg hz0] at hfin
       obtain ⟨rfl, rfl⟩ := Prod.mk.inj (Option.some.inj hfin)
       have hm0 : ((m : Int) == 0) = false := beq_false_of_ne (by have := hm.out; omega)
       go_wp2_with fail
       refine (rMake_any C.out.ps (⟨#[115,112,101,99,115]⟩ : ByteArray) ⟨#[]⟩ s.at_ _ _ _).mono ?_
       rintro e w41 ⟨rfl, hb41⟩
       replace C := Hd (C.out.made hb41 (by have := hm.out; have := hq.out; omega) (⟨#[115,112,101,99,115]⟩ : ByteArray) ⟨#[]⟩ s.at_)
       obtain rfl := hm.out
       have hcc := C.out.var (i := 1) rfl
       go_wp2_with (refine stN rfl rfl rfl rfl hcc rfl rfl (by simp [Value.oneCell']) ?_)
       refine retN rfl rfl rfl (setRow_heap _ _ _ _ _ _ hcc) rfl ?_
       exact ⟨_, _, rfl, (C.out.set (i := 1) rfl rfl _).out (.head _)⟩
    | false =>
      rw [hd, if_neg (by simp)] at hL2 HD
      obtain ⟨⟨⟨a, ok, ty2⟩, z2⟩, ho1, ho2⟩ := Option.bind_eq_some_iff.1 hL2
      simp only at ho2
      replace ho1 := Hd ho1
      clear hL2
      go_wp2_with fail
      refine (HD.out).mono ?_
      rintro e w5 ⟨rfl, h5, k5⟩
      replace C := Hd (C.out.call h5 k5)
      have hn2 : nest ≤ 200 := by unfold Ps.deep at hd; simp at hd; omega
      have hok : ok = true ∨ ok = false := by cases ok <;> simp
      go_wp2_with fail
      refine (HO C.out.ps (C.out.var (i := 0) rfl) (by omega) (by omega) ho1.out).mono ?_
      rintro e w6 ⟨ao6, cap6, rfl, hn6, h6, g6, s6⟩
      replace C := Hd (C.out.retS (i := 0) rfl hn6 h6 g6 s6)
      clear g6 s6
      unfold ndV
      rcases hok with rfl | rfl
      ·rw [if_pos rfl] at ho2
       replace ho2 := Hd ho2
       replace C := Hd (C.out.alloc (bxO a ao6 cap6) (a := w6.heap.size) rfl)
       obtain ⟨b0, b1, b2, b3, b4, bf⟩ := nd_cells (C.out.var (i := 0) rfl)
       go_wp2_with (refine wpList_snoc C.out (.head _) (by have := hm.out; have := hq.out; omega) rfl rfl rfl rfl (by simp) ?_; intro m7 ao7 cap7 w7 hm7 C7)
       go_roundg gk
       case measure => omega
       case rel => exact ⟨_, _, _, _, _, _, rfl, hm7, Hd (by have h1 := hm7.out; have := hm.out; have := hq.out; simp at h1; omega), Hd (C7.weak (by simp) ((List.Sublist.refl _).cons _)), ho2⟩
      ·rw [if_neg (by simp)] at ho2
       obtain ⟨rfl, rfl⟩ := Prod.mk.inj (Option.some.inj ho2)
       replace C := Hd (C.out.alloc (bxO a ao6 cap6) (a := w6.heap.size) rfl)
       by_cases hz0 : k.length = 0
       ·rw [if_pos hz0] at hfin
        obtain ⟨rfl, rfl⟩ := Prod.mk.inj (Option.some.inj hfin)
        obtain rfl : m = 0 := hm.out.symm.trans hz0
        replace hz0 := Hd hz0
        go_wp2_with fail
        refine (rFail_any C.out.ps).mono ?_
        rintro e w40 ⟨rfl, h40, k40⟩
        replace C := Hd (C.out.call h40 k40)
        go_wp2_with fail
        refine (rMake_any C.out.ps (⟨#[115,112,101,99,115]⟩ : ByteArray) ⟨#[]⟩ s.at_ _ _ _).mono ?_
        rintro e w41 ⟨rfl, hb41⟩
        replace C := Hd (C.out.made hb41 (by have := hm.out; omega) (⟨#[115,112,101,99,115]⟩ : ByteArray) ⟨#[]⟩ s.at_)
        have hcc := C.out.var (i := 2) rfl
        go_wp2_with (refine stN rfl rfl rfl rfl hcc rfl rfl (by simp [Value.oneCell']) ?_)
        refine retN rfl rfl rfl (setRow_heap _ _ _ _ _ _ hcc) rfl ?_
        obtain rfl := List.eq_nil_of_length_eq_zero hz0.out
        exact ⟨_, _, rfl, (C.out.set (i := 2) rfl rfl _).out (.head _)⟩
       ·rw [if_neg hz0] at hfin
        obtain ⟨rfl, rfl⟩ := Prod.mk.inj (Option.some.inj hfin)
        have hm0 : ((m : Int) == 0) = false := beq_false_of_ne (by have := hm.out; omega)
        go_wp2_with fail
        refine (rMake_any C.out.ps (⟨#[115,112,101,99,115]⟩ : ByteArray) ⟨#[]⟩ s.at_ _ _ _).mono ?_
        rintro e w41 ⟨rfl, hb41⟩
        replace C := Hd (C.out.made hb41 (by have := hm.out; have := hq.out; omega) (⟨#[115,112,101,99,115]⟩ : ByteArray) ⟨#[]⟩ s.at_)
        obtain rfl := hm.out
        have hcc := C.out.var (i := 2) rfl
        go_wp2_with (refine stN rfl rfl rfl rfl hcc rfl rfl (by simp [Value.oneCell']) ?_)
        refine retN rfl rfl rfl (setRow_heap _ _ _ _ _ _ hcc) rfl ?_
        exact ⟨_, _, rfl, (C.out.set (i := 2) rfl rfl _).out (.head _)⟩
end Go.Proofs.YtllbbacnakoomaaGreatDoor
