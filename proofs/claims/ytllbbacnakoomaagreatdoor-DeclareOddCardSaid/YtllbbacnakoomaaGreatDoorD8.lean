/- Texts of this seat's proofs, laid into one file. -/
import Derived.Test.YtllbbacnakoomaaGreatDoorD4
import Derived.Test.YtllbbacnakoomaaGreatDoorD7
set_option maxRecDepth 100000
set_option maxHeartbeats 16000000
namespace Go.Proofs.YtllbbacnakoomaaGreatDoor
open Go.RowKit
set_option linter.unusedVariables false
theorem rowIn_nil (w : World) (rb : Nat) : RowIn w rb (fun _ => False) [] (.slice none 0 0) := ⟨⟨[], Own.nil _ _ _ _, .nil⟩, ⟨fun h => h, by simp [Value.ownBlock]⟩, fun _ h => h.elim⟩
theorem loop_any {L : List Ct} {ta : Option Addr} {tc rb : Nat} {R : Rec} (G2 : Good2 L ta tc rb R) {w : World} {s : Ps} {nest : Nat} {ks : List T} {s' : Ps} (h : PS L ta tc rb s w) (hn : nest ≤ 1000) (hr : loopF L R nest s = some (ks, s')) :
 Calls Tryz.prog 169 #[drV rb, .int .i64 nest] w (RowRet L ta tc rb (fun _ => False) (.slice none 0 0) w ks s') := by
 have G := G2.good
 have C := Hd ((Cx.startK h (rowIn_nil w rb)).alloc (drO rb) (a := w.heap.size) rfl)
 have hlt := h.lt
 obtain ⟨p, he0, c0, c1, c2, c3, cf⟩ := h.cells
 replace he0 := Hd he0
 obtain ⟨y, hy⟩ : ∃ y, y = needP L (s.into (.push s.env)) (⟨#[40]⟩ : ByteArray) := ⟨_, rfl⟩
 unfold loopF at hr
 rw [← hy] at hr
 replace hy := Hd hy
 obtain ⟨⟨a, z1⟩, ha1, ha2⟩ := Option.bind_eq_some_iff.1 hr
 simp only at ha2
 replace ha1 := Hd ha1
 replace ha2 := Hd ha2
 clear hr
 have hr := ha2.out
 clear ha2
 obtain ⟨⟨b, z2⟩, hb1, hb2⟩ := Option.bind_eq_some_iff.1 hr
 simp only at hb2
 replace hb1 := Hd hb1
 replace hb2 := Hd hb2
 clear hr
 have hr := hb2.out
 clear hb2
 obtain ⟨⟨c, z3⟩, hc1, hc2⟩ := Option.bind_eq_some_iff.1 hr
 simp only at hc2
 replace hc1 := Hd hc1
 replace hc2 := Hd hc2
 clear hr
 have hr := hc2.out
 clear hc2
 obtain ⟨⟨d, z4⟩, hd1, hd2⟩ := Option.bind_eq_some_iff.1 hr
 simp only at hd2
 replace hd1 := Hd hd1
 replace hd2 := Hd hd2
 clear hr
 obtain ⟨rfl, rfl⟩ := Prod.mk.inj (Option.some.inj hd2.out)
 clear hd2
 obtain ⟨w50, hw50⟩ : ∃ W, W = w.alloc (drO rb) := ⟨_, rfl⟩
 rw [← hw50] at C
 obtain ⟨z0, zf⟩ := dr_cell (C.out.var (i := 0) rfl)
 obtain ⟨p4, he4, d0, d1, d2, d3, df⟩ := C.out.ps.cells
 obtain rfl : p4 = p := by
  have e := kept_cell ((Below.refl w.heap.size w).alloc (Nat.le_refl _) (drO rb)) c2
  rw [← hw50, d2] at e
  injection e with e
  injection e
 have hbD : Below w50.heap.size w50 w50.drew := (Below.refl _ w50).drew
 have HPu := Hd (push_any (he4.under hbD))
 have f2 : (w.alloc (drO rb)).cell? ⟨rb, 2, none⟩ = some (.pointer p4) := kept_cell ((Below.refl w.heap.size w).alloc (Nat.le_refl _) (drO rb)) c2
 clear he4 c0 c1 c3 cf
 go_enter Tryz.func169, Tryz.ntmps169
 go_upto_region 3 with fail
 rw [← hw50]
 replace hw50 := Hd hw50
 clear f2 c2
 go_cut [] from 12 to 17 (fun wx => Hid (Cx L ta tc rb (fun k => False ∧ k < w.heap.size) none w (s.into (.push s.env)) [] [(w.heap.size, drO rb)] [] (.slice none 0 0) wx))
 case first =>
  go_region_with (go_at_call 114; refine HPu.out.mono ?_; rintro e w2 ⟨⟨q, rfl, hq⟩, hb2⟩; obtain ⟨z0, zf⟩ := dr_cell ((C.out.drew.below hb2).var (i := 0) rfl); obtain ⟨p2, he2, c0, c1, c2, c3, cf⟩ := (C.out.drew.below hb2).ps.cells; replace he2 := Hd he2; replace hq := Hd hq)
  all_goals
   go_wp2_with fail
   go_meet
   case rel => exact Hd ((C.out.drew.below hb2).into hq.out)
 case rest =>
  have Cy := C
  clear Cy C d0 d1 d2 d3 df
  have C := hcut
  clear hcut
  clear z0 zf
  obtain ⟨z0, zf⟩ := dr_cell (C.out.var (i := 0) rfl)
  have HN := Hd (rNeed_any C.out.ps (⟨#[40]⟩ : ByteArray))
  rw [← hy.out] at HN
  go_wp2_with fail
  refine (HN.out).mono ?_
  rintro e w3 ⟨rfl, h3, k3⟩
  replace C := Hd (C.out.call h3 k3)
  clear HN
  clear z0 zf
  obtain ⟨z0, zf⟩ := dr_cell (C.out.var (i := 0) rfl)
  try clear c0 c1 c2 c3 cf
  obtain ⟨p4, he4, c0, c1, c2, c3, cf⟩ := C.out.ps.cells
  clear he4
  have ha1 := ha1.out
  cases hbad : y.bad with
  | true =>
    rw [if_neg (by rw [hbad]; simp)] at ha1
    rw [hbad] at c3
    replace hbad := Hd hbad
    go_wp2_with fail
    refine (perhaps_any G C.out.ps hn ha1).mono ?_
    rintro e w4 ⟨ao4, cap4, rfl, hn4, h4, k4⟩
    replace C := Hd (C.out.ret hn4 h4 k4)
    unfold ndV
    go_wp2_with (refine wpList_snoc C.out (.head _) (by simp) rfl rfl rfl rfl rfl ?_; intro m5 ao5 cap5 w5 hm5 C5; clear z0 zf; obtain ⟨z0, zf⟩ := dr_cell (C5.var (i := 0) rfl))
    replace C := Hd C5
    clear C5
    clear z0 zf
    obtain ⟨z0, zf⟩ := dr_cell (C.out.var (i := 0) rfl)
    have HB1 := Hd (perhaps_any G C.out.drew.ps hn hb1.out)
    have HB2 := Hd (fun (x : World) (hx : PS L ta tc rb z2 x) => perhaps_any G hx hn hc1.out)
    have HB3 := Hd (fun (x : World) (hx : PS L ta tc rb z3 x) => G2.stmt hx hn hd1.out)
    have z1d := (dr_cell (C.out.drew.var (i := 0) rfl)).1
    go_upto_region 8 with fail
    go_region_law (first
     | (refine step_snocs ((((C.out.drew.ret hn1 h1 k1).ret hn2 h2 k2).ret hn3 h3 k3).below ((Below.refl _ w3).alloc (Nat.le_refl _) (.cells #[.string b.kind, .string b.text, .int .i64 b.from_, .int .i64 b.to_, .slice ao1 b.kids.length cap1, .string c.kind, .string c.text, .int .i64 c.from_, .int .i64 c.to_, .slice ao2 c.kids.length cap2, .string d.kind, .string d.text, .int .i64 d.from_, .int .i64 d.to_, .slice ao3 d.kids.length cap3] 50 (0,0)))) (xs := [⟨b, ao1, cap1⟩, ⟨c, ao2, cap2⟩, ⟨d, ao3, cap3⟩]) (by simp) (by simp) (by simp) rfl rfl rfl rfl rfl (heap_alloc_new _ _) ?_; intro m7 ao7 cap7 w7 hm7 C7)
     | (go_simp; go_at_call 194; (with_reducible refine HB1.out.mono ?_); rintro e w1 ⟨ao1, cap1, rfl, hn1, h1, k1⟩; have z2d := (dr_cell ((C.out.drew.ret hn1 h1 k1).var (i := 0) rfl)).1; unfold ndV)
     | (go_simp; go_at_call 194; (with_reducible refine (HB2.out _ h1).mono ?_); rintro e w2 ⟨ao2, cap2, rfl, hn2, h2, k2⟩; have z3d := (dr_cell (((C.out.drew.ret hn1 h1 k1).ret hn2 h2 k2).var (i := 0) rfl)).1; unfold ndV)
     | (go_simp; go_at_call 72; (with_reducible refine (HB3.out _ h2).mono ?_); rintro e w3 ⟨ao3, cap3, rfl, hn3, h3, k3⟩; unfold ndV))
    all_goals
     go_simp
     go_step
     have Cy := C
     clear Cy C HB1 HB2 HB3 z1d
     have C := Hd C7
     clear C7
     clear z0 zf
     obtain ⟨z0, zf⟩ := dr_cell (C.out.var (i := 0) rfl)
     try clear c0 c1 c2 c3 cf
     obtain ⟨p4, he4, c0, c1, c2, c3, cf⟩ := C.out.ps.cells
     clear he4
     have he9 := C.out.env he0.out
     replace C := Hd (C.out.into he9)
     clear he9
     go_wp2
     go_ret
     exact C.out.rowOut hm7 (Hd (by have := hm7.out; simp at this; omega))
  | false =>
    have HS := Hd (starts_any C.out.ps)
    rw [hbad] at c3
    cases pst : startsP L y with
    | true =>
      rw [if_pos ⟨hbad, pst⟩] at ha1
      rw [pst] at HS
      replace hbad := Hd hbad
      go_wp2_with fail
      refine (HS.out).mono ?_
      rintro e w14 ⟨rfl, hb14⟩
      replace C := Hd (C.out.below hb14)
      clear c0 c1 c2 c3 cf
      clear z0 zf
      obtain ⟨z0, zf⟩ := dr_cell (C.out.var (i := 0) rfl)
      go_wp2_with fail
      refine (G2.declaration C.out.ps hn ha1).mono ?_
      rintro e w4 ⟨ao4, cap4, rfl, hn4, h4, k4⟩
      replace C := Hd (C.out.ret hn4 h4 k4)
      unfold ndV
      go_wp2_with (refine wpList_snoc C.out (.head _) (by simp) rfl rfl rfl rfl rfl ?_; intro m5 ao5 cap5 w5 hm5 C5; clear z0 zf; obtain ⟨z0, zf⟩ := dr_cell (C5.var (i := 0) rfl))
      replace C := Hd C5
      clear C5
      clear z0 zf
      obtain ⟨z0, zf⟩ := dr_cell (C.out.var (i := 0) rfl)
      have HB1 := Hd (perhaps_any G C.out.drew.ps hn hb1.out)
      have HB2 := Hd (fun (x : World) (hx : PS L ta tc rb z2 x) => perhaps_any G hx hn hc1.out)
      have HB3 := Hd (fun (x : World) (hx : PS L ta tc rb z3 x) => G2.stmt hx hn hd1.out)
      have z1d := (dr_cell (C.out.drew.var (i := 0) rfl)).1
      go_upto_region 8 with fail
      go_region_law (first
       | (refine step_snocs ((((C.out.drew.ret hn1 h1 k1).ret hn2 h2 k2).ret hn3 h3 k3).below ((Below.refl _ w3).alloc (Nat.le_refl _) (.cells #[.string b.kind, .string b.text, .int .i64 b.from_, .int .i64 b.to_, .slice ao1 b.kids.length cap1, .string c.kind, .string c.text, .int .i64 c.from_, .int .i64 c.to_, .slice ao2 c.kids.length cap2, .string d.kind, .string d.text, .int .i64 d.from_, .int .i64 d.to_, .slice ao3 d.kids.length cap3] 50 (0,0)))) (xs := [⟨b, ao1, cap1⟩, ⟨c, ao2, cap2⟩, ⟨d, ao3, cap3⟩]) (by simp) (by simp) (by simp) rfl rfl rfl rfl rfl (heap_alloc_new _ _) ?_; intro m7 ao7 cap7 w7 hm7 C7)
       | (go_simp; go_at_call 194; (with_reducible refine HB1.out.mono ?_); rintro e w1 ⟨ao1, cap1, rfl, hn1, h1, k1⟩; have z2d := (dr_cell ((C.out.drew.ret hn1 h1 k1).var (i := 0) rfl)).1; unfold ndV)
       | (go_simp; go_at_call 194; (with_reducible refine (HB2.out _ h1).mono ?_); rintro e w2 ⟨ao2, cap2, rfl, hn2, h2, k2⟩; have z3d := (dr_cell (((C.out.drew.ret hn1 h1 k1).ret hn2 h2 k2).var (i := 0) rfl)).1; unfold ndV)
       | (go_simp; go_at_call 72; (with_reducible refine (HB3.out _ h2).mono ?_); rintro e w3 ⟨ao3, cap3, rfl, hn3, h3, k3⟩; unfold ndV))
      all_goals
       go_simp
       go_step
       have Cy := C
       clear Cy C HB1 HB2 HB3 z1d
       have C := Hd C7
       clear C7
       clear z0 zf
       obtain ⟨z0, zf⟩ := dr_cell (C.out.var (i := 0) rfl)
       try clear c0 c1 c2 c3 cf
       obtain ⟨p4, he4, c0, c1, c2, c3, cf⟩ := C.out.ps.cells
       clear he4
       have he9 := C.out.env he0.out
       replace C := Hd (C.out.into he9)
       clear he9
       go_wp2
       go_ret
       exact C.out.rowOut hm7 (Hd (by have := hm7.out; simp at this; omega))
    | false =>
      rw [if_neg (by rw [pst]; simp)] at ha1
      rw [pst] at HS
      replace hbad := Hd hbad
      go_wp2_with fail
      refine (HS.out).mono ?_
      rintro e w14 ⟨rfl, hb14⟩
      replace C := Hd (C.out.below hb14)
      clear c0 c1 c2 c3 cf
      clear z0 zf
      obtain ⟨z0, zf⟩ := dr_cell (C.out.var (i := 0) rfl)
      go_wp2_with fail
      refine (perhaps_any G C.out.ps hn ha1).mono ?_
      rintro e w4 ⟨ao4, cap4, rfl, hn4, h4, k4⟩
      replace C := Hd (C.out.ret hn4 h4 k4)
      unfold ndV
      go_wp2_with (refine wpList_snoc C.out (.head _) (by simp) rfl rfl rfl rfl rfl ?_; intro m5 ao5 cap5 w5 hm5 C5; clear z0 zf; obtain ⟨z0, zf⟩ := dr_cell (C5.var (i := 0) rfl))
      replace C := Hd C5
      clear C5
      clear z0 zf
      obtain ⟨z0, zf⟩ := dr_cell (C.out.var (i := 0) rfl)
      have HB1 := Hd (perhaps_any G C.out.drew.ps hn hb1.out)
      have HB2 := Hd (fun (x : World) (hx : PS L ta tc rb z2 x) => perhaps_any G hx hn hc1.out)
      have HB3 := Hd (fun (x : World) (hx : PS L ta tc rb z3 x) => G2.stmt hx hn hd1.out)
      have z1d := (dr_cell (C.out.drew.var (i := 0) rfl)).1
      go_upto_region 8 with fail
      go_region_law (first
       | (refine step_snocs ((((C.out.drew.ret hn1 h1 k1).ret hn2 h2 k2).ret hn3 h3 k3).below ((Below.refl _ w3).alloc (Nat.le_refl _) (.cells #[.string b.kind, .string b.text, .int .i64 b.from_, .int .i64 b.to_, .slice ao1 b.kids.length cap1, .string c.kind, .string c.text, .int .i64 c.from_, .int .i64 c.to_, .slice ao2 c.kids.length cap2, .string d.kind, .string d.text, .int .i64 d.from_, .int .i64 d.to_, .slice ao3 d.kids.length cap3] 50 (0,0)))) (xs := [⟨b, ao1, cap1⟩, ⟨c, ao2, cap2⟩, ⟨d, ao3, cap3⟩]) (by simp) (by simp) (by simp) rfl rfl rfl rfl rfl (heap_alloc_new _ _) ?_; intro m7 ao7 cap7 w7 hm7 C7)
       | (go_simp; go_at_call 194; (with_reducible refine HB1.out.mono ?_); rintro e w1 ⟨ao1, cap1, rfl, hn1, h1, k1⟩; have z2d := (dr_cell ((C.out.drew.ret hn1 h1 k1).var (i := 0) rfl)).1; unfold ndV)
       | (go_simp; go_at_call 194; (with_reducible refine (HB2.out _ h1).mono ?_); rintro e w2 ⟨ao2, cap2, rfl, hn2, h2, k2⟩; have z3d := (dr_cell (((C.out.drew.ret hn1 h1 k1).ret hn2 h2 k2).var (i := 0) rfl)).1; unfold ndV)
       | (go_simp; go_at_call 72; (with_reducible refine (HB3.out _ h2).mono ?_); rintro e w3 ⟨ao3, cap3, rfl, hn3, h3, k3⟩; unfold ndV))
      all_goals
       go_simp
       go_step
       have Cy := C
       clear Cy C HB1 HB2 HB3 z1d
       have C := Hd C7
       clear C7
       clear z0 zf
       obtain ⟨z0, zf⟩ := dr_cell (C.out.var (i := 0) rfl)
       try clear c0 c1 c2 c3 cf
       obtain ⟨p4, he4, c0, c1, c2, c3, cf⟩ := C.out.ps.cells
       clear he4
       have he9 := C.out.env he0.out
       replace C := Hd (C.out.into he9)
       clear he9
       go_wp2
       go_ret
       exact C.out.rowOut hm7 (Hd (by have := hm7.out; simp at this; omega))
end Go.Proofs.YtllbbacnakoomaaGreatDoor
