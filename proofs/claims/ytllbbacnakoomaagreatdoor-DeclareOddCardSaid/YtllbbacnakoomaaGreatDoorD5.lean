/- Texts of this seat's proofs, laid into one file. -/
import Derived.Test.YtllbbacnakoomaaGreatDoorD4
set_option maxRecDepth 100000
set_option maxHeartbeats 16000000
namespace Go.Proofs.YtllbbacnakoomaaGreatDoor
open Go.RowKit
set_option linter.unusedVariables false
theorem word_case {L : List Ct} {ta : Option Addr} {tc rb : Nat} {R : Rec} (G2 : Good2 L ta tc rb R) {w : World} {s : Ps} {nest : Nat} {ks : List T} {s' : Ps} (h : PS L ta tc rb s w) (hn : nest ≤ 1000) (hin : s.at_ + 1 ≤ L.length) (hr : wordIn L R nest (⟨#[99,97,115,101]⟩ : ByteArray) (s.up 1) = some (ks, s')) :
 Calls Tryz.prog 128 #[drV rb, .int .i64 nest, .string (⟨#[99,97,115,101]⟩ : ByteArray)] w (NdRetB L ta tc rb w (mkP (⟨#[99,97,115,101]⟩ : ByteArray) eB s.at_ s' ks, true) s') := by
 unfold wordIn at hr
 rw [if_pos rfl] at hr
 obtain ⟨⟨c, z1⟩, hc1, hc2⟩ := Option.bind_eq_some_iff.1 hr
 simp only at hc2
 replace hc1 := Hd hc1
 replace hc2 := Hd hc2
 clear hr
 have hr := hc2.out
 clear hc2
 obtain ⟨⟨t, z2⟩, ht1, ht2⟩ := Option.bind_eq_some_iff.1 hr
 simp only at ht2
 replace ht1 := Hd ht1
 replace ht2 := Hd ht2
 clear hr
 obtain ⟨rfl, rfl⟩ := Prod.mk.inj (Option.some.inj ht2.out)
 clear ht2
 have G := G2.good
 have C := Hd (((Cx.start h).alloc (drO rb) (a := w.heap.size) rfl).alloc nzO (a := w.heap.size + 1) (by simp))
 have hlt := h.lt
 have hlo := h.lo
 have hlen := h.len
 have g2 : IntKind.i64.wrap (s.at_ + 1) = s.at_ + 1 := IntWalk.i64_in _ (by omega)
 obtain ⟨z0, zf⟩ := dr_cell (C.out.var (i := 1) rfl)
 try clear c0 c1 c2 c3 cf
 obtain ⟨p4, he4, c0, c1, c2, c3, cf⟩ := C.out.ps.cells
 clear he4
 replace C := Hd (C.out.lit [] (o := .cells #[] 50 (0,0)) (by simp) (by simp) rfl (a := w.heap.size + 1 + 1) (by simp) (n := 0) rfl)
 obtain ⟨y0, yf⟩ := dr_cell (C.out.var (i := 1) rfl)
 obtain ⟨p5, he5, d0, d1, d2, d3, df⟩ := C.out.ps.cells
 clear he5
 replace C := Hd (C.out.up (n := 1) (by omega) hin)
 obtain ⟨x0, xf⟩ := dr_cell (C.out.var (i := 1) rfl)
 clear hlo hlen hlt
 go_enter Tryz.func128, Tryz.ntmps128
 go_upto_region 4 with fail
 clear z0 zf y0 yf x0 xf c0 c1 c2 c3 cf d0 d1 d2 d3 df
 obtain ⟨z0, zf⟩ := dr_cell (C.out.var (i := 1) rfl)
 go_wp2_with fail
 refine (rCond_any G C.out.ps hn hc1.out).mono ?_
 rintro e w1 ⟨ao1, cap1, rfl, hn1, h1, k1⟩
 replace C := Hd (C.out.ret hn1 h1 k1)
 unfold ndV
 go_wp2_with (refine wpList_snoc C.out (.head _) (by simp) rfl rfl rfl rfl rfl ?_; intro m2 ao2 cap2 w2 hm2 C2; clear z0 zf; obtain ⟨z0, zf⟩ := dr_cell (C2.var (i := 1) rfl))
 replace C := Hd C2
 clear C2
 clear z0 zf
 obtain ⟨z0, zf⟩ := dr_cell (C.out.var (i := 1) rfl)
 go_wp2_with fail
 refine (rNeed_any C.out.ps (⟨#[58]⟩ : ByteArray)).mono ?_
 rintro e w3 ⟨rfl, h3, k3⟩
 replace C := Hd (C.out.call h3 k3)
 clear z0 zf
 obtain ⟨z0, zf⟩ := dr_cell (C.out.var (i := 1) rfl)
 go_wp2_with fail
 refine (G2.stmt C.out.ps hn ht1.out).mono ?_
 rintro e w4 ⟨ao4, cap4, rfl, hn4, h4, k4⟩
 replace C := Hd (C.out.ret hn4 h4 k4)
 unfold ndV
 go_wp2_with (refine wpList_snoc C.out (.head _) (by simp) rfl rfl rfl rfl rfl ?_; intro m5 ao5 cap5 w5 hm5 C5; clear z0 zf; obtain ⟨z0, zf⟩ := dr_cell (C5.var (i := 1) rfl))
 replace C := Hd C5
 clear C5
 clear z0 zf
 obtain ⟨z0, zf⟩ := dr_cell (C.out.var (i := 1) rfl)
 go_wp2_with fail
 refine (rMake_any C.out.ps (⟨#[99,97,115,101]⟩ : ByteArray) ⟨#[]⟩ s.at_ _ _ _).mono ?_
 rintro e w40 ⟨rfl, hb40⟩
 replace C := Hd (C.out.made hb40 (by simp) (⟨#[99,97,115,101]⟩ : ByteArray) ⟨#[]⟩ s.at_)
 obtain rfl := hm5.out
 have hcc := C.out.var (i := 0) rfl
 go_wp2_with (refine stN rfl rfl rfl rfl hcc rfl rfl (by simp [Value.oneCell']) ?_)
 refine retT rfl rfl rfl (setRow_heap _ _ _ _ _ _ hcc) rfl ?_
 exact ⟨_, _, rfl, (C.out.set (i := 0) rfl rfl _).out (.head _)⟩
theorem word_default {L : List Ct} {ta : Option Addr} {tc rb : Nat} {R : Rec} (G2 : Good2 L ta tc rb R) {w : World} {s : Ps} {nest : Nat} {ks : List T} {s' : Ps} (h : PS L ta tc rb s w) (hn : nest ≤ 1000) (hin : s.at_ + 1 ≤ L.length) (hr : wordIn L R nest (⟨#[100,101,102,97,117,108,116]⟩ : ByteArray) (s.up 1) = some (ks, s')) :
 Calls Tryz.prog 128 #[drV rb, .int .i64 nest, .string (⟨#[100,101,102,97,117,108,116]⟩ : ByteArray)] w (NdRetB L ta tc rb w (mkP (⟨#[100,101,102,97,117,108,116]⟩ : ByteArray) eB s.at_ s' ks, true) s') := by
 unfold wordIn at hr
 rw [if_neg (by decide), if_pos rfl] at hr
 obtain ⟨⟨t, z2⟩, ht1, ht2⟩ := Option.bind_eq_some_iff.1 hr
 simp only at ht2
 replace ht1 := Hd ht1
 replace ht2 := Hd ht2
 clear hr
 obtain ⟨rfl, rfl⟩ := Prod.mk.inj (Option.some.inj ht2.out)
 clear ht2
 have G := G2.good
 have C := Hd (((Cx.start h).alloc (drO rb) (a := w.heap.size) rfl).alloc nzO (a := w.heap.size + 1) (by simp))
 have hlt := h.lt
 have hlo := h.lo
 have hlen := h.len
 have g2 : IntKind.i64.wrap (s.at_ + 1) = s.at_ + 1 := IntWalk.i64_in _ (by omega)
 obtain ⟨z0, zf⟩ := dr_cell (C.out.var (i := 1) rfl)
 try clear c0 c1 c2 c3 cf
 obtain ⟨p4, he4, c0, c1, c2, c3, cf⟩ := C.out.ps.cells
 clear he4
 replace C := Hd (C.out.lit [] (o := .cells #[] 50 (0,0)) (by simp) (by simp) rfl (a := w.heap.size + 1 + 1) (by simp) (n := 0) rfl)
 obtain ⟨y0, yf⟩ := dr_cell (C.out.var (i := 1) rfl)
 obtain ⟨p5, he5, d0, d1, d2, d3, df⟩ := C.out.ps.cells
 clear he5
 replace C := Hd (C.out.up (n := 1) (by omega) hin)
 obtain ⟨x0, xf⟩ := dr_cell (C.out.var (i := 1) rfl)
 clear hlo hlen hlt
 go_enter Tryz.func128, Tryz.ntmps128
 go_upto_region 4 with fail
 clear z0 zf y0 yf x0 xf c0 c1 c2 c3 cf d0 d1 d2 d3 df
 obtain ⟨z0, zf⟩ := dr_cell (C.out.var (i := 1) rfl)
 go_wp2_with fail
 refine (rNeed_any C.out.ps (⟨#[58]⟩ : ByteArray)).mono ?_
 rintro e w3 ⟨rfl, h3, k3⟩
 replace C := Hd (C.out.call h3 k3)
 clear z0 zf
 obtain ⟨z0, zf⟩ := dr_cell (C.out.var (i := 1) rfl)
 go_wp2_with fail
 refine (G2.stmt C.out.ps hn ht1.out).mono ?_
 rintro e w4 ⟨ao4, cap4, rfl, hn4, h4, k4⟩
 replace C := Hd (C.out.ret hn4 h4 k4)
 unfold ndV
 go_wp2_with (refine wpList_snoc C.out (.head _) (by simp) rfl rfl rfl rfl rfl ?_; intro m5 ao5 cap5 w5 hm5 C5; clear z0 zf; obtain ⟨z0, zf⟩ := dr_cell (C5.var (i := 1) rfl))
 replace C := Hd C5
 clear C5
 clear z0 zf
 obtain ⟨z0, zf⟩ := dr_cell (C.out.var (i := 1) rfl)
 go_wp2_with fail
 refine (rMake_any C.out.ps (⟨#[100,101,102,97,117,108,116]⟩ : ByteArray) ⟨#[]⟩ s.at_ _ _ _).mono ?_
 rintro e w40 ⟨rfl, hb40⟩
 replace C := Hd (C.out.made hb40 (by simp) (⟨#[100,101,102,97,117,108,116]⟩ : ByteArray) ⟨#[]⟩ s.at_)
 obtain rfl := hm5.out
 have hcc := C.out.var (i := 0) rfl
 go_wp2_with (refine stN rfl rfl rfl rfl hcc rfl rfl (by simp [Value.oneCell']) ?_)
 refine retT rfl rfl rfl (setRow_heap _ _ _ _ _ _ hcc) rfl ?_
 exact ⟨_, _, rfl, (C.out.set (i := 0) rfl rfl _).out (.head _)⟩
theorem word_do {L : List Ct} {ta : Option Addr} {tc rb : Nat} {R : Rec} (G2 : Good2 L ta tc rb R) {w : World} {s : Ps} {nest : Nat} {ks : List T} {s' : Ps} (h : PS L ta tc rb s w) (hn : nest ≤ 1000) (hin : s.at_ + 1 ≤ L.length) (hr : wordIn L R nest (⟨#[100,111]⟩ : ByteArray) (s.up 1) = some (ks, s')) :
 Calls Tryz.prog 128 #[drV rb, .int .i64 nest, .string (⟨#[100,111]⟩ : ByteArray)] w (NdRetB L ta tc rb w (mkP (⟨#[100,111]⟩ : ByteArray) eB s.at_ s' ks, true) s') := by
 unfold wordIn at hr
 rw [if_neg (by decide), if_neg (by decide), if_neg (by decide), if_neg (by decide), if_pos rfl] at hr
 obtain ⟨⟨t, z1⟩, ht1, ht2⟩ := Option.bind_eq_some_iff.1 hr
 simp only at ht2
 replace ht1 := Hd ht1
 replace ht2 := Hd ht2
 clear hr
 have hr := ht2.out
 clear ht2
 obtain ⟨⟨c, z2⟩, hc1, hc2⟩ := Option.bind_eq_some_iff.1 hr
 simp only at hc2
 replace hc1 := Hd hc1
 replace hc2 := Hd hc2
 clear hr
 obtain ⟨rfl, rfl⟩ := Prod.mk.inj (Option.some.inj hc2.out)
 clear hc2
 have G := G2.good
 have C := Hd (((Cx.start h).alloc (drO rb) (a := w.heap.size) rfl).alloc nzO (a := w.heap.size + 1) (by simp))
 have hlt := h.lt
 have hlo := h.lo
 have hlen := h.len
 have g2 : IntKind.i64.wrap (s.at_ + 1) = s.at_ + 1 := IntWalk.i64_in _ (by omega)
 obtain ⟨z0, zf⟩ := dr_cell (C.out.var (i := 1) rfl)
 try clear c0 c1 c2 c3 cf
 obtain ⟨p4, he4, c0, c1, c2, c3, cf⟩ := C.out.ps.cells
 clear he4
 replace C := Hd (C.out.lit [] (o := .cells #[] 50 (0,0)) (by simp) (by simp) rfl (a := w.heap.size + 1 + 1) (by simp) (n := 0) rfl)
 obtain ⟨y0, yf⟩ := dr_cell (C.out.var (i := 1) rfl)
 obtain ⟨p5, he5, d0, d1, d2, d3, df⟩ := C.out.ps.cells
 clear he5
 replace C := Hd (C.out.up (n := 1) (by omega) hin)
 obtain ⟨x0, xf⟩ := dr_cell (C.out.var (i := 1) rfl)
 clear hlo hlen hlt
 go_enter Tryz.func128, Tryz.ntmps128
 go_upto_region 4 with fail
 clear z0 zf y0 yf x0 xf c0 c1 c2 c3 cf d0 d1 d2 d3 df
 obtain ⟨z0, zf⟩ := dr_cell (C.out.var (i := 1) rfl)
 go_wp2_with fail
 refine (G2.stmt C.out.ps hn ht1.out).mono ?_
 rintro e w1 ⟨ao1, cap1, rfl, hn1, h1, k1⟩
 replace C := Hd (C.out.ret hn1 h1 k1)
 unfold ndV
 go_wp2_with (refine wpList_snoc C.out (.head _) (by simp) rfl rfl rfl rfl rfl ?_; intro m2 ao2 cap2 w2 hm2 C2; clear z0 zf; obtain ⟨z0, zf⟩ := dr_cell (C2.var (i := 1) rfl))
 replace C := Hd C2
 clear C2
 clear z0 zf
 obtain ⟨z0, zf⟩ := dr_cell (C.out.var (i := 1) rfl)
 have hc1 := hc1.out
 cases pw : hasW L z1 (⟨#[119,104,105,108,101]⟩ : ByteArray) with
 | true =>
   rw [pw, if_pos rfl] at hc1
   replace hc1 := Hd hc1
   have HH := Hd (rHasWord_any C.out.ps (⟨#[119,104,105,108,101]⟩ : ByteArray))
   rw [pw, if_pos rfl] at HH
   go_wp2_with fail
   refine (HH.out).mono ?_
   rintro e w3 ⟨rfl, h3, k3⟩
   replace C := Hd (C.out.call h3 k3)
   clear HH
   clear z0 zf
   obtain ⟨z0, zf⟩ := dr_cell (C.out.var (i := 1) rfl)
   go_wp2_with fail
   refine (inPar_any G C.out.ps hn hc1.out).mono ?_
   rintro e w4 ⟨ao4, cap4, rfl, hn4, h4, k4⟩
   replace C := Hd (C.out.ret hn4 h4 k4)
   unfold ndV
   go_wp2_with (refine wpList_snoc C.out (.head _) (by simp) rfl rfl rfl rfl rfl ?_; intro m5 ao5 cap5 w5 hm5 C5; clear z0 zf; obtain ⟨z0, zf⟩ := dr_cell (C5.var (i := 1) rfl))
   replace C := Hd C5
   clear C5
   clear z0 zf
   obtain ⟨z0, zf⟩ := dr_cell (C.out.var (i := 1) rfl)
   go_wp2_with fail
   refine (rNeed_any C.out.ps (⟨#[59]⟩ : ByteArray)).mono ?_
   rintro e w6 ⟨rfl, h6, k6⟩
   replace C := Hd (C.out.call h6 k6)
   clear z0 zf
   obtain ⟨z0, zf⟩ := dr_cell (C.out.var (i := 1) rfl)
   go_wp2_with fail
   refine (rMake_any C.out.ps (⟨#[100,111]⟩ : ByteArray) ⟨#[]⟩ s.at_ _ _ _).mono ?_
   rintro e w40 ⟨rfl, hb40⟩
   replace C := Hd (C.out.made hb40 (by simp) (⟨#[100,111]⟩ : ByteArray) ⟨#[]⟩ s.at_)
   obtain rfl := hm5.out
   have hcc := C.out.var (i := 0) rfl
   go_wp2_with (refine stN rfl rfl rfl rfl hcc rfl rfl (by simp [Value.oneCell']) ?_)
   refine retT rfl rfl rfl (setRow_heap _ _ _ _ _ _ hcc) rfl ?_
   exact ⟨_, _, rfl, (C.out.set (i := 0) rfl rfl _).out (.head _)⟩
 | false =>
   rw [pw, if_neg (by simp)] at hc1
   replace hc1 := Hd hc1
   have HH := Hd (rHasWord_any C.out.ps (⟨#[119,104,105,108,101]⟩ : ByteArray))
   rw [pw, if_neg (by simp)] at HH
   go_wp2_with fail
   refine (HH.out).mono ?_
   rintro e w3 ⟨rfl, h3, k3⟩
   replace C := Hd (C.out.call h3 k3)
   clear HH
   clear z0 zf
   obtain ⟨z0, zf⟩ := dr_cell (C.out.var (i := 1) rfl)
   go_wp2_with fail
   refine (rFail_any C.out.ps).mono ?_
   rintro e w7 ⟨rfl, h7, k7⟩
   replace C := Hd (C.out.call h7 k7)
   clear z0 zf
   obtain ⟨z0, zf⟩ := dr_cell (C.out.var (i := 1) rfl)
   go_wp2_with fail
   refine (inPar_any G C.out.ps hn hc1.out).mono ?_
   rintro e w4 ⟨ao4, cap4, rfl, hn4, h4, k4⟩
   replace C := Hd (C.out.ret hn4 h4 k4)
   unfold ndV
   go_wp2_with (refine wpList_snoc C.out (.head _) (by simp) rfl rfl rfl rfl rfl ?_; intro m5 ao5 cap5 w5 hm5 C5; clear z0 zf; obtain ⟨z0, zf⟩ := dr_cell (C5.var (i := 1) rfl))
   replace C := Hd C5
   clear C5
   clear z0 zf
   obtain ⟨z0, zf⟩ := dr_cell (C.out.var (i := 1) rfl)
   go_wp2_with fail
   refine (rNeed_any C.out.ps (⟨#[59]⟩ : ByteArray)).mono ?_
   rintro e w6 ⟨rfl, h6, k6⟩
   replace C := Hd (C.out.call h6 k6)
   clear z0 zf
   obtain ⟨z0, zf⟩ := dr_cell (C.out.var (i := 1) rfl)
   go_wp2_with fail
   refine (rMake_any C.out.ps (⟨#[100,111]⟩ : ByteArray) ⟨#[]⟩ s.at_ _ _ _).mono ?_
   rintro e w40 ⟨rfl, hb40⟩
   replace C := Hd (C.out.made hb40 (by simp) (⟨#[100,111]⟩ : ByteArray) ⟨#[]⟩ s.at_)
   obtain rfl := hm5.out
   have hcc := C.out.var (i := 0) rfl
   go_wp2_with (refine stN rfl rfl rfl rfl hcc rfl rfl (by simp [Value.oneCell']) ?_)
   refine retT rfl rfl rfl (setRow_heap _ _ _ _ _ _ hcc) rfl ?_
   exact ⟨_, _, rfl, (C.out.set (i := 0) rfl rfl _).out (.head _)⟩
theorem word_continue {L : List Ct} {ta : Option Addr} {tc rb : Nat} {R : Rec} (G2 : Good2 L ta tc rb R) {w : World} {s : Ps} {nest : Nat} {ks : List T} {s' : Ps} (h : PS L ta tc rb s w) (hn : nest ≤ 1000) (hin : s.at_ + 1 ≤ L.length) (hr : wordIn L R nest (⟨#[99,111,110,116,105,110,117,101]⟩ : ByteArray) (s.up 1) = some (ks, s')) :
 Calls Tryz.prog 128 #[drV rb, .int .i64 nest, .string (⟨#[99,111,110,116,105,110,117,101]⟩ : ByteArray)] w (NdRetB L ta tc rb w (mkP (⟨#[99,111,110,116,105,110,117,101]⟩ : ByteArray) eB s.at_ s' ks, true) s') := by
 unfold wordIn at hr
 rw [if_neg (by decide), if_neg (by decide), if_neg (by decide), if_neg (by decide), if_neg (by decide), if_neg (by decide), if_pos (by decide)] at hr
 obtain ⟨rfl, rfl⟩ := Prod.mk.inj (Option.some.inj hr)
 clear hr
 have G := G2.good
 have C := Hd (((Cx.start h).alloc (drO rb) (a := w.heap.size) rfl).alloc nzO (a := w.heap.size + 1) (by simp))
 have hlt := h.lt
 have hlo := h.lo
 have hlen := h.len
 have g2 : IntKind.i64.wrap (s.at_ + 1) = s.at_ + 1 := IntWalk.i64_in _ (by omega)
 obtain ⟨z0, zf⟩ := dr_cell (C.out.var (i := 1) rfl)
 try clear c0 c1 c2 c3 cf
 obtain ⟨p4, he4, c0, c1, c2, c3, cf⟩ := C.out.ps.cells
 clear he4
 replace C := Hd (C.out.lit [] (o := .cells #[] 50 (0,0)) (by simp) (by simp) rfl (a := w.heap.size + 1 + 1) (by simp) (n := 0) rfl)
 obtain ⟨y0, yf⟩ := dr_cell (C.out.var (i := 1) rfl)
 obtain ⟨p5, he5, d0, d1, d2, d3, df⟩ := C.out.ps.cells
 clear he5
 replace C := Hd (C.out.up (n := 1) (by omega) hin)
 obtain ⟨x0, xf⟩ := dr_cell (C.out.var (i := 1) rfl)
 clear hlo hlen hlt
 go_enter Tryz.func128, Tryz.ntmps128
 go_upto_region 4 with fail
 clear z0 zf y0 yf x0 xf c0 c1 c2 c3 cf d0 d1 d2 d3 df
 obtain ⟨z0, zf⟩ := dr_cell (C.out.var (i := 1) rfl)
 go_wp2_with fail
 refine (rNeed_any C.out.ps (⟨#[59]⟩ : ByteArray)).mono ?_
 rintro e w6 ⟨rfl, h6, k6⟩
 replace C := Hd (C.out.call h6 k6)
 clear z0 zf
 obtain ⟨z0, zf⟩ := dr_cell (C.out.var (i := 1) rfl)
 go_wp2_with fail
 refine (rMake_any C.out.ps (⟨#[99,111,110,116,105,110,117,101]⟩ : ByteArray) ⟨#[]⟩ s.at_ _ _ _).mono ?_
 rintro e w40 ⟨rfl, hb40⟩
 replace C := Hd (C.out.made hb40 (by simp) (⟨#[99,111,110,116,105,110,117,101]⟩ : ByteArray) ⟨#[]⟩ s.at_)
 skip
 have hcc := C.out.var (i := 0) rfl
 go_wp2_with (refine stN rfl rfl rfl rfl hcc rfl rfl (by simp [Value.oneCell']) ?_)
 refine retT rfl rfl rfl (setRow_heap _ _ _ _ _ _ hcc) rfl ?_
 exact ⟨_, _, rfl, (C.out.set (i := 0) rfl rfl _).out (.head _)⟩
theorem word_break {L : List Ct} {ta : Option Addr} {tc rb : Nat} {R : Rec} (G2 : Good2 L ta tc rb R) {w : World} {s : Ps} {nest : Nat} {ks : List T} {s' : Ps} (h : PS L ta tc rb s w) (hn : nest ≤ 1000) (hin : s.at_ + 1 ≤ L.length) (hr : wordIn L R nest (⟨#[98,114,101,97,107]⟩ : ByteArray) (s.up 1) = some (ks, s')) :
 Calls Tryz.prog 128 #[drV rb, .int .i64 nest, .string (⟨#[98,114,101,97,107]⟩ : ByteArray)] w (NdRetB L ta tc rb w (mkP (⟨#[98,114,101,97,107]⟩ : ByteArray) eB s.at_ s' ks, true) s') := by
 unfold wordIn at hr
 rw [if_neg (by decide), if_neg (by decide), if_neg (by decide), if_neg (by decide), if_neg (by decide), if_neg (by decide), if_pos (by decide)] at hr
 obtain ⟨rfl, rfl⟩ := Prod.mk.inj (Option.some.inj hr)
 clear hr
 have G := G2.good
 have C := Hd (((Cx.start h).alloc (drO rb) (a := w.heap.size) rfl).alloc nzO (a := w.heap.size + 1) (by simp))
 have hlt := h.lt
 have hlo := h.lo
 have hlen := h.len
 have g2 : IntKind.i64.wrap (s.at_ + 1) = s.at_ + 1 := IntWalk.i64_in _ (by omega)
 obtain ⟨z0, zf⟩ := dr_cell (C.out.var (i := 1) rfl)
 try clear c0 c1 c2 c3 cf
 obtain ⟨p4, he4, c0, c1, c2, c3, cf⟩ := C.out.ps.cells
 clear he4
 replace C := Hd (C.out.lit [] (o := .cells #[] 50 (0,0)) (by simp) (by simp) rfl (a := w.heap.size + 1 + 1) (by simp) (n := 0) rfl)
 obtain ⟨y0, yf⟩ := dr_cell (C.out.var (i := 1) rfl)
 obtain ⟨p5, he5, d0, d1, d2, d3, df⟩ := C.out.ps.cells
 clear he5
 replace C := Hd (C.out.up (n := 1) (by omega) hin)
 obtain ⟨x0, xf⟩ := dr_cell (C.out.var (i := 1) rfl)
 clear hlo hlen hlt
 go_enter Tryz.func128, Tryz.ntmps128
 go_upto_region 4 with fail
 clear z0 zf y0 yf x0 xf c0 c1 c2 c3 cf d0 d1 d2 d3 df
 obtain ⟨z0, zf⟩ := dr_cell (C.out.var (i := 1) rfl)
 go_wp2_with fail
 refine (rNeed_any C.out.ps (⟨#[59]⟩ : ByteArray)).mono ?_
 rintro e w6 ⟨rfl, h6, k6⟩
 replace C := Hd (C.out.call h6 k6)
 clear z0 zf
 obtain ⟨z0, zf⟩ := dr_cell (C.out.var (i := 1) rfl)
 go_wp2_with fail
 refine (rMake_any C.out.ps (⟨#[98,114,101,97,107]⟩ : ByteArray) ⟨#[]⟩ s.at_ _ _ _).mono ?_
 rintro e w40 ⟨rfl, hb40⟩
 replace C := Hd (C.out.made hb40 (by simp) (⟨#[98,114,101,97,107]⟩ : ByteArray) ⟨#[]⟩ s.at_)
 skip
 have hcc := C.out.var (i := 0) rfl
 go_wp2_with (refine stN rfl rfl rfl rfl hcc rfl rfl (by simp [Value.oneCell']) ?_)
 refine retT rfl rfl rfl (setRow_heap _ _ _ _ _ _ hcc) rfl ?_
 exact ⟨_, _, rfl, (C.out.set (i := 0) rfl rfl _).out (.head _)⟩
theorem word_return {L : List Ct} {ta : Option Addr} {tc rb : Nat} {R : Rec} (G2 : Good2 L ta tc rb R) {w : World} {s : Ps} {nest : Nat} {ks : List T} {s' : Ps} (h : PS L ta tc rb s w) (hn : nest ≤ 1000) (hin : s.at_ + 1 ≤ L.length) (hr : wordIn L R nest (⟨#[114,101,116,117,114,110]⟩ : ByteArray) (s.up 1) = some (ks, s')) :
 Calls Tryz.prog 128 #[drV rb, .int .i64 nest, .string (⟨#[114,101,116,117,114,110]⟩ : ByteArray)] w (NdRetB L ta tc rb w (mkP (⟨#[114,101,116,117,114,110]⟩ : ByteArray) eB s.at_ s' ks, true) s') := by
 unfold wordIn at hr
 rw [if_neg (by decide), if_neg (by decide), if_neg (by decide), if_neg (by decide), if_neg (by decide), if_neg (by decide), if_neg (by decide)] at hr
 cases p1 : isP L (s.up 1) (⟨#[59]⟩ : ByteArray) with
 | true =>
   rw [p1, if_pos rfl] at hr
   obtain ⟨rfl, rfl⟩ := Prod.mk.inj (Option.some.inj hr)
   clear hr
   have G := G2.good
   have C := Hd (((Cx.start h).alloc (drO rb) (a := w.heap.size) rfl).alloc nzO (a := w.heap.size + 1) (by simp))
   have hlt := h.lt
   have hlo := h.lo
   have hlen := h.len
   have g2 : IntKind.i64.wrap (s.at_ + 1) = s.at_ + 1 := IntWalk.i64_in _ (by omega)
   obtain ⟨z0, zf⟩ := dr_cell (C.out.var (i := 1) rfl)
   try clear c0 c1 c2 c3 cf
   obtain ⟨p4, he4, c0, c1, c2, c3, cf⟩ := C.out.ps.cells
   clear he4
   replace C := Hd (C.out.lit [] (o := .cells #[] 50 (0,0)) (by simp) (by simp) rfl (a := w.heap.size + 1 + 1) (by simp) (n := 0) rfl)
   obtain ⟨y0, yf⟩ := dr_cell (C.out.var (i := 1) rfl)
   obtain ⟨p5, he5, d0, d1, d2, d3, df⟩ := C.out.ps.cells
   clear he5
   replace C := Hd (C.out.up (n := 1) (by omega) hin)
   obtain ⟨x0, xf⟩ := dr_cell (C.out.var (i := 1) rfl)
   clear hlo hlen hlt
   go_enter Tryz.func128, Tryz.ntmps128
   go_upto_region 4 with fail
   clear z0 zf y0 yf x0 xf c0 c1 c2 c3 cf d0 d1 d2 d3 df
   obtain ⟨z0, zf⟩ := dr_cell (C.out.var (i := 1) rfl)
   have HI := Hd (rIs_any C.out.ps (⟨#[59]⟩ : ByteArray))
   rw [p1] at HI
   go_wp2_with fail
   refine (HI.out).mono ?_
   rintro e w3 ⟨rfl, hb3⟩
   replace C := Hd (C.out.below hb3)
   clear z0 zf
   obtain ⟨z0, zf⟩ := dr_cell (C.out.var (i := 1) rfl)
   go_wp2_with fail
   refine (rNeed_any C.out.ps (⟨#[59]⟩ : ByteArray)).mono ?_
   rintro e w6 ⟨rfl, h6, k6⟩
   replace C := Hd (C.out.call h6 k6)
   clear z0 zf
   obtain ⟨z0, zf⟩ := dr_cell (C.out.var (i := 1) rfl)
   go_wp2_with fail
   refine (rMake_any C.out.ps (⟨#[114,101,116,117,114,110]⟩ : ByteArray) ⟨#[]⟩ s.at_ _ _ _).mono ?_
   rintro e w40 ⟨rfl, hb40⟩
   replace C := Hd (C.out.made hb40 (by simp) (⟨#[114,101,116,117,114,110]⟩ : ByteArray) ⟨#[]⟩ s.at_)
   skip
   have hcc := C.out.var (i := 0) rfl
   go_wp2_with (refine stN rfl rfl rfl rfl hcc rfl rfl (by simp [Value.oneCell']) ?_)
   refine retT rfl rfl rfl (setRow_heap _ _ _ _ _ _ hcc) rfl ?_
   exact ⟨_, _, rfl, (C.out.set (i := 0) rfl rfl _).out (.head _)⟩
 | false =>
   rw [p1, if_neg (by simp)] at hr
   obtain ⟨⟨t, z1⟩, ht1, ht2⟩ := Option.bind_eq_some_iff.1 hr
   simp only at ht2
   replace ht1 := Hd ht1
   replace ht2 := Hd ht2
   clear hr
   obtain ⟨rfl, rfl⟩ := Prod.mk.inj (Option.some.inj ht2.out)
   clear ht2
   have G := G2.good
   have C := Hd (((Cx.start h).alloc (drO rb) (a := w.heap.size) rfl).alloc nzO (a := w.heap.size + 1) (by simp))
   have hlt := h.lt
   have hlo := h.lo
   have hlen := h.len
   have g2 : IntKind.i64.wrap (s.at_ + 1) = s.at_ + 1 := IntWalk.i64_in _ (by omega)
   obtain ⟨z0, zf⟩ := dr_cell (C.out.var (i := 1) rfl)
   try clear c0 c1 c2 c3 cf
   obtain ⟨p4, he4, c0, c1, c2, c3, cf⟩ := C.out.ps.cells
   clear he4
   replace C := Hd (C.out.lit [] (o := .cells #[] 50 (0,0)) (by simp) (by simp) rfl (a := w.heap.size + 1 + 1) (by simp) (n := 0) rfl)
   obtain ⟨y0, yf⟩ := dr_cell (C.out.var (i := 1) rfl)
   obtain ⟨p5, he5, d0, d1, d2, d3, df⟩ := C.out.ps.cells
   clear he5
   replace C := Hd (C.out.up (n := 1) (by omega) hin)
   obtain ⟨x0, xf⟩ := dr_cell (C.out.var (i := 1) rfl)
   clear hlo hlen hlt
   go_enter Tryz.func128, Tryz.ntmps128
   go_upto_region 4 with fail
   clear z0 zf y0 yf x0 xf c0 c1 c2 c3 cf d0 d1 d2 d3 df
   obtain ⟨z0, zf⟩ := dr_cell (C.out.var (i := 1) rfl)
   have HI := Hd (rIs_any C.out.ps (⟨#[59]⟩ : ByteArray))
   rw [p1] at HI
   go_wp2_with fail
   refine (HI.out).mono ?_
   rintro e w3 ⟨rfl, hb3⟩
   replace C := Hd (C.out.below hb3)
   clear z0 zf
   obtain ⟨z0, zf⟩ := dr_cell (C.out.var (i := 1) rfl)
   go_wp2_with fail
   refine (G.expr C.out.ps hn ht1.out).mono ?_
   rintro e w4 ⟨ao4, cap4, rfl, hn4, h4, k4⟩
   replace C := Hd (C.out.ret hn4 h4 k4)
   unfold ndV
   go_wp2_with (refine wpList_snoc C.out (.head _) (by simp) rfl rfl rfl rfl rfl ?_; intro m5 ao5 cap5 w5 hm5 C5; clear z0 zf; obtain ⟨z0, zf⟩ := dr_cell (C5.var (i := 1) rfl))
   replace C := Hd C5
   clear C5
   clear z0 zf
   obtain ⟨z0, zf⟩ := dr_cell (C.out.var (i := 1) rfl)
   go_wp2_with fail
   refine (rNeed_any C.out.ps (⟨#[59]⟩ : ByteArray)).mono ?_
   rintro e w6 ⟨rfl, h6, k6⟩
   replace C := Hd (C.out.call h6 k6)
   clear z0 zf
   obtain ⟨z0, zf⟩ := dr_cell (C.out.var (i := 1) rfl)
   go_wp2_with fail
   refine (rMake_any C.out.ps (⟨#[114,101,116,117,114,110]⟩ : ByteArray) ⟨#[]⟩ s.at_ _ _ _).mono ?_
   rintro e w40 ⟨rfl, hb40⟩
   replace C := Hd (C.out.made hb40 (by simp) (⟨#[114,101,116,117,114,110]⟩ : ByteArray) ⟨#[]⟩ s.at_)
   obtain rfl := hm5.out
   have hcc := C.out.var (i := 0) rfl
   go_wp2_with (refine stN rfl rfl rfl rfl hcc rfl rfl (by simp [Value.oneCell']) ?_)
   refine retT rfl rfl rfl (setRow_heap _ _ _ _ _ _ hcc) rfl ?_
   exact ⟨_, _, rfl, (C.out.set (i := 0) rfl rfl _).out (.head _)⟩
theorem word_goto {L : List Ct} {ta : Option Addr} {tc rb : Nat} {R : Rec} (G2 : Good2 L ta tc rb R) {w : World} {s : Ps} {nest : Nat} (h : PS L ta tc rb s w) (hn : nest ≤ 1000) (hin : s.at_ + 1 ≤ L.length) :
 Calls Tryz.prog 128 #[drV rb, .int .i64 nest, .string (⟨#[103,111,116,111]⟩ : ByteArray)] w (NdRetB L ta tc rb w (mkP (⟨#[103,111,116,111]⟩ : ByteArray) (identP L (s.up 1) eB).1.text s.at_ (needP L (identP L (s.up 1) eB).2 (⟨#[59]⟩ : ByteArray)) [], true) (needP L (identP L (s.up 1) eB).2 (⟨#[59]⟩ : ByteArray))) := by
 obtain ⟨x, hx⟩ : ∃ x, x = (identP L (s.up 1) eB).1 := ⟨_, rfl⟩
 obtain ⟨z2, hz2⟩ : ∃ z2, z2 = (identP L (s.up 1) eB).2 := ⟨_, rfl⟩
 rw [← hx, ← hz2]
 have G := G2.good
 have C := Hd (((Cx.start h).alloc (drO rb) (a := w.heap.size) rfl).alloc nzO (a := w.heap.size + 1) (by simp))
 have hlt := h.lt
 have hlo := h.lo
 have hlen := h.len
 have g2 : IntKind.i64.wrap (s.at_ + 1) = s.at_ + 1 := IntWalk.i64_in _ (by omega)
 obtain ⟨z0, zf⟩ := dr_cell (C.out.var (i := 1) rfl)
 try clear c0 c1 c2 c3 cf
 obtain ⟨p4, he4, c0, c1, c2, c3, cf⟩ := C.out.ps.cells
 clear he4
 replace C := Hd (C.out.lit [] (o := .cells #[] 50 (0,0)) (by simp) (by simp) rfl (a := w.heap.size + 1 + 1) (by simp) (n := 0) rfl)
 obtain ⟨y0, yf⟩ := dr_cell (C.out.var (i := 1) rfl)
 obtain ⟨p5, he5, d0, d1, d2, d3, df⟩ := C.out.ps.cells
 clear he5
 replace C := Hd (C.out.up (n := 1) (by omega) hin)
 obtain ⟨x0, xf⟩ := dr_cell (C.out.var (i := 1) rfl)
 clear hlo hlen hlt
 go_enter Tryz.func128, Tryz.ntmps128
 go_upto_region 4 with fail
 clear z0 zf y0 yf x0 xf c0 c1 c2 c3 cf d0 d1 d2 d3 df
 obtain ⟨z0, zf⟩ := dr_cell (C.out.var (i := 1) rfl)
 have HI := Hd (rIdent_any C.out.ps eB)
 rw [← hx, ← hz2] at HI
 replace hx := Hd hx
 replace hz2 := Hd hz2
 unfold lfV at HI
 go_wp2_with fail
 refine (HI.out).mono ?_
 rintro e w20 ⟨rfl, h20, k20⟩
 replace C := Hd (C.out.call h20 k20)
 clear HI
 replace C := Hd (C.out.fresh.alloc (lfO x) (a := w20.heap.size) rfl)
 clear z0 zf
 obtain ⟨z0, zf⟩ := dr_cell (C.out.var (i := 2) rfl)
 go_wp2_with fail
 refine (rNeed_any C.out.ps (⟨#[59]⟩ : ByteArray)).mono ?_
 rintro e w6 ⟨rfl, h6, k6⟩
 replace C := Hd (C.out.call h6 k6)
 clear z0 zf
 obtain ⟨z0, zf⟩ := dr_cell (C.out.var (i := 2) rfl)
 obtain ⟨b0, b1, b2, b3, b4, bf⟩ := nd_cells (C.out.var (i := 0) rfl)
 go_wp2_with fail
 refine (rMake_any C.out.ps (⟨#[103,111,116,111]⟩ : ByteArray) x.text s.at_ _ _ _).mono ?_
 rintro e w40 ⟨rfl, hb40⟩
 replace C := Hd ((C.out.below hb40).leaf (⟨#[103,111,116,111]⟩ : ByteArray) x.text s.at_ (needP L z2 (⟨#[59]⟩ : ByteArray)).at_)
 have hcc := C.out.var (i := 1) rfl
 go_wp2_with (refine stN rfl rfl rfl rfl hcc rfl rfl (by simp [Value.oneCell']) ?_)
 refine retT rfl rfl rfl (setRow_heap _ _ _ _ _ _ hcc) rfl ?_
 exact ⟨_, _, rfl, (C.out.set (i := 1) rfl rfl _).out (.head _)⟩
end Go.Proofs.YtllbbacnakoomaaGreatDoor
