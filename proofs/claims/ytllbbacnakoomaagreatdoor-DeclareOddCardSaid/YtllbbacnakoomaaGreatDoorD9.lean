/- Texts of this seat's proofs, laid into one file. -/
import Derived.Test.YtllbbacnakoomaaGreatDoorD11
import Derived.Test.YtllbbacnakoomaaGreatDoorD5
import Derived.Test.YtllbbacnakoomaaGreatDoorD4
import Derived.Test.YtllbbacnakoomaaGreatDoorD8
import Derived.Test.YtllbbacnakoomaaGreatDoorD7
set_option maxRecDepth 100000
set_option maxHeartbeats 16000000
namespace Go.Proofs.YtllbbacnakoomaaGreatDoor
open Go.RowKit
set_option linter.unusedVariables false
theorem word_for {L : List Ct} {ta : Option Addr} {tc rb : Nat} {R : Rec} (G2 : Good2 L ta tc rb R) {w : World} {s : Ps} {nest : Nat} {ks : List T} {s' : Ps} (h : PS L ta tc rb s w) (hn : nest ≤ 1000) (hin : s.at_ + 1 ≤ L.length) (hr : wordIn L R nest (⟨#[102,111,114]⟩ : ByteArray) (s.up 1) = some (ks, s')) :
 Calls Tryz.prog 128 #[drV rb, .int .i64 nest, .string (⟨#[102,111,114]⟩ : ByteArray)] w (NdRetB L ta tc rb w (mkP (⟨#[102,111,114]⟩ : ByteArray) eB s.at_ s' ks, true) s') := by
 unfold wordIn at hr
 rw [if_neg (by decide), if_neg (by decide), if_neg (by decide), if_neg (by decide), if_neg (by decide), if_pos rfl] at hr
 replace hr := Hd hr
 have G := G2.good
 have C := Hd (((Cx.start h).alloc (drO rb) (a := w.heap.size) rfl).alloc nzO (a := w.heap.size + 1) (by simp))
 have hlt := h.lt
 have hlo := h.lo
 have hlen := h.len
 have g2 : IntKind.i64.wrap (s.at_ + 1) = s.at_ + 1 := IntWalk.i64_in _ (by omega)
 obtain ⟨z0, zf⟩ := dr_cell (C.out.var (i := 1) rfl)
 try clear c0 c1 c2 c3 cf
 obtain ⟨p4, he4, c0, c1, c2, c3, cf⟩ := C.out.ps.cells
 clear he4
 replace C := Hd (C.out.lit [] (o := .cells #[] 50 (0,0)) (by simp) (by simp) rfl (a := w.heap.size + 1 + 1) (by simp) (n := 0) rfl)
 obtain ⟨y0, yf⟩ := dr_cell (C.out.var (i := 1) rfl)
 obtain ⟨p5, he5, d0, d1, d2, d3, df⟩ := C.out.ps.cells
 clear he5
 replace C := Hd (C.out.up (n := 1) (by omega) hin)
 obtain ⟨x0, xf⟩ := dr_cell (C.out.var (i := 1) rfl)
 clear hlo hlen hlt
 go_enter Tryz.func128, Tryz.ntmps128
 go_upto_region 4 with fail
 clear z0 zf y0 yf x0 xf c0 c1 c2 c3 cf d0 d1 d2 d3 df
 obtain ⟨z0, zf⟩ := dr_cell (C.out.var (i := 1) rfl)
 go_wp2_with fail
 refine (loop_any G2 C.out.ps hn hr.out).mono ?_
 rintro e w27 ⟨m7, ao7, cap7, rfl, hm7, hm8, h7, g7, r7, o7⟩
 have C2 := Hd (C.out.fresh.retR h7 g7 ⟨⟨r7.own.choose, r7.own.choose_spec.1, r7.own.choose_spec.2.wide fun k hk _ => ⟨hk.1.elim (fun h => h.elim) .inr, hk.2⟩⟩, ⟨fun h => by
  rcases h.1 with h | h
  ·exact C.out.fresh.nrb h
  ·have := C.out.ps.lt; omega, r7.nrb.2⟩, fun k hk => hk.2⟩ o7.out)
 have Cy := C
 clear Cy C
 have C := C2
 clear C2 g7 r7 o7
 clear z0 zf
 obtain ⟨z0, zf⟩ := dr_cell (C.out.var (i := 1) rfl)
 go_wp2_with fail
 refine (rMake_any C.out.ps (⟨#[102,111,114]⟩ : ByteArray) ⟨#[]⟩ s.at_ _ _ _).mono ?_
 rintro e w40 ⟨rfl, hb40⟩
 replace C := Hd (C.out.made hb40 (by have := hm7.out; have := hm8.out; omega) (⟨#[102,111,114]⟩ : ByteArray) ⟨#[]⟩ s.at_)
 obtain rfl := hm7.out
 have hcc := C.out.var (i := 0) rfl
 go_wp2_with (refine stN rfl rfl rfl rfl hcc rfl rfl (by simp [Value.oneCell']) ?_)
 refine retT rfl rfl rfl (setRow_heap _ _ _ _ _ _ hcc) rfl ?_
 exact ⟨_, _, rfl, (C.out.set (i := 0) rfl rfl _).out (.head _)⟩
theorem word_any {L : List Ct} {ta : Option Addr} {tc rb : Nat} {R : Rec} (G2 : Good2 L ta tc rb R) {w : World} {s : Ps} {nest : Nat} {x : ByteArray} {n : T × Bool} {s' : Ps} (h : PS L ta tc rb s w) (hn : nest ≤ 1000) (hin : s.at_ + 1 ≤ L.length) (hr : wordF L R nest x s = some (n, s')) :
 Calls Tryz.prog 128 #[drV rb, .int .i64 nest, .string x] w (NdRetB L ta tc rb w n s') := by
 unfold wordF at hr
 by_cases hg : x = (⟨#[103,111,116,111]⟩ : ByteArray)
 ·subst hg
  rw [if_pos rfl] at hr
  obtain ⟨rfl, rfl⟩ := Prod.mk.inj (Option.some.inj hr)
  exact word_goto G2 h hn hin
 rw [if_neg hg] at hr
 cases hw : stmtWords.any fun y => decide (y = x) with
 | false =>
   rw [hw, if_neg (by simp)] at hr
   obtain ⟨rfl, rfl⟩ := Prod.mk.inj (Option.some.inj hr)
   exact word_none G2 h hn hin hg hw
 | true =>
   rw [hw, if_pos rfl] at hr
   obtain ⟨⟨ks, z⟩, hr1, hr2⟩ := Option.bind_eq_some_iff.1 hr
   obtain ⟨rfl, rfl⟩ := Prod.mk.inj (Option.some.inj hr2)
   obtain ⟨y, hy, e⟩ := List.any_eq_true.1 hw
   have e : y = x := of_decide_eq_true e
   subst e
   simp only [stmtWords, List.mem_cons, List.not_mem_nil, or_false] at hy
   rcases hy with rfl | rfl | rfl | rfl | rfl | rfl | rfl | rfl | rfl | rfl
   ·exact word_case G2 h hn hin hr1
   ·exact word_default G2 h hn hin hr1
   ·exact word_if G2 h hn hin hr1
   ·exact word_switch G2 h hn hin hr1
   ·exact word_while G2 h hn hin hr1
   ·exact word_do G2 h hn hin hr1
   ·exact word_for G2 h hn hin hr1
   ·exact word_continue G2 h hn hin hr1
   ·exact word_break G2 h hn hin hr1
   ·exact word_return G2 h hn hin hr1
end Go.Proofs.YtllbbacnakoomaaGreatDoor
