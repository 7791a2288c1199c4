/- Texts of this seat's proofs, laid into one file. -/
import Derived.Test.YtllbbacnakoomaaGreatDoorD6
import Derived.Test.YtllbbacnakoomaaGreatDoorD4
set_option maxRecDepth 100000
set_option maxHeartbeats 16000000
namespace Go.Proofs.YtllbbacnakoomaaGreatDoor
open Go.RowKit
set_option linter.unusedVariables false
theorem perhaps_any {L : List Ct} {ta : Option Addr} {tc rb : Nat} {R : Rec} (G : Good L ta tc rb R) {w : World} {s : Ps} {nest : Nat} {x : ByteArray} {n : T} {s' : Ps} (h : PS L ta tc rb s w) (hn : nest ≤ 1000) (hr : perhapsF L R nest x s = some (n, s')) :
 Calls Tryz.prog 194 #[drV rb, .int .i64 nest, .string x] w (NdRet L ta tc rb w n s') := by
 have C := Hd (((Cx.start h).alloc (drO rb) (a := w.heap.size) rfl).alloc nzO (a := w.heap.size + 1) (by simp))
 have hlt := h.lt
 unfold perhapsF at hr
 obtain ⟨w50, hw50⟩ : ∃ W, W = (w.alloc (drO rb)).alloc nzO := ⟨_, rfl⟩
 rw [← hw50] at C
 obtain ⟨z0, zf⟩ := dr_cell (C.out.var (i := 1) rfl)
 try clear c0 c1 c2 c3 cf
 obtain ⟨p4, he4, c0, c1, c2, c3, cf⟩ := C.out.ps.cells
 clear he4
 go_enter Tryz.func194, Tryz.ntmps194
 go_upto_region 1 with fail
 rw [← hw50]
 replace hw50 := Hd hw50
 go_still_tail 7, (by kernel_rfl)
 change wpList _ _ _ _ _ (w50).drew
 replace C := Hd C.out.drew
 generalize (w50).drew = w51 at C ⊢
 go_wp2_with fail
 refine (rMake_any C.out.ps (⟨#[110,111,110,101]⟩ : ByteArray) ⟨#[]⟩ s.at_ _ _ _).mono ?_
 rintro e w1 ⟨rfl, hb1⟩
 replace C := Hd ((C.out.below hb1).leaf (⟨#[110,111,110,101]⟩ : ByteArray) eB s.at_ s.at_)
 clear z0 zf c0 c1 c2 c3 cf
 have hcc := C.out.var (i := 0) rfl
 replace C := Hd (C.out.set (i := 0) rfl rfl #[.string (⟨#[110,111,110,101]⟩ : ByteArray), .string ⟨#[]⟩, .int .i64 s.at_, .int .i64 s.at_, .slice none 0 0])
 obtain ⟨z0, zf⟩ := dr_cell (C.out.var (i := 1) rfl)
 have HI := Hd (rIs_any C.out.ps x)
 cases p1 : isP L s x with
 | true =>
   rw [p1, if_pos rfl] at hr
   rw [p1] at HI
   obtain ⟨rfl, rfl⟩ := Prod.mk.inj (Option.some.inj hr)
   go_wp2_with (refine stN rfl rfl rfl rfl hcc rfl rfl (by simp [Value.oneCell']) ?_)
   refine HI.out.mono ?_
   rintro e w2 ⟨rfl, hb2⟩
   replace C := Hd (C.out.below hb2)
   clear z0 zf hcc
   obtain ⟨z0, zf⟩ := dr_cell (C.out.var (i := 1) rfl)
   go_wp2_with fail
   refine (rNeed_any C.out.ps x).mono ?_
   rintro e w3 ⟨rfl, h3, k3⟩
   replace C := Hd (C.out.call h3 k3)
   obtain ⟨q0, q1, q2, q3, q4, qf⟩ := nd_cells (C.out.var (i := 0) rfl)
   have hcc := C.out.var (i := 0) rfl
   go_wp2_with (refine stN rfl rfl rfl rfl hcc rfl rfl (by simp [Value.oneCell']) ?_)
   refine retN rfl rfl rfl (setRow_heap _ _ _ _ _ _ hcc) rfl ?_
   exact ⟨_, _, rfl, (C.out.set (i := 0) rfl rfl _).out (.head _)⟩
 | false =>
   rw [p1, if_neg (by simp)] at hr
   rw [p1] at HI
   obtain ⟨⟨b, z⟩, hb3, hb4⟩ := Option.bind_eq_some_iff.1 hr
   simp only at hb4
   replace hb3 := Hd hb3
   replace hb4 := Hd hb4
   clear hr
   obtain ⟨rfl, rfl⟩ := Prod.mk.inj (Option.some.inj hb4.out)
   clear hb4
   go_wp2_with (refine stN rfl rfl rfl rfl hcc rfl rfl (by simp [Value.oneCell']) ?_)
   refine HI.out.mono ?_
   rintro e w2 ⟨rfl, hb2⟩
   replace C := Hd (C.out.below hb2)
   clear z0 zf hcc
   obtain ⟨z0, zf⟩ := dr_cell (C.out.var (i := 1) rfl)
   go_wp2_with fail
   refine (G.expr C.out.ps hn hb3.out).mono ?_
   rintro e w4 ⟨ao4, cap4, rfl, hn4, h4, k4⟩
   replace C := Hd (C.out.ret hn4 h4 k4)
   unfold ndV
   clear z0 zf
   have hcc := C.out.var (i := 0) rfl
   replace C := Hd (C.out.set (i := 0) rfl rfl (rowA b ao4 cap4))
   obtain ⟨z0, zf⟩ := dr_cell (C.out.var (i := 1) rfl)
   go_wp2_with (refine stN rfl rfl rfl rfl hcc rfl rfl (by simp [Value.oneCell']) ?_)
   refine (rNeed_any C.out.ps x).mono ?_
   rintro e w5 ⟨rfl, h5, k5⟩
   replace C := Hd (C.out.call h5 k5)
   clear z0 zf hcc
   obtain ⟨q0, q1, q2, q3, q4, qf⟩ := nd_cells (C.out.var (i := 0) rfl)
   have hcc := C.out.var (i := 0) rfl
   go_wp2_with (refine stN rfl rfl rfl rfl hcc rfl rfl (by simp [Value.oneCell']) ?_)
   refine retN rfl rfl rfl (setRow_heap _ _ _ _ _ _ hcc) rfl ?_
   exact ⟨_, _, rfl, (C.out.set (i := 0) rfl rfl _).out (.head _)⟩
end Go.Proofs.YtllbbacnakoomaaGreatDoor
namespace Go.Proofs.YtllbbacnakoomaaGreatDoor
open Go.RowKit
set_option linter.unusedVariables false
theorem up_back (s : Ps) : (s.up 1).up (-1) = s := by
 obtain ⟨a, b, c⟩ := s
 show (⟨a + 1 + -1, b, c⟩ : Ps) = ⟨a, b, c⟩
 rw [show a + 1 + -1 = a by omega]
theorem word_none {L : List Ct} {ta : Option Addr} {tc rb : Nat} {R : Rec} (G2 : Good2 L ta tc rb R) {w : World} {s : Ps} {nest : Nat} {x : ByteArray} (h : PS L ta tc rb s w) (hn : nest ≤ 1000) (hin : s.at_ + 1 ≤ L.length) (hx : x ≠ (⟨#[103,111,116,111]⟩ : ByteArray)) (hw : (stmtWords.any fun y => decide (y = x)) = false) :
 Calls Tryz.prog 128 #[drV rb, .int .i64 nest, .string x] w (NdRetB L ta tc rb w (zT, false) s) := by
 have hne : ∀ y ∈ stmtWords, x ≠ y := fun y hy e => by
  have := List.any_eq_false.1 hw y hy
  simp [e] at this
 have e1 := eqb_no ([99,97,115,101] : List UInt8) (hne _ (by simp [stmtWords]))
 have e2 := eqb_no ([100,101,102,97,117,108,116] : List UInt8) (hne _ (by simp [stmtWords]))
 have e3 := eqb_no ([105,102] : List UInt8) (hne _ (by simp [stmtWords]))
 have e4 := eqb_no ([115,119,105,116,99,104] : List UInt8) (hne _ (by simp [stmtWords]))
 have e5 := eqb_no ([119,104,105,108,101] : List UInt8) (hne _ (by simp [stmtWords]))
 have e6 := eqb_no ([100,111] : List UInt8) (hne _ (by simp [stmtWords]))
 have e7 := eqb_no ([102,111,114] : List UInt8) (hne _ (by simp [stmtWords]))
 have e8 := eqb_no ([99,111,110,116,105,110,117,101] : List UInt8) (hne _ (by simp [stmtWords]))
 have e9 := eqb_no ([98,114,101,97,107] : List UInt8) (hne _ (by simp [stmtWords]))
 have e10 := eqb_no ([114,101,116,117,114,110] : List UInt8) (hne _ (by simp [stmtWords]))
 have e11 := eqb_no ([103,111,116,111] : List UInt8) hx
 clear hne hw hx
 have hlo := h.lo
 have hlen := h.len
 have g3 : IntKind.i64.wrap (s.at_ + 1 - 1) = s.at_ := by rw [IntWalk.i64_in _ (by omega)]; omega
 have g4 : wrap64 s.at_ = s.at_ := IntWalk.wrap64_in s.at_ (by omega)
 have hbk := h.lo
 have hhi := h.hi
 clear hlo hlen
 have G := G2.good
 have C := Hd (((Cx.start h).alloc (drO rb) (a := w.heap.size) rfl).alloc nzO (a := w.heap.size + 1) (by simp))
 have hlt := h.lt
 have hlo := h.lo
 have hlen := h.len
 have g2 : IntKind.i64.wrap (s.at_ + 1) = s.at_ + 1 := IntWalk.i64_in _ (by omega)
 obtain ⟨z0, zf⟩ := dr_cell (C.out.var (i := 1) rfl)
 try clear c0 c1 c2 c3 cf
 obtain ⟨p4, he4, c0, c1, c2, c3, cf⟩ := C.out.ps.cells
 clear he4
 replace C := Hd (C.out.lit [] (o := .cells #[] 50 (0,0)) (by simp) (by simp) rfl (a := w.heap.size + 1 + 1) (by simp) (n := 0) rfl)
 obtain ⟨y0, yf⟩ := dr_cell (C.out.var (i := 1) rfl)
 obtain ⟨p5, he5, d0, d1, d2, d3, df⟩ := C.out.ps.cells
 clear he5
 replace C := Hd (C.out.up (n := 1) (by omega) hin)
 obtain ⟨x0, xf⟩ := dr_cell (C.out.var (i := 1) rfl)
 clear hlo hlen hlt
 go_enter Tryz.func128, Tryz.ntmps128
 go_upto_region 4 with fail
 clear z0 zf y0 yf x0 xf c0 c1 c2 c3 cf d0 d1 d2 d3 df
 obtain ⟨z0, zf⟩ := dr_cell (C.out.var (i := 1) rfl)
 try clear c0 c1 c2 c3 cf
 obtain ⟨p4, he4, c0, c1, c2, c3, cf⟩ := C.out.ps.cells
 clear he4
 have hup : (s.up 1).at_ = s.at_ + 1 := rfl
 rw [hup] at c1
 have C2 := Hd (C.out.up (n := -1) (by rw [hup]; omega) (by rw [hup]; omega))
 have e12 : (s.up 1).up (-1) = s := up_back s
 rw [e12] at C2
 have e13 : (s.up 1).at_ + -1 = s.at_ := by rw [hup]; omega
 rw [e13] at C2
 clear hup e12 e13 hbk hhi
 obtain ⟨q0, q1, q2, q3, q4, qf⟩ := nd_cells (C.out.var (i := 0) rfl)
 go_upto_region 6 with fail
 have Cy := C
 clear Cy C
 have C := C2
 clear C2 z0 zf c0 c1 c2 c3 cf q0 q1 q2 q3 q4 qf
 obtain ⟨q0, q1, q2, q3, q4, qf⟩ := nd_cells (C.out.var (i := 0) rfl)
 replace C := Hd (C.out.leaf eB eB 0 0)
 have hcc := C.out.var (i := 0) rfl
 go_wp2_with (refine stN rfl rfl rfl rfl hcc rfl rfl (by simp [Value.oneCell']) ?_)
 refine retT rfl rfl rfl (setRow_heap _ _ _ _ _ _ hcc) rfl ?_
 exact ⟨_, _, rfl, (C.out.set (i := 0) rfl rfl _).out (.head _)⟩
end Go.Proofs.YtllbbacnakoomaaGreatDoor
namespace Go.Proofs.YtllbbacnakoomaaGreatDoor
open Go.RowKit
set_option linter.unusedVariables false
theorem dNames_any {w : World} {F : Nat → Prop} {a b : T} {ao bo : Option Addr} {ac bc : Nat} {p : Option Addr} {e : Ev} (ha : Rep w F a (ndC a ao ac)) (hb : Rep w F b (ndC b bo bc)) (he : EvAt w p e) :
 Calls Tryz.prog 39 #[ndV a ao ac, ndV b bo bc, .pointer p] w fun r w' => (∃ q, r = .returned (.pointer q) ∧ EvAt w' q (if (nameT b).size = 0 then e else .decl e (nameT b) (isTypedefT a))) ∧ Below w.heap.size w w' := by
 obtain ⟨W, hW⟩ : ∃ W, W = (w.alloc (bxO a ao ac)).alloc (bxO b bo bc) := ⟨_, rfl⟩
 have hbw : Below w.heap.size w W := by rw [hW]; exact ((Below.refl _ w).alloc (Nat.le_refl _) _).alloc (by simp) _
 have hN := Hd (name_any (hb.later (KeptOn.of_below hbw)))
 have hA : W.heap[w.heap.size]? = some (bxO a ao ac) := by rw [hW]; exact (heap_alloc_old _ _ (by simp)).trans (heap_alloc_new w _)
 have hT : Hid (∀ x, Below W.heap.size W x → Calls Tryz.prog 71 #[ndV a ao ac] x fun e w' => e = .returned (.bool (isTypedefT a)) ∧ Below x.heap.size x w') := Hd fun x hx => isTypedef_any (ha.later (KeptOn.of_below (hbw.trans (hx.mono hbw.size))))
 have hE : Hid (∀ x, Below W.heap.size W x → EvAt x p e) := Hd fun x hx => (he.under hbw).under hx
 generalize nameT b = nm at hN ⊢
 generalize isTypedefT a = td at hT ⊢
 unfold ndV at hN hT ⊢
 clear ha hb he
 have hbw' := Hd hbw
 clear hbw
 rcases empty_or nm with ⟨hx, hxs⟩ | ⟨hx, hx1, hx2⟩
 ·rw [if_pos hxs]
  subst hx
  clear hxs
  go_enter Tryz.func39, Tryz.ntmps39
  go_wp2_with fail
  rw [← hW]
  replace hW := Hd hW
  refine hN.out.mono ?_
  rintro r w1 ⟨rfl, hb1⟩
  go_wp2
  go_ret
  exact ⟨⟨_, rfl, hE.out _ hb1⟩, hbw'.out.trans (hb1.mono hbw'.out.size)⟩
 ·rw [if_neg hx]
  go_enter Tryz.func39, Tryz.ntmps39
  go_wp2_with fail
  rw [← hW]
  replace hW := Hd hW
  refine hN.out.mono ?_
  rintro r w1 ⟨rfl, hb1⟩
  obtain ⟨q0, q1, q2, q3, q4, qf⟩ := nd_cells ((hb1.block _ (lt_of_block hA)).trans hA)
  go_wp2_with fail
  refine (hT.out _ hb1).mono ?_
  rintro r w2 ⟨rfl, hb2⟩
  have hb12 := hb1.trans (hb2.mono hb1.size)
  go_wp2_with fail
  refine (declare_any (hE.out _ hb12) nm hx td).mono ?_
  rintro r w3 ⟨⟨q, rfl, hq⟩, hb3⟩
  have hb13 := Hd (hbw'.out.trans ((hb12.trans (hb3.mono hb12.size)).mono hbw'.out.size))
  replace hq := Hd hq
  go_wp2
  go_ret
  exact ⟨⟨_, rfl, hq.out⟩, hb13.out⟩
end Go.Proofs.YtllbbacnakoomaaGreatDoor
