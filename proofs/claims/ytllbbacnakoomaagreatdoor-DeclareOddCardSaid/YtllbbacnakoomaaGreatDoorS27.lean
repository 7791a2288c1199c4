/- Texts of this seat's proofs, laid into one file. -/
import Derived.Test.YtllbbacnakoomaaGreatDoorS26
set_option maxRecDepth 100000
set_option maxHeartbeats 16000000
namespace Go.Proofs.YtllbbacnakoomaaGreatDoor
open Go.RowKit
set_option linter.unusedVariables false
def PrimOk (L : List Ct) (ta : Option Addr) (tc rb : Nat) (R : Rec) : Prop :=
 ∀ {w : World} {s : Ps} {nest : Nat} {n : T} {s' : Ps}, PS L ta tc rb s w → nest ≤ 1000 → primaryF L R nest s = some (n, s') → Calls Tryz.prog 259 #[.pointer (some ⟨rb, 0, none⟩), .int .i64 nest] w (NdRet L ta tc rb w n s')
theorem unary_step {L : List Ct} {ta : Option Addr} {tc rb : Nat} {R : Rec} (G : Good L ta tc rb R) (HP : PrimOk L ta tc rb R) {w : World} {s : Ps} {nest : Nat} {n : T} {s' : Ps} (h : PS L ta tc rb s w) (hn : nest ≤ 1000) (hr : unaryF L R nest s = some (n, s')) :
 Calls Tryz.prog 250 #[.pointer (some ⟨rb, 0, none⟩), .int .i64 nest] w (NdRet L ta tc rb w n s') := by
 obtain ⟨W, hW⟩ : ∃ W, W = w.alloc nzO := ⟨_, rfl⟩
 have C := Hd ((Cx.start h).alloc nzO (a := w.heap.size) rfl)
 rw [← hW] at C
 have hlt := h.lt
 unfold unaryF at hr
 go_enter Tryz.func250, Tryz.ntmps250
 obtain ⟨t, ht⟩ : ∃ t, t = tokP L s.at_ := ⟨_, rfl⟩
 obtain ⟨i, hi⟩ : ∃ i, i = s.at_ := ⟨_, rfl⟩
 have hT := Hd (tok_reg C.out.ps)
 obtain ⟨_, _, _, y, _, _, _⟩ := C.out.ps.cells
 have y0 : W.drew.cell? ⟨rb, 1, none⟩ = some (.int .i64 s.at_) := y
 have y1 : (W.alloc ctZ).drew.cell? ⟨rb, 1, none⟩ = some (.int .i64 s.at_) := kept_cell ((Below.refl _ W).alloc (Nat.le_refl _) ctZ) y
 have hbA : Below W.heap.size W W.drew := (Below.refl _ W).drew
 have hbB : Below W.heap.size W (W.alloc ctZ).drew := ((Below.refl _ W).alloc (Nat.le_refl _) ctZ).drew
 have hltW := C.out.ps.lt
 have hneW : W.heap.size ≠ rb := by omega
 unfold ctV at hT
 rw [← ht, ← hi] at hT
 rw [← hi] at y y0 y1
 replace ht := Hd ht
 replace hi := Hd hi
 go_upto_region 1 with fail
 rw [← hW]
 replace hW := Hd hW
 go_cut [5,6] from 12 to 17 (fun v5 v6 wx => v5 = .int .i64 i ∧ ∃ g, v6 = .pointer (some ⟨g, 0, none⟩) ∧ Hid (Below W.heap.size W wx) ∧ Hid (wx.heap[g]? = some (ctO t)) ∧ Hid (W.heap.size ≤ g))
 case first =>
  go_region_held3 (fun x : World => x.cell? ⟨rb, 1, none⟩ = some (.int .i64 i)) (first | with_reducible exact y0 | with_reducible exact y1 | with_reducible exact d1 | with_reducible exact d1b _ | with_reducible exact d1c _ hneW _ _ _ _ _ _ _ | fail) (first
   | (refine (hT.out _ hbA).mono ?_; rintro e w1 ⟨rfl, d1, hz1, hb1, hw1, hl1, d1b, d1c⟩)
   | (refine (hT.out _ hbB).mono ?_; rintro e w1 ⟨rfl, d1, hz1, hb1, hw1, hl1, d1b, d1c⟩; obtain ⟨x0, x1, x2, x3, x4, x5, x6, xf⟩ := cells7 (kept_one hb1)))
  all_goals
   go_wp2_with fail
   go_meet
   case rel =>
    first
     | with_reducible exact ⟨rfl, _, rfl, Hd (hw1.trans ((Below.refl _ w1).alloc hw1.size _)), Hd (heap_alloc_new _ _), Hd hw1.size⟩
     | with_reducible exact ⟨rfl, _, rfl, Hd (ct_set7_below hw1 (Nat.le_refl _)), Hd (ct_set7 (kept_one hb1)), Hd (Nat.le_refl _)⟩
 case rest =>
  obtain ⟨rfl, gt, rfl, hbw, hgt, hge⟩ := hcut
  obtain rfl := hi.out
  replace C := Hd (C.out.belowV hbw.out hgt.out hge.out)
  clear hT y y0 y1 hbA hbB hltW hneW hbw hgt hge
  rw [← ht.out] at hr
  try clear c0 c1 c2 c3 cf
  obtain ⟨p4, he4, c0, c1, c2, c3, cf⟩ := C.out.ps.cells
  clear he4
  cases hbad : s.bad with
  | true =>
    rw [if_pos hbad] at hr
    obtain ⟨rfl, rfl⟩ := Prod.mk.inj (Option.some.inj hr)
    rw [hbad] at c3
    replace C := Hd (C.out.leaf eB eB 0 0)
    have hcc := C.out.var (i := 1) rfl
    go_wp2_with (refine stN rfl rfl rfl rfl hcc rfl rfl (by simp [Value.oneCell']) ?_)
    refine retN rfl rfl rfl (setRow_heap _ _ _ _ _ _ hcc) rfl ?_
    exact ⟨_, _, rfl, (C.out.set (i := 1) rfl rfl _).out (.head _)⟩
  | false =>
    rw [if_neg (by rw [hbad]; simp)] at hr
    rw [hbad] at c3
    replace hbad := Hd hbad
    by_cases p1 : (isP L s (⟨#[43,43]⟩ : ByteArray) || isP L s (⟨#[45,45]⟩ : ByteArray)) = true
    ·rw [p1, if_pos rfl] at hr
     obtain ⟨⟨b, z⟩, hb1, hb2⟩ := Option.bind_eq_some_iff.1 hr
     simp only at hb2
     replace hb1 := Hd hb1
     replace hb2 := Hd hb2
     clear hr
     obtain ⟨rfl, rfl⟩ := Prod.mk.inj (Option.some.inj hb2.out)
     clear hb2
     cases p2 : isP L s (⟨#[43,43]⟩ : ByteArray) with
     | true =>
       have HH := Hd (rHas_any C.out.ps (⟨#[43,43]⟩ : ByteArray))
       rw [hasP_ok hbad.out, p2, if_pos rfl] at HH
       go_wp2_with fail
       refine (HH.out).mono ?_
       rintro e w5 ⟨rfl, h5, k5⟩
       replace C := Hd (C.out.call h5 k5)
       clear HH
       go_wp2_with fail
       refine (G.unary C.out.ps hn hb1.out).mono ?_
       rintro e w20 ⟨ao20, cap20, rfl, hn20, h20, k20⟩
       replace C := Hd (C.out.ret hn20 h20 k20)
       unfold ndV
       replace C := Hd (C.out.alloc (bxO b ao20 cap20) (a := w20.heap.size) rfl)
       obtain ⟨x0, x1, x2, x3, x4, x5, x6, xf⟩ := ct_box (C.out.var (i := 1) rfl)
       obtain ⟨b0, b1, b2, b3, b4, bf⟩ := nd_cells (C.out.var (i := 0) rfl)
       replace C := Hd (C.out.lit [⟨b, ao20, cap20⟩] (by simp) (by simp) rfl (a := w20.heap.size + 1) (by simp) (n := 1) rfl)
       go_wp2_with fail
       refine (rMake_any C.out.ps (⟨#[112,114,101]⟩ : ByteArray) t.text s.at_ _ _ _).mono ?_
       rintro e w21 ⟨rfl, hb21⟩
       replace C := Hd (C.out.made hb21 (by simp) (⟨#[112,114,101]⟩ : ByteArray) t.text s.at_)
       clear b0 b1 b2 b3 b4 bf x0 x1 x2 x3 x4 x5 x6 xf
       have hcc := C.out.var (i := 2) rfl
       go_wp2_with (refine stN rfl rfl rfl rfl hcc rfl rfl (by simp [Value.oneCell']) ?_)
       refine retN rfl rfl rfl (setRow_heap _ _ _ _ _ _ hcc) rfl ?_
       exact ⟨_, _, rfl, (C.out.set (i := 2) rfl rfl _).out (.head _)⟩
     | false =>
       rw [p2, Bool.false_or] at p1
       have HH := Hd (rHas_any C.out.ps (⟨#[43,43]⟩ : ByteArray))
       rw [hasP_ok hbad.out, p2, if_neg (by simp)] at HH
       go_wp2_with fail
       refine (HH.out).mono ?_
       rintro e w5 ⟨rfl, h5, k5⟩
       replace C := Hd (C.out.call h5 k5)
       clear HH
       have HH := Hd (rHas_any C.out.ps (⟨#[45,45]⟩ : ByteArray))
       rw [hasP_ok hbad.out, p1, if_pos rfl] at HH
       go_wp2_with fail
       refine (HH.out).mono ?_
       rintro e w6 ⟨rfl, h6, k6⟩
       replace C := Hd (C.out.call h6 k6)
       clear HH
       go_wp2_with fail
       refine (G.unary C.out.ps hn hb1.out).mono ?_
       rintro e w20 ⟨ao20, cap20, rfl, hn20, h20, k20⟩
       replace C := Hd (C.out.ret hn20 h20 k20)
       unfold ndV
       replace C := Hd (C.out.alloc (bxO b ao20 cap20) (a := w20.heap.size) rfl)
       obtain ⟨x0, x1, x2, x3, x4, x5, x6, xf⟩ := ct_box (C.out.var (i := 1) rfl)
       obtain ⟨b0, b1, b2, b3, b4, bf⟩ := nd_cells (C.out.var (i := 0) rfl)
       replace C := Hd (C.out.lit [⟨b, ao20, cap20⟩] (by simp) (by simp) rfl (a := w20.heap.size + 1) (by simp) (n := 1) rfl)
       go_wp2_with fail
       refine (rMake_any C.out.ps (⟨#[112,114,101]⟩ : ByteArray) t.text s.at_ _ _ _).mono ?_
       rintro e w21 ⟨rfl, hb21⟩
       replace C := Hd (C.out.made hb21 (by simp) (⟨#[112,114,101]⟩ : ByteArray) t.text s.at_)
       clear b0 b1 b2 b3 b4 bf x0 x1 x2 x3 x4 x5 x6 xf
       have hcc := C.out.var (i := 2) rfl
       go_wp2_with (refine stN rfl rfl rfl rfl hcc rfl rfl (by simp [Value.oneCell']) ?_)
       refine retN rfl rfl rfl (setRow_heap _ _ _ _ _ _ hcc) rfl ?_
       exact ⟨_, _, rfl, (C.out.set (i := 2) rfl rfl _).out (.head _)⟩
    ·rw [if_neg p1] at hr
     simp only [Bool.not_eq_true, Bool.or_eq_false_iff] at p1
     have HH := Hd (rHas_any C.out.ps (⟨#[43,43]⟩ : ByteArray))
     rw [hasP_ok hbad.out, p1.1, if_neg (by simp)] at HH
     go_wp2_with fail
     refine (HH.out).mono ?_
     rintro e w5 ⟨rfl, h5, k5⟩
     replace C := Hd (C.out.call h5 k5)
     clear HH
     have HH := Hd (rHas_any C.out.ps (⟨#[45,45]⟩ : ByteArray))
     rw [hasP_ok hbad.out, p1.2, if_neg (by simp)] at HH
     go_wp2_with fail
     refine (HH.out).mono ?_
     rintro e w6 ⟨rfl, h6, k6⟩
     replace C := Hd (C.out.call h6 k6)
     clear HH
     clear c0 c1 c2 c3 cf
     by_cases p3 : (isP L s (⟨#[38]⟩ : ByteArray) || isP L s (⟨#[42]⟩ : ByteArray) || isP L s (⟨#[43]⟩ : ByteArray) || isP L s (⟨#[45]⟩ : ByteArray) || isP L s (⟨#[126]⟩ : ByteArray) || isP L s (⟨#[33]⟩ : ByteArray)) = true
     ·rw [p3, if_pos rfl] at hr
      obtain ⟨⟨b, z⟩, hb1, hb2⟩ := Option.bind_eq_some_iff.1 hr
      simp only at hb2
      replace hb1 := Hd hb1
      replace hb2 := Hd hb2
      clear hr
      obtain ⟨rfl, rfl⟩ := Prod.mk.inj (Option.some.inj hb2.out)
      clear hb2
      cases q0 : isP L s (⟨#[38]⟩ : ByteArray) with
      | true =>
        have HH := Hd (rHas_any C.out.ps (⟨#[38]⟩ : ByteArray))
        rw [hasP_ok hbad.out, q0, if_pos rfl] at HH
        go_wp2_with fail
        refine (HH.out).mono ?_
        rintro e w10 ⟨rfl, h10, k10⟩
        replace C := Hd (C.out.call h10 k10)
        clear HH
        go_wp2_with fail
        refine (G.cast C.out.ps hn hb1.out).mono ?_
        rintro e w20 ⟨ao20, cap20, rfl, hn20, h20, k20⟩
        replace C := Hd (C.out.ret hn20 h20 k20)
        unfold ndV
        replace C := Hd (C.out.alloc (bxO b.1 ao20 cap20) (a := w20.heap.size) rfl)
        obtain ⟨x0, x1, x2, x3, x4, x5, x6, xf⟩ := ct_box (C.out.var (i := 1) rfl)
        obtain ⟨b0, b1, b2, b3, b4, bf⟩ := nd_cells (C.out.var (i := 0) rfl)
        replace C := Hd (C.out.lit [⟨b.1, ao20, cap20⟩] (by simp) (by simp) rfl (a := w20.heap.size + 1) (by simp) (n := 1) rfl)
        go_wp2_with fail
        refine (rMake_any C.out.ps (⟨#[117,110,97,114,121]⟩ : ByteArray) t.text s.at_ _ _ _).mono ?_
        rintro e w21 ⟨rfl, hb21⟩
        replace C := Hd (C.out.made hb21 (by simp) (⟨#[117,110,97,114,121]⟩ : ByteArray) t.text s.at_)
        clear b0 b1 b2 b3 b4 bf x0 x1 x2 x3 x4 x5 x6 xf
        have hcc := C.out.var (i := 2) rfl
        go_wp2_with (refine stN rfl rfl rfl rfl hcc rfl rfl (by simp [Value.oneCell']) ?_)
        refine retN rfl rfl rfl (setRow_heap _ _ _ _ _ _ hcc) rfl ?_
        exact ⟨_, _, rfl, (C.out.set (i := 2) rfl rfl _).out (.head _)⟩
      | false =>
        rw [q0, Bool.false_or] at p3
        have HH := Hd (rHas_any C.out.ps (⟨#[38]⟩ : ByteArray))
        rw [hasP_ok hbad.out, q0, if_neg (by simp)] at HH
        go_wp2_with fail
        refine (HH.out).mono ?_
        rintro e w10 ⟨rfl, h10, k10⟩
        replace C := Hd (C.out.call h10 k10)
        clear HH
        cases q1 : isP L s (⟨#[42]⟩ : ByteArray) with
        | true =>
          have HH := Hd (rHas_any C.out.ps (⟨#[42]⟩ : ByteArray))
          rw [hasP_ok hbad.out, q1, if_pos rfl] at HH
          go_wp2_with fail
          refine (HH.out).mono ?_
          rintro e w11 ⟨rfl, h11, k11⟩
          replace C := Hd (C.out.call h11 k11)
          clear HH
          go_wp2_with fail
          refine (G.cast C.out.ps hn hb1.out).mono ?_
          rintro e w20 ⟨ao20, cap20, rfl, hn20, h20, k20⟩
          replace C := Hd (C.out.ret hn20 h20 k20)
          unfold ndV
          replace C := Hd (C.out.alloc (bxO b.1 ao20 cap20) (a := w20.heap.size) rfl)
          obtain ⟨x0, x1, x2, x3, x4, x5, x6, xf⟩ := ct_box (C.out.var (i := 1) rfl)
          obtain ⟨b0, b1, b2, b3, b4, bf⟩ := nd_cells (C.out.var (i := 0) rfl)
          replace C := Hd (C.out.lit [⟨b.1, ao20, cap20⟩] (by simp) (by simp) rfl (a := w20.heap.size + 1) (by simp) (n := 1) rfl)
          go_wp2_with fail
          refine (rMake_any C.out.ps (⟨#[117,110,97,114,121]⟩ : ByteArray) t.text s.at_ _ _ _).mono ?_
          rintro e w21 ⟨rfl, hb21⟩
          replace C := Hd (C.out.made hb21 (by simp) (⟨#[117,110,97,114,121]⟩ : ByteArray) t.text s.at_)
          clear b0 b1 b2 b3 b4 bf x0 x1 x2 x3 x4 x5 x6 xf
          have hcc := C.out.var (i := 2) rfl
          go_wp2_with (refine stN rfl rfl rfl rfl hcc rfl rfl (by simp [Value.oneCell']) ?_)
          refine retN rfl rfl rfl (setRow_heap _ _ _ _ _ _ hcc) rfl ?_
          exact ⟨_, _, rfl, (C.out.set (i := 2) rfl rfl _).out (.head _)⟩
        | false =>
          rw [q1, Bool.false_or] at p3
          have HH := Hd (rHas_any C.out.ps (⟨#[42]⟩ : ByteArray))
          rw [hasP_ok hbad.out, q1, if_neg (by simp)] at HH
          go_wp2_with fail
          refine (HH.out).mono ?_
          rintro e w11 ⟨rfl, h11, k11⟩
          replace C := Hd (C.out.call h11 k11)
          clear HH
          cases q2 : isP L s (⟨#[43]⟩ : ByteArray) with
          | true =>
            have HH := Hd (rHas_any C.out.ps (⟨#[43]⟩ : ByteArray))
            rw [hasP_ok hbad.out, q2, if_pos rfl] at HH
            go_wp2_with fail
            refine (HH.out).mono ?_
            rintro e w12 ⟨rfl, h12, k12⟩
            replace C := Hd (C.out.call h12 k12)
            clear HH
            go_wp2_with fail
            refine (G.cast C.out.ps hn hb1.out).mono ?_
            rintro e w20 ⟨ao20, cap20, rfl, hn20, h20, k20⟩
            replace C := Hd (C.out.ret hn20 h20 k20)
            unfold ndV
            replace C := Hd (C.out.alloc (bxO b.1 ao20 cap20) (a := w20.heap.size) rfl)
            obtain ⟨x0, x1, x2, x3, x4, x5, x6, xf⟩ := ct_box (C.out.var (i := 1) rfl)
            obtain ⟨b0, b1, b2, b3, b4, bf⟩ := nd_cells (C.out.var (i := 0) rfl)
            replace C := Hd (C.out.lit [⟨b.1, ao20, cap20⟩] (by simp) (by simp) rfl (a := w20.heap.size + 1) (by simp) (n := 1) rfl)
            go_wp2_with fail
            refine (rMake_any C.out.ps (⟨#[117,110,97,114,121]⟩ : ByteArray) t.text s.at_ _ _ _).mono ?_
            rintro e w21 ⟨rfl, hb21⟩
            replace C := Hd (C.out.made hb21 (by simp) (⟨#[117,110,97,114,121]⟩ : ByteArray) t.text s.at_)
            clear b0 b1 b2 b3 b4 bf x0 x1 x2 x3 x4 x5 x6 xf
            have hcc := C.out.var (i := 2) rfl
            go_wp2_with (refine stN rfl rfl rfl rfl hcc rfl rfl (by simp [Value.oneCell']) ?_)
            refine retN rfl rfl rfl (setRow_heap _ _ _ _ _ _ hcc) rfl ?_
            exact ⟨_, _, rfl, (C.out.set (i := 2) rfl rfl _).out (.head _)⟩
          | false =>
            rw [q2, Bool.false_or] at p3
            have HH := Hd (rHas_any C.out.ps (⟨#[43]⟩ : ByteArray))
            rw [hasP_ok hbad.out, q2, if_neg (by simp)] at HH
            go_wp2_with fail
            refine (HH.out).mono ?_
            rintro e w12 ⟨rfl, h12, k12⟩
            replace C := Hd (C.out.call h12 k12)
            clear HH
            cases q3 : isP L s (⟨#[45]⟩ : ByteArray) with
            | true =>
              have HH := Hd (rHas_any C.out.ps (⟨#[45]⟩ : ByteArray))
              rw [hasP_ok hbad.out, q3, if_pos rfl] at HH
              go_wp2_with fail
              refine (HH.out).mono ?_
              rintro e w13 ⟨rfl, h13, k13⟩
              replace C := Hd (C.out.call h13 k13)
              clear HH
              go_wp2_with fail
              refine (G.cast C.out.ps hn hb1.out).mono ?_
              rintro e w20 ⟨ao20, cap20, rfl, hn20, h20, k20⟩
              replace C := Hd (C.out.ret hn20 h20 k20)
              unfold ndV
              replace C := Hd (C.out.alloc (bxO b.1 ao20 cap20) (a := w20.heap.size) rfl)
              obtain ⟨x0, x1, x2, x3, x4, x5, x6, xf⟩ := ct_box (C.out.var (i := 1) rfl)
              obtain ⟨b0, b1, b2, b3, b4, bf⟩ := nd_cells (C.out.var (i := 0) rfl)
              replace C := Hd (C.out.lit [⟨b.1, ao20, cap20⟩] (by simp) (by simp) rfl (a := w20.heap.size + 1) (by simp) (n := 1) rfl)
              go_wp2_with fail
              refine (rMake_any C.out.ps (⟨#[117,110,97,114,121]⟩ : ByteArray) t.text s.at_ _ _ _).mono ?_
              rintro e w21 ⟨rfl, hb21⟩
              replace C := Hd (C.out.made hb21 (by simp) (⟨#[117,110,97,114,121]⟩ : ByteArray) t.text s.at_)
              clear b0 b1 b2 b3 b4 bf x0 x1 x2 x3 x4 x5 x6 xf
              have hcc := C.out.var (i := 2) rfl
              go_wp2_with (refine stN rfl rfl rfl rfl hcc rfl rfl (by simp [Value.oneCell']) ?_)
              refine retN rfl rfl rfl (setRow_heap _ _ _ _ _ _ hcc) rfl ?_
              exact ⟨_, _, rfl, (C.out.set (i := 2) rfl rfl _).out (.head _)⟩
            | false =>
              rw [q3, Bool.false_or] at p3
              have HH := Hd (rHas_any C.out.ps (⟨#[45]⟩ : ByteArray))
              rw [hasP_ok hbad.out, q3, if_neg (by simp)] at HH
              go_wp2_with fail
              refine (HH.out).mono ?_
              rintro e w13 ⟨rfl, h13, k13⟩
              replace C := Hd (C.out.call h13 k13)
              clear HH
              cases q4 : isP L s (⟨#[126]⟩ : ByteArray) with
              | true =>
                have HH := Hd (rHas_any C.out.ps (⟨#[126]⟩ : ByteArray))
                rw [hasP_ok hbad.out, q4, if_pos rfl] at HH
                go_wp2_with fail
                refine (HH.out).mono ?_
                rintro e w14 ⟨rfl, h14, k14⟩
                replace C := Hd (C.out.call h14 k14)
                clear HH
                go_wp2_with fail
                refine (G.cast C.out.ps hn hb1.out).mono ?_
                rintro e w20 ⟨ao20, cap20, rfl, hn20, h20, k20⟩
                replace C := Hd (C.out.ret hn20 h20 k20)
                unfold ndV
                replace C := Hd (C.out.alloc (bxO b.1 ao20 cap20) (a := w20.heap.size) rfl)
                obtain ⟨x0, x1, x2, x3, x4, x5, x6, xf⟩ := ct_box (C.out.var (i := 1) rfl)
                obtain ⟨b0, b1, b2, b3, b4, bf⟩ := nd_cells (C.out.var (i := 0) rfl)
                replace C := Hd (C.out.lit [⟨b.1, ao20, cap20⟩] (by simp) (by simp) rfl (a := w20.heap.size + 1) (by simp) (n := 1) rfl)
                go_wp2_with fail
                refine (rMake_any C.out.ps (⟨#[117,110,97,114,121]⟩ : ByteArray) t.text s.at_ _ _ _).mono ?_
                rintro e w21 ⟨rfl, hb21⟩
                replace C := Hd (C.out.made hb21 (by simp) (⟨#[117,110,97,114,121]⟩ : ByteArray) t.text s.at_)
                clear b0 b1 b2 b3 b4 bf x0 x1 x2 x3 x4 x5 x6 xf
                have hcc := C.out.var (i := 2) rfl
                go_wp2_with (refine stN rfl rfl rfl rfl hcc rfl rfl (by simp [Value.oneCell']) ?_)
                refine retN rfl rfl rfl (setRow_heap _ _ _ _ _ _ hcc) rfl ?_
                exact ⟨_, _, rfl, (C.out.set (i := 2) rfl rfl _).out (.head _)⟩
              | false =>
                rw [q4, Bool.false_or] at p3
                have HH := Hd (rHas_any C.out.ps (⟨#[126]⟩ : ByteArray))
                rw [hasP_ok hbad.out, q4, if_neg (by simp)] at HH
                go_wp2_with fail
                refine (HH.out).mono ?_
                rintro e w14 ⟨rfl, h14, k14⟩
                replace C := Hd (C.out.call h14 k14)
                clear HH
                have HH := Hd (rHas_any C.out.ps (⟨#[33]⟩ : ByteArray))
                rw [hasP_ok hbad.out, p3, if_pos rfl] at HH
                go_wp2_with fail
                refine (HH.out).mono ?_
                rintro e w15 ⟨rfl, h15, k15⟩
                replace C := Hd (C.out.call h15 k15)
                clear HH
                go_wp2_with fail
                refine (G.cast C.out.ps hn hb1.out).mono ?_
                rintro e w20 ⟨ao20, cap20, rfl, hn20, h20, k20⟩
                replace C := Hd (C.out.ret hn20 h20 k20)
                unfold ndV
                replace C := Hd (C.out.alloc (bxO b.1 ao20 cap20) (a := w20.heap.size) rfl)
                obtain ⟨x0, x1, x2, x3, x4, x5, x6, xf⟩ := ct_box (C.out.var (i := 1) rfl)
                obtain ⟨b0, b1, b2, b3, b4, bf⟩ := nd_cells (C.out.var (i := 0) rfl)
                replace C := Hd (C.out.lit [⟨b.1, ao20, cap20⟩] (by simp) (by simp) rfl (a := w20.heap.size + 1) (by simp) (n := 1) rfl)
                go_wp2_with fail
                refine (rMake_any C.out.ps (⟨#[117,110,97,114,121]⟩ : ByteArray) t.text s.at_ _ _ _).mono ?_
                rintro e w21 ⟨rfl, hb21⟩
                replace C := Hd (C.out.made hb21 (by simp) (⟨#[117,110,97,114,121]⟩ : ByteArray) t.text s.at_)
                clear b0 b1 b2 b3 b4 bf x0 x1 x2 x3 x4 x5 x6 xf
                have hcc := C.out.var (i := 2) rfl
                go_wp2_with (refine stN rfl rfl rfl rfl hcc rfl rfl (by simp [Value.oneCell']) ?_)
                refine retN rfl rfl rfl (setRow_heap _ _ _ _ _ _ hcc) rfl ?_
                exact ⟨_, _, rfl, (C.out.set (i := 2) rfl rfl _).out (.head _)⟩
     ·rw [if_neg p3] at hr
      simp only [Bool.not_eq_true, Bool.or_eq_false_iff] at p3
      obtain ⟨⟨⟨⟨⟨q0, q1⟩, q2⟩, q3⟩, q4⟩, q5⟩ := p3
      have HH := Hd (rHas_any C.out.ps (⟨#[38]⟩ : ByteArray))
      rw [hasP_ok hbad.out, q0, if_neg (by simp)] at HH
      go_wp2_with fail
      refine (HH.out).mono ?_
      rintro e w10 ⟨rfl, h10, k10⟩
      replace C := Hd (C.out.call h10 k10)
      clear HH
      have HH := Hd (rHas_any C.out.ps (⟨#[42]⟩ : ByteArray))
      rw [hasP_ok hbad.out, q1, if_neg (by simp)] at HH
      go_wp2_with fail
      refine (HH.out).mono ?_
      rintro e w11 ⟨rfl, h11, k11⟩
      replace C := Hd (C.out.call h11 k11)
      clear HH
      have HH := Hd (rHas_any C.out.ps (⟨#[43]⟩ : ByteArray))
      rw [hasP_ok hbad.out, q2, if_neg (by simp)] at HH
      go_wp2_with fail
      refine (HH.out).mono ?_
      rintro e w12 ⟨rfl, h12, k12⟩
      replace C := Hd (C.out.call h12 k12)
      clear HH
      have HH := Hd (rHas_any C.out.ps (⟨#[45]⟩ : ByteArray))
      rw [hasP_ok hbad.out, q3, if_neg (by simp)] at HH
      go_wp2_with fail
      refine (HH.out).mono ?_
      rintro e w13 ⟨rfl, h13, k13⟩
      replace C := Hd (C.out.call h13 k13)
      clear HH
      have HH := Hd (rHas_any C.out.ps (⟨#[126]⟩ : ByteArray))
      rw [hasP_ok hbad.out, q4, if_neg (by simp)] at HH
      go_wp2_with fail
      refine (HH.out).mono ?_
      rintro e w14 ⟨rfl, h14, k14⟩
      replace C := Hd (C.out.call h14 k14)
      clear HH
      have HH := Hd (rHas_any C.out.ps (⟨#[33]⟩ : ByteArray))
      rw [hasP_ok hbad.out, q5, if_neg (by simp)] at HH
      go_wp2_with fail
      refine (HH.out).mono ?_
      rintro e w15 ⟨rfl, h15, k15⟩
      replace C := Hd (C.out.call h15 k15)
      clear HH
      cases p4 : wordP L s (⟨#[115,105,122,101,111,102]⟩ : ByteArray) with
      | true =>
        rw [p4, if_pos rfl] at hr
        replace hr := Hd hr
        have HH := Hd (rHasWord_any C.out.ps (⟨#[115,105,122,101,111,102]⟩ : ByteArray))
        rw [hasW_ok hbad.out, p4, if_pos rfl] at HH
        go_wp2_with fail
        refine (HH.out).mono ?_
        rintro e w16 ⟨rfl, h16, k16⟩
        replace C := Hd (C.out.call h16 k16)
        clear HH
        go_wp2_with fail
        refine (size_any G C.out.ps hn hr.out).mono ?_
        rintro e w17 ⟨ao17, cap17, rfl, hn17, h17, k17⟩
        replace C := Hd (C.out.ret hn17 h17 k17)
        unfold ndV
        have hcc := C.out.var (i := 1) rfl
        go_wp2_with (refine stN rfl rfl rfl rfl hcc rfl rfl (by simp [Value.oneCell']) ?_)
        refine retN rfl rfl rfl (setRow_heap _ _ _ _ _ _ hcc) rfl ?_
        exact ⟨_, _, rfl, (C.out.set (i := 1) rfl rfl _).out (.head _)⟩
      | false =>
        rw [p4, if_neg (by simp)] at hr
        have HH := Hd (rHasWord_any C.out.ps (⟨#[115,105,122,101,111,102]⟩ : ByteArray))
        rw [hasW_ok hbad.out, p4, if_neg (by simp)] at HH
        go_wp2_with fail
        refine (HH.out).mono ?_
        rintro e w16 ⟨rfl, h16, k16⟩
        replace C := Hd (C.out.call h16 k16)
        clear HH
        cases p5 : wordP L s (⟨#[95,65,108,105,103,110,111,102]⟩ : ByteArray) with
        | true =>
          rw [p5, if_pos rfl] at hr
          obtain ⟨⟨b, z⟩, hb1, hb2⟩ := Option.bind_eq_some_iff.1 hr
          simp only at hb2
          replace hb1 := Hd hb1
          replace hb2 := Hd hb2
          clear hr
          obtain ⟨rfl, rfl⟩ := Prod.mk.inj (Option.some.inj hb2.out)
          clear hb2
          have HH := Hd (rHasWord_any C.out.ps (⟨#[95,65,108,105,103,110,111,102]⟩ : ByteArray))
          rw [hasW_ok hbad.out, p5, if_pos rfl] at HH
          go_wp2_with fail
          refine (HH.out).mono ?_
          rintro e w17 ⟨rfl, h17, k17⟩
          replace C := Hd (C.out.call h17 k17)
          clear HH
          go_wp2_with fail
          refine (inBrackets_any G C.out.ps hn hb1.out).mono ?_
          rintro e w20 ⟨ao20, cap20, rfl, hn20, h20, k20⟩
          replace C := Hd (C.out.ret hn20 h20 k20)
          unfold ndV
          replace C := Hd (C.out.alloc (bxO b ao20 cap20) (a := w20.heap.size) rfl)
          obtain ⟨b0, b1, b2, b3, b4, bf⟩ := nd_cells (C.out.var (i := 0) rfl)
          replace C := Hd (C.out.lit [⟨b, ao20, cap20⟩] (by simp) (by simp) rfl (a := w20.heap.size + 1) (by simp) (n := 1) rfl)
          go_wp2_with fail
          refine (rMake_any C.out.ps (⟨#[97,108,105,103,110,111,102]⟩ : ByteArray) ⟨#[]⟩ s.at_ _ _ _).mono ?_
          rintro e w21 ⟨rfl, hb21⟩
          replace C := Hd (C.out.made hb21 (by simp) (⟨#[97,108,105,103,110,111,102]⟩ : ByteArray) ⟨#[]⟩ s.at_)
          clear b0 b1 b2 b3 b4 bf
          have hcc := C.out.var (i := 2) rfl
          go_wp2_with (refine stN rfl rfl rfl rfl hcc rfl rfl (by simp [Value.oneCell']) ?_)
          refine retN rfl rfl rfl (setRow_heap _ _ _ _ _ _ hcc) rfl ?_
          exact ⟨_, _, rfl, (C.out.set (i := 2) rfl rfl _).out (.head _)⟩
        | false =>
          rw [p5, if_neg (by simp)] at hr
          have HH := Hd (rHasWord_any C.out.ps (⟨#[95,65,108,105,103,110,111,102]⟩ : ByteArray))
          rw [hasW_ok hbad.out, p5, if_neg (by simp)] at HH
          go_wp2_with fail
          refine (HH.out).mono ?_
          rintro e w17 ⟨rfl, h17, k17⟩
          replace C := Hd (C.out.call h17 k17)
          clear HH
          have HB := Hd (bracketed_any C.out.ps)
          cases hbr : bracketedP L s with
          | true =>
            rw [hbr] at HB
            rw [hbr, if_pos rfl] at hr
            obtain ⟨⟨b, z⟩, hb1, hb2⟩ := Option.bind_eq_some_iff.1 hr
            simp only at hb2
            replace hb1 := Hd hb1
            replace hb2 := Hd hb2
            clear hr
            go_wp2_with fail
            refine (HB.out).mono ?_
            rintro e w18 ⟨rfl, hb18⟩
            replace C := Hd (C.out.below hb18)
            go_wp2_with fail
            refine (inBrackets_any G C.out.ps hn hb1.out).mono ?_
            rintro e w20 ⟨ao20, cap20, rfl, hn20, h20, k20⟩
            replace C := Hd (C.out.ret hn20 h20 k20)
            unfold ndV
            replace C := Hd (C.out.alloc (bxO b ao20 cap20) (a := w20.heap.size) rfl)
            obtain ⟨b0, b1, b2, b3, b4, bf⟩ := nd_cells (C.out.var (i := 0) rfl)
            go_wp2_with fail
            refine (literal_any G C.out.ps C.out.nrb (C.out.nok _ (.head _)) hn hb2.out).mono ?_
            rintro e w21 ⟨ao21, cap21, rfl, hn21, h21, k21⟩
            replace C := Hd (C.out.retF hn21 h21 k21)
            unfold ndV
            clear b0 b1 b2 b3 b4 bf
            have hcc := C.out.var (i := 2) rfl
            go_wp2_with (refine stN rfl rfl rfl rfl hcc rfl rfl (by simp [Value.oneCell']) ?_)
            refine retN rfl rfl rfl (setRow_heap _ _ _ _ _ _ hcc) rfl ?_
            exact ⟨_, _, rfl, (C.out.set (i := 2) rfl rfl _).out (.head _)⟩
          | false =>
            rw [hbr] at HB
            rw [hbr, if_neg (by simp)] at hr
            obtain ⟨⟨b, z⟩, hb1, hb2⟩ := Option.bind_eq_some_iff.1 hr
            simp only at hb2
            replace hb1 := Hd hb1
            replace hb2 := Hd hb2
            clear hr
            go_wp2_with fail
            refine (HB.out).mono ?_
            rintro e w18 ⟨rfl, hb18⟩
            replace C := Hd (C.out.below hb18)
            go_wp2_with fail
            refine (HP C.out.ps hn hb1.out).mono ?_
            rintro e w20 ⟨ao20, cap20, rfl, hn20, h20, k20⟩
            replace C := Hd (C.out.ret hn20 h20 k20)
            unfold ndV
            go_wp2_with fail
            refine (postfix_any G C.out.ps C.out.nrb (C.out.nok _ (.head _)) hn hb2.out).mono ?_
            rintro e w21 ⟨ao21, cap21, rfl, hn21, h21, k21⟩
            replace C := Hd (C.out.retF hn21 h21 k21)
            unfold ndV
            have hcc := C.out.var (i := 1) rfl
            go_wp2_with (refine stN rfl rfl rfl rfl hcc rfl rfl (by simp [Value.oneCell']) ?_)
            refine retN rfl rfl rfl (setRow_heap _ _ _ _ _ _ hcc) rfl ?_
            exact ⟨_, _, rfl, (C.out.set (i := 1) rfl rfl _).out (.head _)⟩
end Go.Proofs.YtllbbacnakoomaaGreatDoor
namespace Go.Proofs.YtllbbacnakoomaaGreatDoor
open Go.RowKit
set_option linter.unusedVariables false
theorem Cx.drew {L : List Ct} {ta : Option Addr} {tc rb : Nat} {F : Nat → Prop} {O0 : Option Nat} {w0 : World} {s : Ps} {ns : List Nd} {vs : List (Nat × Obj)} {ks : List T} {v : Value} {w : World} (C : Cx L ta tc rb F O0 w0 s ns vs ks v w) : Cx L ta tc rb F O0 w0 s ns vs ks v w.drew := C.below (Below.refl _ _).drew
theorem generic_any {L : List Ct} {ta : Option Addr} {tc rb : Nat} {R : Rec} (G : Good L ta tc rb R) {w : World} {s : Ps} {fro : Int} {nest : Nat} {n : T} {s' : Ps} (h : PS L ta tc rb s w) (hn : nest ≤ 1000) (hr : genericF L R fro nest s = some (n, s')) :
 Calls Tryz.prog 261 #[.pointer (some ⟨rb, 0, none⟩), .int .i64 fro, .int .i64 nest] w (NdRet L ta tc rb w n s') := by
 have C := Hd ((Cx.start h).alloc nzO (a := w.heap.size) rfl)
 have hlt := h.lt
 unfold genericF at hr
 obtain ⟨⟨a, s1⟩, hr1, hr2⟩ := Option.bind_eq_some_iff.1 hr
 simp only at hr2
 replace hr1 := Hd hr1
 replace hr2 := Hd hr2
 clear hr
 obtain ⟨⟨kl, s2⟩, hr3, hr4⟩ := Option.bind_eq_some_iff.1 hr2.out
 obtain ⟨rfl, rfl⟩ := Prod.mk.inj (Option.some.inj hr4)
 replace hr3 := Hd hr3
 clear hr2 hr4
 go_enter Tryz.func261, Tryz.ntmps261
 go_wp2_with fail
 refine wp_scope_gh 0 (fun q a' wx => ∃ (k : List T) (z : Ps) (m : Nat) (ao3 : Option Addr) (cap3 : Nat) (u3 u4 u5 u8 u9 u10 u11 u12 u13 u14 u15 u16 u17 u18 u19 u20 u21 u22 u23 u24 u25 u26 u27 u28 u29 u30 u31 u32 u33 u34 u35 u36 u37 u38 u39 u40 u41 u42 u43 u44 u45 u46 u47 u48 u49 u50 u51 u52 u53 u54 u55 u56 u57 u58 u59 u60 u61 u62 u63 : Value), a' = { tmps := #[.pointer (some ⟨rb, 0, none⟩), .int .i64 fro, .int .i64 nest, u3, u4, u5, .pointer (some ⟨w.heap.size, 0, none⟩), .slice ao3 m cap3, u8, u9, u10, u11, u12, u13, u14, u15, u16, u17, u18, u19, u20, u21, u22, u23, u24, u25, u26, u27, u28, u29, u30, u31, u32, u33, u34, u35, u36, u37, u38, u39, u40, u41, u42, u43, u44, u45, u46, u47, u48, u49, u50, u51, u52, u53, u54, u55, u56, u57, u58, u59, u60, u61, u62, u63], defers := [] } ∧ Hid (k.length = m) ∧ Hid (m + q ≤ 6000) ∧ Hid (Cx L ta tc rb (fun _ => False) none w z [] [(w.heap.size, nzO)] k (.slice ao3 m cap3) wx) ∧ Hid (genLoop L R nest q k z = some (kl, s2))) rfl ?_ ?_
 ·intro Rst
  go_wp2_with fail
  refine (rNeed_any C.out.ps (⟨#[40]⟩ : ByteArray)).mono ?_
  rintro e w1 ⟨rfl, h1, k1⟩
  replace C := Hd (C.out.call h1 k1)
  go_wp2_with fail
  refine (G.assign C.out.ps hn hr1.out).mono ?_
  rintro e w2 ⟨ao2, cap2, rfl, hn2, h2, k2⟩
  replace C := Hd (C.out.ret hn2 h2 k2)
  unfold ndV
  replace C := Hd (C.out.lit [⟨a, ao2, cap2⟩] (by simp) (by simp) rfl (a := w2.heap.size) rfl (n := 1) rfl)
  go_wp2_with fail
  refine (rNeed_any C.out.ps (⟨#[44]⟩ : ByteArray)).mono ?_
  rintro e w3 ⟨rfl, h3, k3⟩
  replace C := Hd (C.out.call h3 k3)
  go_wp2_with fail
  go_step3
  go_step
  go_step
  exact Rst.out KK _ _ ⟨_, _, _, _, _, _, _, _, _, _, _, _, _, _, _, _, _, _, _, _, _, _, _, _, _, _, _, _, _, _, _, _, _, _, _, _, _, _, _, _, _, _, _, _, _, _, _, _, _, _, _, _, _, _, _, _, _, _, _, _, _, _, _, _, rfl, Hd rfl, Hd (by unfold KK; simp), Hd (C.out.weak (by simp) (List.Sublist.refl _)), hr3⟩
 ·rintro q a' wx ⟨k, z, m, ao3, cap3, u3, u4, u5, u8, u9, u10, u11, u12, u13, u14, u15, u16, u17, u18, u19, u20, u21, u22, u23, u24, u25, u26, u27, u28, u29, u30, u31, u32, u33, u34, u35, u36, u37, u38, u39, u40, u41, u42, u43, u44, u45, u46, u47, u48, u49, u50, u51, u52, u53, u54, u55, u56, u57, u58, u59, u60, u61, u62, u63, rfl, hm, hq, C0, hL⟩
  have Cx := C
  clear Cx C hr3 hr1
  have C := C0
  clear C0
  cases q with
  | zero => exact absurd hL.out (by simp [genLoop])
  | succ q =>
    have hL2 := hL.out
    unfold genLoop at hL2
    obtain ⟨⟨x, z2⟩, hg1, hg2⟩ := Option.bind_eq_some_iff.1 hL2
    clear hL2
    simp only at hg2
    unfold genNext at hg1
    try clear c0 c1 c2 c3 cf
    obtain ⟨p4, he4, c0, c1, c2, c3, cf⟩ := C.out.ps.cells
    clear he4
    cases p1 : hasW L z (⟨#[100,101,102,97,117,108,116]⟩ : ByteArray) with
    | true =>
      rw [p1, if_pos rfl] at hg1
      obtain ⟨⟨b, z3⟩, hb1, hb2⟩ := Option.bind_eq_some_iff.1 hg1
      simp only at hb2
      replace hb1 := Hd hb1
      replace hb2 := Hd hb2
      clear hg1
      obtain ⟨rfl, rfl⟩ := Prod.mk.inj (Option.some.inj hb2.out)
      clear hb2
      have HH := Hd (rHasWord_any C.out.ps (⟨#[100,101,102,97,117,108,116]⟩ : ByteArray))
      rw [p1, if_pos rfl] at HH
      go_wp2_with fail
      refine (HH.out).mono ?_
      rintro e w4 ⟨rfl, h4, k4⟩
      replace C := Hd (C.out.call h4 k4)
      clear HH
      clear c0 c1 c2 c3 cf
      go_wp2_with fail
      refine (rNeed_any C.out.ps (⟨#[58]⟩ : ByteArray)).mono ?_
      rintro e w5 ⟨rfl, h5, k5⟩
      replace C := Hd (C.out.call h5 k5)
      go_wp2_with fail
      refine (G.assign C.out.ps hn hb1.out).mono ?_
      rintro e w6 ⟨ao6, cap6, rfl, hn6, h6, k6⟩
      replace C := Hd (C.out.ret hn6 h6 k6)
      unfold ndV
      replace C := Hd (C.out.alloc (bxO b ao6 cap6) (a := w6.heap.size) rfl)
      obtain ⟨b0, b1, b2, b3, b4, bf⟩ := nd_cells (C.out.var (i := 0) rfl)
      have C2 := Hd (C.out.litN [⟨b, ao6, cap6⟩] (by simp) (by simp) rfl (a := w6.heap.size + 1) (by simp) (n := 1) rfl (⟨#[100,101,102,97,117,108,116]⟩ : ByteArray) ⟨#[]⟩ z.at_)
      go_wp2_with fail
      refine (rMake_any (C.out.below ((Below.refl _ _).alloc (Nat.le_refl _) _)).ps (⟨#[100,101,102,97,117,108,116]⟩ : ByteArray) ⟨#[]⟩ z.at_ _ _ _).mono ?_
      rintro e w7 ⟨rfl, hb7⟩
      replace C := Hd (C2.out.below hb7)
      clear C2
      clear b0 b1 b2 b3 b4 bf
      go_wp2_with (refine wpList_snoc C.out (.head _) (by have := hm.out; have := hq.out; omega) rfl rfl rfl rfl rfl ?_; intro m7 ao7 cap7 w7 hm7 C7)
      have hq7 : Hid (m7 + q ≤ 6000) := Hd (by have h1 := hm7.out; have := hm.out; have := hq.out; simp at h1; omega)
      replace C := Hd C7
      clear C7
      cases p2 : hasP L z3 (⟨#[44]⟩ : ByteArray) with
      | true =>
        rw [p2, if_pos rfl] at hg2
        have HH := Hd (rHas_any C.out.ps (⟨#[44]⟩ : ByteArray))
        rw [p2, if_pos rfl] at HH
        go_wp2_with fail
        refine (HH.out).mono ?_
        rintro e w8 ⟨rfl, h8, k8⟩
        replace C := Hd (C.out.call h8 k8)
        clear HH
        go_wp2_with fail
        go_step3
        exact ⟨rfl, q, Nat.lt_succ_self _, _, _, _, _, _, _, _, _, _, _, _, _, _, _, _, _, _, _, _, _, _, _, _, _, _, _, _, _, _, _, _, _, _, _, _, _, _, _, _, _, _, _, _, _, _, _, _, _, _, _, _, _, _, _, _, _, _, _, _, _, _, _, _, _, rfl, hm7, hq7, Hd (C.out.weak (by simp) ((List.Sublist.refl _).cons _)), Hd hg2⟩
      | false =>
        rw [p2, if_neg (by simp)] at hg2
        obtain ⟨rfl, rfl⟩ := Prod.mk.inj (Option.some.inj hg2)
        have HH := Hd (rHas_any C.out.ps (⟨#[44]⟩ : ByteArray))
        rw [p2, if_neg (by simp)] at HH
        go_wp2_with fail
        refine (HH.out).mono ?_
        rintro e w8 ⟨rfl, h8, k8⟩
        replace C := Hd (C.out.call h8 k8)
        clear HH
        go_wp2_with fail
        refine (rNeed_any C.out.ps (⟨#[41]⟩ : ByteArray)).mono ?_
        rintro e w9 ⟨rfl, h9, k9⟩
        replace C := Hd (C.out.call h9 k9)
        go_wp2_with fail
        refine (rMake_any C.out.ps (⟨#[103,101,110,101,114,105,99]⟩ : ByteArray) ⟨#[]⟩ fro _ _ _).mono ?_
        rintro e w10 ⟨rfl, hb10⟩
        replace C := Hd (C.out.made hb10 (by have := hm7.out; have := hq7.out; omega) (⟨#[103,101,110,101,114,105,99]⟩ : ByteArray) ⟨#[]⟩ fro)
        have hcc := C.out.var (i := 1) rfl
        go_wp2_with (refine stN rfl rfl rfl rfl hcc rfl rfl (by simp [Value.oneCell']) ?_)
        try simp only [Exit.jump]
        refine retN rfl rfl rfl (setRow_heap _ _ _ _ _ _ hcc) rfl ?_
        obtain rfl := hm7.out
        exact ⟨_, _, rfl, (C.out.set (i := 1) rfl rfl _).out (.head _)⟩
    | false =>
      rw [p1, if_neg (by simp)] at hg1
      obtain ⟨⟨t, z4⟩, ht1, hg3⟩ := Option.bind_eq_some_iff.1 hg1
      simp only at hg3
      replace ht1 := Hd ht1
      replace hg3 := Hd hg3
      clear hg1
      have hg1 := hg3.out
      clear hg3
      obtain ⟨⟨b, z3⟩, hb1, hb2⟩ := Option.bind_eq_some_iff.1 hg1
      simp only at hb2
      replace hb1 := Hd hb1
      replace hb2 := Hd hb2
      clear hg1
      obtain ⟨rfl, rfl⟩ := Prod.mk.inj (Option.some.inj hb2.out)
      clear hb2
      have HH := Hd (rHasWord_any C.out.ps (⟨#[100,101,102,97,117,108,116]⟩ : ByteArray))
      rw [p1, if_neg (by simp)] at HH
      go_wp2_with fail
      refine (HH.out).mono ?_
      rintro e w4 ⟨rfl, h4, k4⟩
      replace C := Hd (C.out.call h4 k4)
      clear HH
      clear c0 c1 c2 c3 cf
      go_wp2_with fail
      refine (G.typeName C.out.ps hn ht1.out).mono ?_
      rintro e w5 ⟨ao5, cap5, rfl, hn5, h5, k5⟩
      replace C := Hd (C.out.ret hn5 h5 k5)
      unfold ndV
      replace C := Hd (C.out.alloc (bxO t ao5 cap5) (a := w5.heap.size) rfl)
      go_wp2_with fail
      refine (rNeed_any C.out.ps (⟨#[58]⟩ : ByteArray)).mono ?_
      rintro e w12 ⟨rfl, h12, k12⟩
      replace C := Hd (C.out.call h12 k12)
      go_wp2_with fail
      refine (G.assign C.out.ps hn hb1.out).mono ?_
      rintro e w6 ⟨ao6, cap6, rfl, hn6, h6, k6⟩
      replace C := Hd (C.out.ret hn6 h6 k6)
      unfold ndV
      replace C := Hd (C.out.alloc (bxO b ao6 cap6) (a := w6.heap.size) rfl)
      obtain ⟨b0, b1, b2, b3, b4, bf⟩ := nd_cells (C.out.var (i := 0) rfl)
      obtain ⟨q0, q1, q2, q3, q4, qf⟩ := nd_cells (C.out.var (i := 1) rfl)
      have C2 := Hd (C.out.litN [⟨t, ao5, cap5⟩, ⟨b, ao6, cap6⟩] (by simp) (by simp) rfl (a := w6.heap.size + 1) (by simp) (n := 2) rfl (⟨#[97,115,115,111,99]⟩ : ByteArray) ⟨#[]⟩ z.at_)
      go_wp2_with fail
      refine (rMake_any (C.out.below ((Below.refl _ _).alloc (Nat.le_refl _) _)).ps (⟨#[97,115,115,111,99]⟩ : ByteArray) ⟨#[]⟩ z.at_ _ _ _).mono ?_
      rintro e w7 ⟨rfl, hb7⟩
      replace C := Hd (C2.out.below hb7)
      clear C2
      clear b0 b1 b2 b3 b4 bf q0 q1 q2 q3 q4 qf
      go_wp2_with (refine wpList_snoc C.out (.head _) (by have := hm.out; have := hq.out; omega) rfl rfl rfl rfl rfl ?_; intro m7 ao7 cap7 w7 hm7 C7)
      have hq7 : Hid (m7 + q ≤ 6000) := Hd (by have h1 := hm7.out; have := hm.out; have := hq.out; simp at h1; omega)
      replace C := Hd C7
      clear C7
      cases p2 : hasP L z3 (⟨#[44]⟩ : ByteArray) with
      | true =>
        rw [p2, if_pos rfl] at hg2
        have HH := Hd (rHas_any C.out.ps (⟨#[44]⟩ : ByteArray))
        rw [p2, if_pos rfl] at HH
        go_wp2_with fail
        refine (HH.out).mono ?_
        rintro e w8 ⟨rfl, h8, k8⟩
        replace C := Hd (C.out.call h8 k8)
        clear HH
        go_wp2_with fail
        go_step3
        exact ⟨rfl, q, Nat.lt_succ_self _, _, _, _, _, _, _, _, _, _, _, _, _, _, _, _, _, _, _, _, _, _, _, _, _, _, _, _, _, _, _, _, _, _, _, _, _, _, _, _, _, _, _, _, _, _, _, _, _, _, _, _, _, _, _, _, _, _, _, _, _, _, _, _, _, rfl, hm7, hq7, Hd (C.out.weak (by simp) (((List.Sublist.refl _).cons _).cons _)), Hd hg2⟩
      | false =>
        rw [p2, if_neg (by simp)] at hg2
        obtain ⟨rfl, rfl⟩ := Prod.mk.inj (Option.some.inj hg2)
        have HH := Hd (rHas_any C.out.ps (⟨#[44]⟩ : ByteArray))
        rw [p2, if_neg (by simp)] at HH
        go_wp2_with fail
        refine (HH.out).mono ?_
        rintro e w8 ⟨rfl, h8, k8⟩
        replace C := Hd (C.out.call h8 k8)
        clear HH
        go_wp2_with fail
        refine (rNeed_any C.out.ps (⟨#[41]⟩ : ByteArray)).mono ?_
        rintro e w9 ⟨rfl, h9, k9⟩
        replace C := Hd (C.out.call h9 k9)
        go_wp2_with fail
        refine (rMake_any C.out.ps (⟨#[103,101,110,101,114,105,99]⟩ : ByteArray) ⟨#[]⟩ fro _ _ _).mono ?_
        rintro e w10 ⟨rfl, hb10⟩
        replace C := Hd (C.out.made hb10 (by have := hm7.out; have := hq7.out; omega) (⟨#[103,101,110,101,114,105,99]⟩ : ByteArray) ⟨#[]⟩ fro)
        have hcc := C.out.var (i := 2) rfl
        go_wp2_with (refine stN rfl rfl rfl rfl hcc rfl rfl (by simp [Value.oneCell']) ?_)
        try simp only [Exit.jump]
        refine retN rfl rfl rfl (setRow_heap _ _ _ _ _ _ hcc) rfl ?_
        obtain rfl := hm7.out
        exact ⟨_, _, rfl, (C.out.set (i := 2) rfl rfl _).out (.head _)⟩
theorem primary_any {L : List Ct} {ta : Option Addr} {tc rb : Nat} {R : Rec} (G : Good L ta tc rb R) : PrimOk L ta tc rb R := by
 intro w s nest n s' h hn hr
 obtain ⟨W, hW⟩ : ∃ W, W = w.alloc nzO := ⟨_, rfl⟩
 have C := Hd ((Cx.start h).alloc nzO (a := w.heap.size) rfl)
 rw [← hW] at C
 have hlt := h.lt
 unfold primaryF at hr
 go_enter Tryz.func259, Tryz.ntmps259
 obtain ⟨t, ht⟩ : ∃ t, t = tokP L s.at_ := ⟨_, rfl⟩
 obtain ⟨i, hi⟩ : ∃ i, i = s.at_ := ⟨_, rfl⟩
 have hT := Hd (tok_reg C.out.ps)
 obtain ⟨_, _, _, y, _, _, _⟩ := C.out.ps.cells
 have y0 : W.drew.cell? ⟨rb, 1, none⟩ = some (.int .i64 s.at_) := y
 have y1 : (W.alloc ctZ).drew.cell? ⟨rb, 1, none⟩ = some (.int .i64 s.at_) := kept_cell ((Below.refl _ W).alloc (Nat.le_refl _) ctZ) y
 have hbA : Below W.heap.size W W.drew := (Below.refl _ W).drew
 have hbB : Below W.heap.size W (W.alloc ctZ).drew := ((Below.refl _ W).alloc (Nat.le_refl _) ctZ).drew
 have hltW := C.out.ps.lt
 have hneW : W.heap.size ≠ rb := by omega
 unfold ctV at hT
 rw [← ht, ← hi] at hT
 rw [← hi] at y y0 y1
 replace ht := Hd ht
 replace hi := Hd hi
 go_upto_region 1 with fail
 rw [← hW]
 replace hW := Hd hW
 go_cut [5,6] from 7 to 12 (fun v5 v6 wx => v5 = .int .i64 i ∧ ∃ g, v6 = .pointer (some ⟨g, 0, none⟩) ∧ Hid (Below W.heap.size W wx) ∧ Hid (wx.heap[g]? = some (ctO t)) ∧ Hid (W.heap.size ≤ g))
 case first =>
  go_region_held3 (fun x : World => x.cell? ⟨rb, 1, none⟩ = some (.int .i64 i)) (first | with_reducible exact y0 | with_reducible exact y1 | with_reducible exact d1 | with_reducible exact d1b _ | with_reducible exact d1c _ hneW _ _ _ _ _ _ _ | fail) (first
   | (refine (hT.out _ hbA).mono ?_; rintro e w1 ⟨rfl, d1, hz1, hb1, hw1, hl1, d1b, d1c⟩)
   | (refine (hT.out _ hbB).mono ?_; rintro e w1 ⟨rfl, d1, hz1, hb1, hw1, hl1, d1b, d1c⟩; obtain ⟨x0, x1, x2, x3, x4, x5, x6, xf⟩ := cells7 (kept_one hb1)))
  all_goals
   go_wp2_with fail
   go_meet
   case rel =>
    first
     | with_reducible exact ⟨rfl, _, rfl, Hd (hw1.trans ((Below.refl _ w1).alloc hw1.size _)), Hd (heap_alloc_new _ _), Hd hw1.size⟩
     | with_reducible exact ⟨rfl, _, rfl, Hd (ct_set7_below hw1 (Nat.le_refl _)), Hd (ct_set7 (kept_one hb1)), Hd (Nat.le_refl _)⟩
 case rest =>
  obtain ⟨rfl, gt, rfl, hbw, hgt, hge⟩ := hcut
  obtain rfl := hi.out
  replace C := Hd (C.out.belowV hbw.out hgt.out hge.out)
  clear hT y y0 y1 hbA hbB hltW hneW hbw hgt hge
  rw [← ht.out] at hr
  obtain ⟨x0, x1, x2, x3, x4, x5, x6, xf⟩ := ct_box (C.out.var (i := 0) rfl)
  by_cases hk : t.kind = 1
  ·have HT := Hd (typed_any C.out.ps t)
   rw [hk] at x0
   unfold typedP ctV at HT
   rw [decide_eq_true hk, Bool.true_and, hk] at HT
   cases hy : s.env.isType t.text with
   | false =>
     rw [if_pos ⟨hk, hy⟩] at hr
     rw [hy] at HT
     go_wp2_with fail
     refine (HT.out).mono ?_
     rintro e w15 ⟨rfl, hb15⟩
     replace C := Hd (C.out.below hb15)
     obtain ⟨rfl, rfl⟩ := Prod.mk.inj (Option.some.inj hr)
     obtain rfl := ht.out
     have HL := Hd (rLeaf_any C.out.ps (⟨#[110,97,109,101]⟩ : ByteArray) (by rw [hk]; decide))
     go_wp2_with fail
     refine (HL.out).mono ?_
     rintro e w20 ⟨rfl, h20, k20⟩
     replace C := Hd (C.out.call h20 k20)
     clear HL
     replace C := Hd (C.out.leafT s (⟨#[110,97,109,101]⟩ : ByteArray))
     have hcc := C.out.var (i := 1) rfl
     go_wp2_with (refine stN rfl rfl rfl rfl hcc rfl rfl (by simp [Value.oneCell']) ?_)
     refine retN rfl rfl rfl (setRow_heap _ _ _ _ _ _ hcc) rfl ?_
     exact ⟨_, _, rfl, (C.out.set (i := 1) rfl rfl _).out (.head _)⟩
   | true =>
     rw [if_neg (by rw [hy]; simp), if_neg (by rw [hk]; simp), if_neg (by rw [hk]; simp), if_neg (by rw [hk]; simp), if_neg (by rw [hk]; simp)] at hr
     rw [hy] at HT
     go_wp2_with fail
     refine (HT.out).mono ?_
     rintro e w15 ⟨rfl, hb15⟩
     replace C := Hd (C.out.below hb15)
     clear x0 x1 x2 x3 x4 x5 x6 xf HT
     obtain ⟨x0, x1, x2, x3, x4, x5, x6, xf⟩ := ct_box (C.out.var (i := 0) rfl)
     rw [hk] at x0
     cases p1 : hasW L s (⟨#[95,71,101,110,101,114,105,99]⟩ : ByteArray) with
     | true =>
       rw [p1, if_pos rfl] at hr
       replace hr := Hd hr
       have HH := Hd (rHasWord_any C.out.ps (⟨#[95,71,101,110,101,114,105,99]⟩ : ByteArray))
       rw [p1, if_pos rfl] at HH
       go_wp2_with fail
       refine (HH.out).mono ?_
       rintro e w16 ⟨rfl, h16, k16⟩
       replace C := Hd (C.out.call h16 k16)
       clear HH
       go_wp2_with fail
       refine (generic_any G C.out.ps hn hr.out).mono ?_
       rintro e w17 ⟨ao17, cap17, rfl, hn17, h17, k17⟩
       replace C := Hd (C.out.ret hn17 h17 k17)
       unfold ndV
       have hcc := C.out.var (i := 1) rfl
       go_wp2_with (refine stN rfl rfl rfl rfl hcc rfl rfl (by simp [Value.oneCell']) ?_)
       refine retN rfl rfl rfl (setRow_heap _ _ _ _ _ _ hcc) rfl ?_
       exact ⟨_, _, rfl, (C.out.set (i := 1) rfl rfl _).out (.head _)⟩
     | false =>
       rw [p1, if_neg (by simp)] at hr
       have HH := Hd (rHasWord_any C.out.ps (⟨#[95,71,101,110,101,114,105,99]⟩ : ByteArray))
       rw [p1, if_neg (by simp)] at HH
       go_wp2_with fail
       refine (HH.out).mono ?_
       rintro e w16 ⟨rfl, h16, k16⟩
       replace C := Hd (C.out.call h16 k16)
       clear HH
       cases p2 : hasP L s (⟨#[40]⟩ : ByteArray) with
       | false =>
         rw [p2, if_neg (by simp)] at hr
         obtain ⟨rfl, rfl⟩ := Prod.mk.inj (Option.some.inj hr)
         have HH := Hd (rHas_any C.out.ps (⟨#[40]⟩ : ByteArray))
         rw [p2, if_neg (by simp)] at HH
         go_wp2_with fail
         refine (HH.out).mono ?_
         rintro e w17 ⟨rfl, h17, k17⟩
         replace C := Hd (C.out.call h17 k17)
         clear HH
         go_wp2_with fail
         refine (rFail_any C.out.ps).mono ?_
         rintro e w18 ⟨rfl, h18, k18⟩
         replace C := Hd (C.out.call h18 k18)
         obtain ⟨q0, q1, q2, q3, q4, qf⟩ := nd_cells (C.out.var (i := 1) rfl)
         replace C := Hd (C.out.leaf eB eB 0 0)
         have hcc := C.out.var (i := 1) rfl
         go_wp2_with (refine stN rfl rfl rfl rfl hcc rfl rfl (by simp [Value.oneCell']) ?_)
         refine retN rfl rfl rfl (setRow_heap _ _ _ _ _ _ hcc) rfl ?_
         exact ⟨_, _, rfl, (C.out.set (i := 1) rfl rfl _).out (.head _)⟩
       | true =>
         rw [p2, if_pos rfl] at hr
         obtain ⟨⟨b, z⟩, hb1, hb2⟩ := Option.bind_eq_some_iff.1 hr
         simp only at hb2
         replace hb1 := Hd hb1
         replace hb2 := Hd hb2
         clear hr
         obtain ⟨rfl, rfl⟩ := Prod.mk.inj (Option.some.inj hb2.out)
         clear hb2
         have HH := Hd (rHas_any C.out.ps (⟨#[40]⟩ : ByteArray))
         rw [p2, if_pos rfl] at HH
         go_wp2_with fail
         refine (HH.out).mono ?_
         rintro e w17 ⟨rfl, h17, k17⟩
         replace C := Hd (C.out.call h17 k17)
         clear HH
         go_wp2_with fail
         refine (G.expr C.out.ps hn hb1.out).mono ?_
         rintro e w18 ⟨ao18, cap18, rfl, hn18, h18, k18⟩
         replace C := Hd (C.out.ret hn18 h18 k18)
         unfold ndV
         have hcc := C.out.var (i := 1) rfl
         replace C := Hd (C.out.set (i := 1) rfl rfl (rowA b ao18 cap18))
         go_wp2_with (refine stN rfl rfl rfl rfl hcc rfl rfl (by simp [Value.oneCell']) ?_)
         refine (rNeed_any C.out.ps (⟨#[41]⟩ : ByteArray)).mono ?_
         rintro e w19 ⟨rfl, h19, k19⟩
         replace C := Hd (C.out.call h19 k19)
         try clear c0 c1 c2 c3 cf
         obtain ⟨p4, he4, c0, c1, c2, c3, cf⟩ := C.out.ps.cells
         clear he4
         obtain ⟨b0, b1, b2, b3, b4, bf⟩ := nd_cells (C.out.var (i := 1) rfl)
         go_upto_region 17 with fail
         obtain ⟨i2, hi2⟩ : ∃ i2, i2 = (needP L z (⟨#[41]⟩ : ByteArray)).at_ := ⟨_, rfl⟩
         rw [← hi2] at c1
         replace hi2 := Hd hi2
         have hlt9 := C.out.ps.lt
         have hne9 : w.heap.size ≠ rb := by omega
         go_cut [] from 64 to 70 (fun wx => Hid (wx = ((w19.setCell ⟨w.heap.size, 2, none⟩ (.int .i64 s.at_)).setCell ⟨w.heap.size, 3, none⟩ (.int .i64 i2)).drew ∨ wx = ((w19.setCell ⟨w.heap.size, 3, none⟩ (.int .i64 i2)).setCell ⟨w.heap.size, 2, none⟩ (.int .i64 s.at_)).drew))
         case first =>
          go_region
          all_goals
           go_wp2_with fail
           go_meet
           case rel => first | exact Hd (.inl rfl) | exact Hd (.inr rfl)
         case rest =>
          have C2 : Hid (Cx L ta tc rb (fun _ => False) none w (needP L z (⟨#[41]⟩ : ByteArray)) [⟨b, ao18, cap18⟩] [(gt, ctO t), (w.heap.size, bxO (.mk b.kind b.text s.at_ i2 b.kids) ao18 cap18)] [] (.slice none 0 0) wc) := by
           rcases hcut.out with e | e
           ·rw [e]; exact Hd ((C.out.setc (i := 1) rfl (by decide) (by simp) 2 (.int .i64 s.at_)).setc (i := 1) rfl (by decide) (by simp) 3 (.int .i64 i2)).drew
           ·rw [e]; exact Hd ((C.out.setc (i := 1) rfl (by decide) (by simp) 3 (.int .i64 i2)).setc (i := 1) rfl (by decide) (by simp) 2 (.int .i64 s.at_)).drew
          try clear q0 q1 q2 q3 q4 qf
          try clear c0 c1 c2 c3 cf
          clear hcut
          replace C := Hd (C2.out.span (.head _) s.at_ i2)
          clear C2
          obtain ⟨q0, q1, q2, q3, q4, qf⟩ := nd_cells (C.out.var (i := 1) rfl)
          obtain rfl := hi2.out
          have hcc := C.out.var (i := 1) rfl
          go_wp2_with (refine stN rfl rfl rfl rfl hcc rfl rfl (by simp [Value.oneCell']) ?_)
          refine retN rfl rfl rfl (setRow_heap _ _ _ _ _ _ hcc) rfl ?_
          exact ⟨_, _, rfl, (C.out.set (i := 1) rfl rfl _).out (.head _)⟩
  ·rw [if_neg (fun e => hk e.1)] at hr
   have g1 : (t.kind == 1) = false := beq_false_of_ne hk
   by_cases hk3 : t.kind = 3
   ·rw [if_pos hk3] at hr
    rw [hk3] at x0
    obtain ⟨rfl, rfl⟩ := Prod.mk.inj (Option.some.inj hr)
    obtain rfl := ht.out
    have HL := Hd (rLeaf_any C.out.ps (⟨#[105,110,116]⟩ : ByteArray) (by rw [hk3]; decide))
    go_wp2_with fail
    refine (HL.out).mono ?_
    rintro e w20 ⟨rfl, h20, k20⟩
    replace C := Hd (C.out.call h20 k20)
    clear HL
    replace C := Hd (C.out.leafT s (⟨#[105,110,116]⟩ : ByteArray))
    have hcc := C.out.var (i := 1) rfl
    go_wp2_with (refine stN rfl rfl rfl rfl hcc rfl rfl (by simp [Value.oneCell']) ?_)
    refine retN rfl rfl rfl (setRow_heap _ _ _ _ _ _ hcc) rfl ?_
    exact ⟨_, _, rfl, (C.out.set (i := 1) rfl rfl _).out (.head _)⟩
   rw [if_neg hk3] at hr
   have g3 : (t.kind == 3) = false := beq_false_of_ne hk3
   by_cases hk4 : t.kind = 4
   ·rw [if_pos hk4] at hr
    rw [hk4] at x0
    obtain ⟨rfl, rfl⟩ := Prod.mk.inj (Option.some.inj hr)
    obtain rfl := ht.out
    have HL := Hd (rLeaf_any C.out.ps (⟨#[102,108,111,97,116]⟩ : ByteArray) (by rw [hk4]; decide))
    go_wp2_with fail
    refine (HL.out).mono ?_
    rintro e w20 ⟨rfl, h20, k20⟩
    replace C := Hd (C.out.call h20 k20)
    clear HL
    replace C := Hd (C.out.leafT s (⟨#[102,108,111,97,116]⟩ : ByteArray))
    have hcc := C.out.var (i := 1) rfl
    go_wp2_with (refine stN rfl rfl rfl rfl hcc rfl rfl (by simp [Value.oneCell']) ?_)
    refine retN rfl rfl rfl (setRow_heap _ _ _ _ _ _ hcc) rfl ?_
    exact ⟨_, _, rfl, (C.out.set (i := 1) rfl rfl _).out (.head _)⟩
   rw [if_neg hk4] at hr
   have g4 : (t.kind == 4) = false := beq_false_of_ne hk4
   by_cases hk5 : t.kind = 5
   ·rw [if_pos hk5] at hr
    rw [hk5] at x0
    obtain ⟨rfl, rfl⟩ := Prod.mk.inj (Option.some.inj hr)
    obtain rfl := ht.out
    have HL := Hd (rLeaf_any C.out.ps (⟨#[99,104,97,114]⟩ : ByteArray) (by rw [hk5]; decide))
    go_wp2_with fail
    refine (HL.out).mono ?_
    rintro e w20 ⟨rfl, h20, k20⟩
    replace C := Hd (C.out.call h20 k20)
    clear HL
    replace C := Hd (C.out.leafT s (⟨#[99,104,97,114]⟩ : ByteArray))
    have hcc := C.out.var (i := 1) rfl
    go_wp2_with (refine stN rfl rfl rfl rfl hcc rfl rfl (by simp [Value.oneCell']) ?_)
    refine retN rfl rfl rfl (setRow_heap _ _ _ _ _ _ hcc) rfl ?_
    exact ⟨_, _, rfl, (C.out.set (i := 1) rfl rfl _).out (.head _)⟩
   rw [if_neg hk5] at hr
   have g5 : (t.kind == 5) = false := beq_false_of_ne hk5
   by_cases hk6 : t.kind = 6
   ·rw [if_pos hk6] at hr
    rw [hk6] at x0
    obtain ⟨rfl, rfl⟩ := Prod.mk.inj (Option.some.inj hr)
    obtain rfl := ht.out
    have HL := Hd (rLeaf_any C.out.ps (⟨#[115,116,114,105,110,103]⟩ : ByteArray) (by rw [hk6]; decide))
    go_wp2_with fail
    refine (HL.out).mono ?_
    rintro e w20 ⟨rfl, h20, k20⟩
    replace C := Hd (C.out.call h20 k20)
    clear HL
    replace C := Hd (C.out.leafT s (⟨#[115,116,114,105,110,103]⟩ : ByteArray))
    have hcc := C.out.var (i := 1) rfl
    go_wp2_with (refine stN rfl rfl rfl rfl hcc rfl rfl (by simp [Value.oneCell']) ?_)
    refine retN rfl rfl rfl (setRow_heap _ _ _ _ _ _ hcc) rfl ?_
    exact ⟨_, _, rfl, (C.out.set (i := 1) rfl rfl _).out (.head _)⟩
   rw [if_neg hk6] at hr
   have g6 : (t.kind == 6) = false := beq_false_of_ne hk6
   cases p1 : hasW L s (⟨#[95,71,101,110,101,114,105,99]⟩ : ByteArray) with
   | true =>
     rw [p1, if_pos rfl] at hr
     replace hr := Hd hr
     have HH := Hd (rHasWord_any C.out.ps (⟨#[95,71,101,110,101,114,105,99]⟩ : ByteArray))
     rw [p1, if_pos rfl] at HH
     go_wp2_with fail
     refine (HH.out).mono ?_
     rintro e w16 ⟨rfl, h16, k16⟩
     replace C := Hd (C.out.call h16 k16)
     clear HH
     go_wp2_with fail
     refine (generic_any G C.out.ps hn hr.out).mono ?_
     rintro e w17 ⟨ao17, cap17, rfl, hn17, h17, k17⟩
     replace C := Hd (C.out.ret hn17 h17 k17)
     unfold ndV
     have hcc := C.out.var (i := 1) rfl
     go_wp2_with (refine stN rfl rfl rfl rfl hcc rfl rfl (by simp [Value.oneCell']) ?_)
     refine retN rfl rfl rfl (setRow_heap _ _ _ _ _ _ hcc) rfl ?_
     exact ⟨_, _, rfl, (C.out.set (i := 1) rfl rfl _).out (.head _)⟩
   | false =>
     rw [p1, if_neg (by simp)] at hr
     have HH := Hd (rHasWord_any C.out.ps (⟨#[95,71,101,110,101,114,105,99]⟩ : ByteArray))
     rw [p1, if_neg (by simp)] at HH
     go_wp2_with fail
     refine (HH.out).mono ?_
     rintro e w16 ⟨rfl, h16, k16⟩
     replace C := Hd (C.out.call h16 k16)
     clear HH
     cases p2 : hasP L s (⟨#[40]⟩ : ByteArray) with
     | false =>
       rw [p2, if_neg (by simp)] at hr
       obtain ⟨rfl, rfl⟩ := Prod.mk.inj (Option.some.inj hr)
       have HH := Hd (rHas_any C.out.ps (⟨#[40]⟩ : ByteArray))
       rw [p2, if_neg (by simp)] at HH
       go_wp2_with fail
       refine (HH.out).mono ?_
       rintro e w17 ⟨rfl, h17, k17⟩
       replace C := Hd (C.out.call h17 k17)
       clear HH
       go_wp2_with fail
       refine (rFail_any C.out.ps).mono ?_
       rintro e w18 ⟨rfl, h18, k18⟩
       replace C := Hd (C.out.call h18 k18)
       obtain ⟨q0, q1, q2, q3, q4, qf⟩ := nd_cells (C.out.var (i := 1) rfl)
       replace C := Hd (C.out.leaf eB eB 0 0)
       have hcc := C.out.var (i := 1) rfl
       go_wp2_with (refine stN rfl rfl rfl rfl hcc rfl rfl (by simp [Value.oneCell']) ?_)
       refine retN rfl rfl rfl (setRow_heap _ _ _ _ _ _ hcc) rfl ?_
       exact ⟨_, _, rfl, (C.out.set (i := 1) rfl rfl _).out (.head _)⟩
     | true =>
       rw [p2, if_pos rfl] at hr
       obtain ⟨⟨b, z⟩, hb1, hb2⟩ := Option.bind_eq_some_iff.1 hr
       simp only at hb2
       replace hb1 := Hd hb1
       replace hb2 := Hd hb2
       clear hr
       obtain ⟨rfl, rfl⟩ := Prod.mk.inj (Option.some.inj hb2.out)
       clear hb2
       have HH := Hd (rHas_any C.out.ps (⟨#[40]⟩ : ByteArray))
       rw [p2, if_pos rfl] at HH
       go_wp2_with fail
       refine (HH.out).mono ?_
       rintro e w17 ⟨rfl, h17, k17⟩
       replace C := Hd (C.out.call h17 k17)
       clear HH
       go_wp2_with fail
       refine (G.expr C.out.ps hn hb1.out).mono ?_
       rintro e w18 ⟨ao18, cap18, rfl, hn18, h18, k18⟩
       replace C := Hd (C.out.ret hn18 h18 k18)
       unfold ndV
       have hcc := C.out.var (i := 1) rfl
       replace C := Hd (C.out.set (i := 1) rfl rfl (rowA b ao18 cap18))
       go_wp2_with (refine stN rfl rfl rfl rfl hcc rfl rfl (by simp [Value.oneCell']) ?_)
       refine (rNeed_any C.out.ps (⟨#[41]⟩ : ByteArray)).mono ?_
       rintro e w19 ⟨rfl, h19, k19⟩
       replace C := Hd (C.out.call h19 k19)
       try clear c0 c1 c2 c3 cf
       obtain ⟨p4, he4, c0, c1, c2, c3, cf⟩ := C.out.ps.cells
       clear he4
       obtain ⟨b0, b1, b2, b3, b4, bf⟩ := nd_cells (C.out.var (i := 1) rfl)
       go_upto_region 17 with fail
       obtain ⟨i2, hi2⟩ : ∃ i2, i2 = (needP L z (⟨#[41]⟩ : ByteArray)).at_ := ⟨_, rfl⟩
       rw [← hi2] at c1
       replace hi2 := Hd hi2
       have hlt9 := C.out.ps.lt
       have hne9 : w.heap.size ≠ rb := by omega
       go_cut [] from 64 to 70 (fun wx => Hid (wx = ((w19.setCell ⟨w.heap.size, 2, none⟩ (.int .i64 s.at_)).setCell ⟨w.heap.size, 3, none⟩ (.int .i64 i2)).drew ∨ wx = ((w19.setCell ⟨w.heap.size, 3, none⟩ (.int .i64 i2)).setCell ⟨w.heap.size, 2, none⟩ (.int .i64 s.at_)).drew))
       case first =>
        go_region
        all_goals
         go_wp2_with fail
         go_meet
         case rel => first | exact Hd (.inl rfl) | exact Hd (.inr rfl)
       case rest =>
        have C2 : Hid (Cx L ta tc rb (fun _ => False) none w (needP L z (⟨#[41]⟩ : ByteArray)) [⟨b, ao18, cap18⟩] [(gt, ctO t), (w.heap.size, bxO (.mk b.kind b.text s.at_ i2 b.kids) ao18 cap18)] [] (.slice none 0 0) wc) := by
         rcases hcut.out with e | e
         ·rw [e]; exact Hd ((C.out.setc (i := 1) rfl (by decide) (by simp) 2 (.int .i64 s.at_)).setc (i := 1) rfl (by decide) (by simp) 3 (.int .i64 i2)).drew
         ·rw [e]; exact Hd ((C.out.setc (i := 1) rfl (by decide) (by simp) 3 (.int .i64 i2)).setc (i := 1) rfl (by decide) (by simp) 2 (.int .i64 s.at_)).drew
        try clear q0 q1 q2 q3 q4 qf
        try clear c0 c1 c2 c3 cf
        clear hcut
        replace C := Hd (C2.out.span (.head _) s.at_ i2)
        clear C2
        obtain ⟨q0, q1, q2, q3, q4, qf⟩ := nd_cells (C.out.var (i := 1) rfl)
        obtain rfl := hi2.out
        have hcc := C.out.var (i := 1) rfl
        go_wp2_with (refine stN rfl rfl rfl rfl hcc rfl rfl (by simp [Value.oneCell']) ?_)
        refine retN rfl rfl rfl (setRow_heap _ _ _ _ _ _ hcc) rfl ?_
        exact ⟨_, _, rfl, (C.out.set (i := 1) rfl rfl _).out (.head _)⟩
end Go.Proofs.YtllbbacnakoomaaGreatDoor
