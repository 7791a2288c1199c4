/- Texts of this seat's proofs, laid into one file. -/
import Derived.Test.YtllbbacnakoomaaGreatDoorS23
set_option maxRecDepth 100000
set_option maxHeartbeats 16000000
namespace Go.Proofs.YtllbbacnakoomaaGreatDoor
open Go.RowKit
set_option linter.unusedVariables false
theorem postfix_any {L : List Ct} {ta : Option Addr} {tc rb : Nat} {R : Rec} (G : Good L ta tc rb R) {w : World} {s : Ps} {f : T} {ao : Option Addr} {cap nest : Nat} {n : T} {s' : Ps} {H : Nat → Prop} (h : PS L ta tc rb s w) (hH : ¬ H rb) (hf : Rep w H f (ndC f ao cap)) (hn : nest ≤ 1000) (hr : postF L R f nest s = some (n, s')) :
 Calls Tryz.prog 258 #[.pointer (some ⟨rb, 0, none⟩), ndV f ao cap, .int .i64 nest] w (NdRetF L ta tc rb H w n s') := by
 have C := Hd (((Cx.startN h hH (ns := [⟨f, ao, cap⟩]) (by intro x hx; simp at hx; subst hx; exact hf)).alloc (bxO f ao cap) (a := w.heap.size) rfl).alloc nzO (a := w.heap.size + 1) (by simp))
 have hlt := h.lt
 unfold postF at hr
 unfold ndV
 replace hr := Hd hr
 go_enter Tryz.func258, Tryz.ntmps258
 go_wp2_with fail
 go_loopg [] KK (fun q wx => ∃ (m : T) (z : Ps) (ao1 : Option Addr) (cap1 : Nat), Hid (Cx L ta tc rb (fun k => H k ∧ k < w.heap.size) none w z [⟨m, ao1, cap1⟩] [(w.heap.size + 1, nzO), (w.heap.size, bxO m ao1 cap1)] [] (.slice none 0 0) wx) ∧ Hid (postLoop L R nest q m z = some (n, s')))
 case atStart => exact ⟨_, _, _, _, C, hr⟩
 case round =>
  have Cx := C
  clear Cx C hr
  obtain ⟨m, z, ao1, cap1, C, hL⟩ := hrel
  obtain ⟨w4, hw4⟩ : ∃ w4, w4 = wr := ⟨_, rfl⟩
  subst hw4
  cases gk with
  | zero => exact absurd hL.out (by simp [postLoop])
  | succ gk =>
    have hL2 := hL.out
    unfold postLoop at hL2
    obtain ⟨p4, he4, c0, c1, c2, c3, cf⟩ := C.out.ps.cells
    clear he4 c0 c1 c2
    cases hbad : z.bad with
    | true =>
      rw [if_pos hbad] at hL2
      obtain ⟨rfl, rfl⟩ := Prod.mk.inj (Option.some.inj hL2)
      clear hL2
      rw [hbad] at c3
      obtain ⟨q0, q1, q2, q3, q4, qf⟩ := nd_cells (C.out.var (i := 1) rfl)
      have hcc := C.out.var (i := 0) rfl
      go_wp2_with (refine stN rfl rfl rfl rfl hcc rfl rfl (by simp [Value.oneCell']) ?_)
      refine retN rfl rfl rfl (setRow_heap _ _ _ _ _ _ hcc) rfl ?_
      exact ⟨_, _, rfl, (C.out.set (i := 0) rfl rfl _).outF (.head _)⟩
    | false =>
      rw [if_neg (by rw [hbad]; simp)] at hL2
      rw [hbad] at c3
      replace hbad := Hd hbad
      obtain ⟨t, ht⟩ : ∃ t, t = tokP L z.at_ := ⟨_, rfl⟩
      have HT := Hd (tok_any C.out.ps)
      rw [← ht] at HT
      unfold ctV at HT
      replace ht := Hd ht
      go_wp2_with fail
      refine (HT.out).mono ?_
      rintro e w5 ⟨rfl, hb5⟩
      replace C := Hd (C.out.below hb5)
      clear HT
      replace C := Hd (C.out.alloc (ctO t) (a := w5.heap.size) rfl)
      clear c3
      cases p1 : isP L z (⟨#[91]⟩ : ByteArray) with
      | true =>
        rw [p1, if_pos rfl] at hL2
        obtain ⟨⟨b, z2⟩, hb1, hb2⟩ := Option.bind_eq_some_iff.1 hL2
        simp only at hb2
        replace hb1 := Hd hb1
        replace hb2 := Hd hb2
        clear hL2
        have HH := Hd (rHas_any C.out.ps (⟨#[91]⟩ : ByteArray))
        rw [hasP_ok hbad.out, p1, if_pos rfl] at HH
        go_wp2_with fail
        refine (HH.out).mono ?_
        rintro e w6 ⟨rfl, h6, k6⟩
        replace C := Hd (C.out.call h6 k6)
        clear HH
        go_wp2_with fail
        refine (G.expr C.out.ps hn hb1.out).mono ?_
        rintro e w7 ⟨ao7, cap7, rfl, hn7, h7, k7⟩
        replace C := Hd (C.out.ret hn7 h7 k7)
        unfold ndV
        replace C := Hd (C.out.alloc (bxO b ao7 cap7) (a := w7.heap.size) rfl)
        go_wp2_with fail
        refine (rNeed_any C.out.ps (⟨#[93]⟩ : ByteArray)).mono ?_
        rintro e w8 ⟨rfl, h8, k8⟩
        replace C := Hd (C.out.call h8 k8)
        obtain ⟨b0, b1, b2, b3, b4, bf⟩ := nd_cells (C.out.var (i := 0) rfl)
        obtain ⟨q0, q1, q2, q3, q4, qf⟩ := nd_cells (C.out.var (i := 3) rfl)
        replace C := Hd (C.out.lit [⟨m, ao1, cap1⟩, ⟨b, ao7, cap7⟩] (by simp) (by simp) rfl (a := w8.heap.size) rfl (n := 2) rfl)
        go_wp2_with fail
        refine (rMake_any C.out.ps (⟨#[105,110,100,101,120]⟩ : ByteArray) ⟨#[]⟩ m.from_ _ _ _).mono ?_
        rintro e w9 ⟨rfl, hb9⟩
        replace C := Hd (C.out.made hb9 (by simp) (⟨#[105,110,100,101,120]⟩ : ByteArray) ⟨#[]⟩ m.from_)
        clear b0 b1 b2 b3 b4 bf q0 q1 q2 q3 q4 qf
        have hcc := C.out.var (i := 3) rfl
        go_wp2_with (refine stN rfl rfl rfl rfl hcc rfl rfl (by simp [Value.oneCell']) ?_)
        go_roundg gk
        case measure => omega
        case rel => exact ⟨_, _, _, _, Hd ((C.out.set (i := 3) rfl rfl _).weak mem1 (((List.Sublist.refl _).cons _).cons _)), hb2⟩
      | false =>
        rw [p1, if_neg (by simp)] at hL2
        have HH := Hd (rHas_any C.out.ps (⟨#[91]⟩ : ByteArray))
        rw [hasP_ok hbad.out, p1, if_neg (by simp)] at HH
        go_wp2_with fail
        refine (HH.out).mono ?_
        rintro e w6 ⟨rfl, h6, k6⟩
        replace C := Hd (C.out.call h6 k6)
        clear HH
        cases p2 : isP L z (⟨#[40]⟩ : ByteArray) with
        | true =>
          rw [p2, if_pos rfl] at hL2
          obtain ⟨⟨b, z2⟩, hb1, hb2⟩ := Option.bind_eq_some_iff.1 hL2
          simp only at hb2
          replace hb1 := Hd hb1
          replace hb2 := Hd hb2
          clear hL2
          have HH := Hd (rHas_any C.out.ps (⟨#[40]⟩ : ByteArray))
          rw [hasP_ok hbad.out, p2, if_pos rfl] at HH
          go_wp2_with fail
          refine (HH.out).mono ?_
          rintro e w7 ⟨rfl, h7, k7⟩
          replace C := Hd (C.out.call h7 k7)
          clear HH
          obtain ⟨q0, q1, q2, q3, q4, qf⟩ := nd_cells (C.out.var (i := 2) rfl)
          have HC := Hd (call_any G C.out.ps C.out.nrb (C.out.nok _ (.head _)) hn hb1.out)
          unfold ndV at HC
          go_wp2_with fail
          refine (HC.out).mono ?_
          rintro e w8 ⟨ao8, cap8, rfl, hn8, h8, k8⟩
          replace C := Hd (C.out.retF hn8 h8 k8)
          unfold ndV
          clear q0 q1 q2 q3 q4 qf HC
          have hcc := C.out.var (i := 2) rfl
          go_wp2_with (refine stN rfl rfl rfl rfl hcc rfl rfl (by simp [Value.oneCell']) ?_)
          go_roundg gk
          case measure => omega
          case rel => exact ⟨_, _, _, _, Hd ((C.out.set (i := 2) rfl rfl _).weak mem1 ((List.Sublist.refl _).cons _)), hb2⟩
        | false =>
          rw [p2, if_neg (by simp)] at hL2
          have HH := Hd (rHas_any C.out.ps (⟨#[40]⟩ : ByteArray))
          rw [hasP_ok hbad.out, p2, if_neg (by simp)] at HH
          go_wp2_with fail
          refine (HH.out).mono ?_
          rintro e w7 ⟨rfl, h7, k7⟩
          replace C := Hd (C.out.call h7 k7)
          clear HH
          by_cases p3 : (isP L z (⟨#[46]⟩ : ByteArray) || isP L z (⟨#[45,62]⟩ : ByteArray)) = true
          ·rw [p3, if_pos rfl] at hL2
           rw [← ht.out] at hL2
           replace hL2 := Hd hL2
           cases p4 : isP L z (⟨#[46]⟩ : ByteArray) with
           | true =>
             have HH := Hd (rHas_any C.out.ps (⟨#[46]⟩ : ByteArray))
             rw [hasP_ok hbad.out, p4, if_pos rfl] at HH
             go_wp2_with fail
             refine (HH.out).mono ?_
             rintro e w8 ⟨rfl, h8, k8⟩
             replace C := Hd (C.out.call h8 k8)
             clear HH
             obtain ⟨x, hx⟩ : ∃ x, x = (identP L (z.up 1) eB).1 := ⟨_, rfl⟩
             obtain ⟨z2, hz2⟩ : ∃ z2, z2 = (identP L (z.up 1) eB).2 := ⟨_, rfl⟩
             have HI := Hd (rIdent_any C.out.ps eB)
             have hsz1 := C.out.ps.txt z.at_
             have hsz2 := C.out.ps.itxt (z.up 1) eB
             rw [← ht.out] at hsz1
             rw [← hx] at hsz2
             have hcat : t.text.size + x.text.size ≤ 9223372036854775807 := by omega
             have hcat2 : ¬ 9223372036854775807 < t.text.size + x.text.size := by omega
             clear hsz1 hsz2
             rw [← hx, ← hz2] at HI
             rw [← hx, ← hz2] at hL2
             replace hx := Hd hx
             replace hz2 := Hd hz2
             unfold lfV at HI
             go_wp2_with fail
             refine (HI.out).mono ?_
             rintro e w20 ⟨rfl, h20, k20⟩
             replace C := Hd (C.out.call h20 k20)
             clear HI
             replace C := Hd (C.out.alloc (lfO x) (a := w20.heap.size) rfl)
             obtain ⟨x0, x1, x2, x3, x4, x5, x6, xf⟩ := ct_box (C.out.var (i := 1) rfl)
             obtain ⟨q0, q1, q2, q3, q4, qf⟩ := nd_cells (C.out.var (i := 3) rfl)
             obtain ⟨b0, b1, b2, b3, b4, bf⟩ := nd_cells (C.out.var (i := 0) rfl)
             replace C := Hd (C.out.lit [⟨m, ao1, cap1⟩] (by simp) (by simp) rfl (a := w20.heap.size + 1) (by simp) (n := 1) rfl)
             go_wp2_with fail
             refine (rMake_any C.out.ps (⟨#[109,101,109,98,101,114]⟩ : ByteArray) (t.text ++ x.text) m.from_ _ _ _).mono ?_
             rintro e w21 ⟨rfl, hb21⟩
             replace C := Hd (C.out.made hb21 (by simp) (⟨#[109,101,109,98,101,114]⟩ : ByteArray) (t.text ++ x.text) m.from_)
             clear x0 x1 x2 x3 x4 x5 x6 xf q0 q1 q2 q3 q4 qf b0 b1 b2 b3 b4 bf
             have hcc := C.out.var (i := 3) rfl
             go_wp2_with (refine stN rfl rfl rfl rfl hcc rfl rfl (by simp [Value.oneCell']) ?_)
             go_roundg gk
             case measure => omega
             case rel => exact ⟨_, _, _, _, Hd ((C.out.set (i := 3) rfl rfl _).weak mem1 (((List.Sublist.refl _).cons _).cons _)), hL2⟩
           | false =>
             rw [p4, Bool.false_or] at p3
             have HH := Hd (rHas_any C.out.ps (⟨#[46]⟩ : ByteArray))
             rw [hasP_ok hbad.out, p4, if_neg (by simp)] at HH
             go_wp2_with fail
             refine (HH.out).mono ?_
             rintro e w8 ⟨rfl, h8, k8⟩
             replace C := Hd (C.out.call h8 k8)
             clear HH
             have HH := Hd (rHas_any C.out.ps (⟨#[45,62]⟩ : ByteArray))
             rw [hasP_ok hbad.out, p3, if_pos rfl] at HH
             go_wp2_with fail
             refine (HH.out).mono ?_
             rintro e w9 ⟨rfl, h9, k9⟩
             replace C := Hd (C.out.call h9 k9)
             clear HH
             obtain ⟨x, hx⟩ : ∃ x, x = (identP L (z.up 1) eB).1 := ⟨_, rfl⟩
             obtain ⟨z2, hz2⟩ : ∃ z2, z2 = (identP L (z.up 1) eB).2 := ⟨_, rfl⟩
             have HI := Hd (rIdent_any C.out.ps eB)
             have hsz1 := C.out.ps.txt z.at_
             have hsz2 := C.out.ps.itxt (z.up 1) eB
             rw [← ht.out] at hsz1
             rw [← hx] at hsz2
             have hcat : t.text.size + x.text.size ≤ 9223372036854775807 := by omega
             have hcat2 : ¬ 9223372036854775807 < t.text.size + x.text.size := by omega
             clear hsz1 hsz2
             rw [← hx, ← hz2] at HI
             rw [← hx, ← hz2] at hL2
             replace hx := Hd hx
             replace hz2 := Hd hz2
             unfold lfV at HI
             go_wp2_with fail
             refine (HI.out).mono ?_
             rintro e w20 ⟨rfl, h20, k20⟩
             replace C := Hd (C.out.call h20 k20)
             clear HI
             replace C := Hd (C.out.alloc (lfO x) (a := w20.heap.size) rfl)
             obtain ⟨x0, x1, x2, x3, x4, x5, x6, xf⟩ := ct_box (C.out.var (i := 1) rfl)
             obtain ⟨q0, q1, q2, q3, q4, qf⟩ := nd_cells (C.out.var (i := 3) rfl)
             obtain ⟨b0, b1, b2, b3, b4, bf⟩ := nd_cells (C.out.var (i := 0) rfl)
             replace C := Hd (C.out.lit [⟨m, ao1, cap1⟩] (by simp) (by simp) rfl (a := w20.heap.size + 1) (by simp) (n := 1) rfl)
             go_wp2_with fail
             refine (rMake_any C.out.ps (⟨#[109,101,109,98,101,114]⟩ : ByteArray) (t.text ++ x.text) m.from_ _ _ _).mono ?_
             rintro e w21 ⟨rfl, hb21⟩
             replace C := Hd (C.out.made hb21 (by simp) (⟨#[109,101,109,98,101,114]⟩ : ByteArray) (t.text ++ x.text) m.from_)
             clear x0 x1 x2 x3 x4 x5 x6 xf q0 q1 q2 q3 q4 qf b0 b1 b2 b3 b4 bf
             have hcc := C.out.var (i := 3) rfl
             go_wp2_with (refine stN rfl rfl rfl rfl hcc rfl rfl (by simp [Value.oneCell']) ?_)
             go_roundg gk
             case measure => omega
             case rel => exact ⟨_, _, _, _, Hd ((C.out.set (i := 3) rfl rfl _).weak mem1 (((List.Sublist.refl _).cons _).cons _)), hL2⟩
          ·rw [if_neg p3] at hL2
           simp only [Bool.not_eq_true, Bool.or_eq_false_iff] at p3
           have HH := Hd (rHas_any C.out.ps (⟨#[46]⟩ : ByteArray))
           rw [hasP_ok hbad.out, p3.1, if_neg (by simp)] at HH
           go_wp2_with fail
           refine (HH.out).mono ?_
           rintro e w8 ⟨rfl, h8, k8⟩
           replace C := Hd (C.out.call h8 k8)
           clear HH
           have HH := Hd (rHas_any C.out.ps (⟨#[45,62]⟩ : ByteArray))
           rw [hasP_ok hbad.out, p3.2, if_neg (by simp)] at HH
           go_wp2_with fail
           refine (HH.out).mono ?_
           rintro e w9 ⟨rfl, h9, k9⟩
           replace C := Hd (C.out.call h9 k9)
           clear HH
           by_cases p5 : (isP L z (⟨#[43,43]⟩ : ByteArray) || isP L z (⟨#[45,45]⟩ : ByteArray)) = true
           ·rw [p5, if_pos rfl, ← ht.out] at hL2
            replace hL2 := Hd hL2
            cases p6 : isP L z (⟨#[43,43]⟩ : ByteArray) with
            | true =>
              have HH := Hd (rHas_any C.out.ps (⟨#[43,43]⟩ : ByteArray))
              rw [hasP_ok hbad.out, p6, if_pos rfl] at HH
              go_wp2_with fail
              refine (HH.out).mono ?_
              rintro e w10 ⟨rfl, h10, k10⟩
              replace C := Hd (C.out.call h10 k10)
              clear HH
              obtain ⟨x0, x1, x2, x3, x4, x5, x6, xf⟩ := ct_box (C.out.var (i := 0) rfl)
              obtain ⟨q0, q1, q2, q3, q4, qf⟩ := nd_cells (C.out.var (i := 2) rfl)
              replace C := Hd (C.out.lit [⟨m, ao1, cap1⟩] (by simp) (by simp) rfl (a := w10.heap.size) rfl (n := 1) rfl)
              go_wp2_with fail
              refine (rMake_any C.out.ps (⟨#[112,111,115,116]⟩ : ByteArray) t.text m.from_ _ _ _).mono ?_
              rintro e w20 ⟨rfl, hb20⟩
              replace C := Hd (C.out.made hb20 (by simp) (⟨#[112,111,115,116]⟩ : ByteArray) t.text m.from_)
              clear x0 x1 x2 x3 x4 x5 x6 xf q0 q1 q2 q3 q4 qf
              have hcc := C.out.var (i := 2) rfl
              go_wp2_with (refine stN rfl rfl rfl rfl hcc rfl rfl (by simp [Value.oneCell']) ?_)
              go_roundg gk
              case measure => omega
              case rel => exact ⟨_, _, _, _, Hd ((C.out.set (i := 2) rfl rfl _).weak mem1 ((List.Sublist.refl _).cons _)), hL2⟩
            | false =>
              rw [p6, Bool.false_or] at p5
              have HH := Hd (rHas_any C.out.ps (⟨#[43,43]⟩ : ByteArray))
              rw [hasP_ok hbad.out, p6, if_neg (by simp)] at HH
              go_wp2_with fail
              refine (HH.out).mono ?_
              rintro e w10 ⟨rfl, h10, k10⟩
              replace C := Hd (C.out.call h10 k10)
              clear HH
              have HH := Hd (rHas_any C.out.ps (⟨#[45,45]⟩ : ByteArray))
              rw [hasP_ok hbad.out, p5, if_pos rfl] at HH
              go_wp2_with fail
              refine (HH.out).mono ?_
              rintro e w11 ⟨rfl, h11, k11⟩
              replace C := Hd (C.out.call h11 k11)
              clear HH
              obtain ⟨x0, x1, x2, x3, x4, x5, x6, xf⟩ := ct_box (C.out.var (i := 0) rfl)
              obtain ⟨q0, q1, q2, q3, q4, qf⟩ := nd_cells (C.out.var (i := 2) rfl)
              replace C := Hd (C.out.lit [⟨m, ao1, cap1⟩] (by simp) (by simp) rfl (a := w11.heap.size) rfl (n := 1) rfl)
              go_wp2_with fail
              refine (rMake_any C.out.ps (⟨#[112,111,115,116]⟩ : ByteArray) t.text m.from_ _ _ _).mono ?_
              rintro e w20 ⟨rfl, hb20⟩
              replace C := Hd (C.out.made hb20 (by simp) (⟨#[112,111,115,116]⟩ : ByteArray) t.text m.from_)
              clear x0 x1 x2 x3 x4 x5 x6 xf q0 q1 q2 q3 q4 qf
              have hcc := C.out.var (i := 2) rfl
              go_wp2_with (refine stN rfl rfl rfl rfl hcc rfl rfl (by simp [Value.oneCell']) ?_)
              go_roundg gk
              case measure => omega
              case rel => exact ⟨_, _, _, _, Hd ((C.out.set (i := 2) rfl rfl _).weak mem1 ((List.Sublist.refl _).cons _)), hL2⟩
           ·rw [if_neg p5] at hL2
            obtain ⟨rfl, rfl⟩ := Prod.mk.inj (Option.some.inj hL2)
            clear hL2
            simp only [Bool.not_eq_true, Bool.or_eq_false_iff] at p5
            have HH := Hd (rHas_any C.out.ps (⟨#[43,43]⟩ : ByteArray))
            rw [hasP_ok hbad.out, p5.1, if_neg (by simp)] at HH
            go_wp2_with fail
            refine (HH.out).mono ?_
            rintro e w10 ⟨rfl, h10, k10⟩
            replace C := Hd (C.out.call h10 k10)
            clear HH
            have HH := Hd (rHas_any C.out.ps (⟨#[45,45]⟩ : ByteArray))
            rw [hasP_ok hbad.out, p5.2, if_neg (by simp)] at HH
            go_wp2_with fail
            refine (HH.out).mono ?_
            rintro e w11 ⟨rfl, h11, k11⟩
            replace C := Hd (C.out.call h11 k11)
            clear HH
            obtain ⟨q0, q1, q2, q3, q4, qf⟩ := nd_cells (C.out.var (i := 2) rfl)
            have hcc := C.out.var (i := 1) rfl
            go_wp2_with (refine stN rfl rfl rfl rfl hcc rfl rfl (by simp [Value.oneCell']) ?_)
            refine retN rfl rfl rfl (setRow_heap _ _ _ _ _ _ hcc) rfl ?_
            exact ⟨_, _, rfl, (C.out.set (i := 1) rfl rfl _).outF (.head _)⟩
end Go.Proofs.YtllbbacnakoomaaGreatDoor
namespace Go.Proofs.YtllbbacnakoomaaGreatDoor
open Go.RowKit
set_option linter.unusedVariables false
theorem literal_any {L : List Ct} {ta : Option Addr} {tc rb : Nat} {R : Rec} (G : Good L ta tc rb R) {w : World} {s : Ps} {fro : Int} {f : T} {ao : Option Addr} {cap nest : Nat} {n : T} {s' : Ps} {H : Nat → Prop} (h : PS L ta tc rb s w) (hH : ¬ H rb) (hf : Rep w H f (ndC f ao cap)) (hn : nest ≤ 1000) (hr : literalF L R fro f nest s = some (n, s')) :
 Calls Tryz.prog 251 #[.pointer (some ⟨rb, 0, none⟩), .int .i64 fro, ndV f ao cap, .int .i64 nest] w (NdRetF L ta tc rb H w n s') := by
 have C := Hd (((Cx.startN h hH (ns := [⟨f, ao, cap⟩]) (by intro x hx; simp at hx; subst hx; exact hf)).alloc (bxO f ao cap) (a := w.heap.size) rfl).alloc nzO (a := w.heap.size + 1) (by simp))
 have hlt := h.lt
 unfold literalF at hr
 unfold ndV
 have HI := Hd (rIs_any C.out.ps (⟨#[123]⟩ : ByteArray))
 obtain ⟨⟨b, z⟩, hb1, hb2⟩ := Option.bind_eq_some_iff.1 hr
 simp only at hb2
 replace hb1 := Hd hb1
 replace hb2 := Hd hb2
 clear hr
 cases p1 : isP L s (⟨#[123]⟩ : ByteArray) with
 | true =>
   rw [p1] at HI
   rw [p1, if_pos rfl] at hb1
   go_enter Tryz.func251, Tryz.ntmps251
   go_wp2_with fail
   refine (HI.out).mono ?_
   rintro e w5 ⟨rfl, hb5⟩
   replace C := Hd (C.out.below hb5)
   go_wp2_with fail
   refine (G.init C.out.ps hn hb1.out).mono ?_
   rintro e w7 ⟨ao7, cap7, rfl, hn7, h7, k7⟩
   replace C := Hd (C.out.ret hn7 h7 k7)
   unfold ndV
   replace C := Hd (C.out.alloc (bxO b ao7 cap7) (a := w7.heap.size) rfl)
   obtain ⟨b0, b1, b2, b3, b4, bf⟩ := nd_cells (C.out.var (i := 0) rfl)
   obtain ⟨q0, q1, q2, q3, q4, qf⟩ := nd_cells (C.out.var (i := 2) rfl)
   replace C := Hd (C.out.lit [⟨f, ao, cap⟩, ⟨b, ao7, cap7⟩] (by simp) (by simp) rfl (a := w7.heap.size + 1) (by simp) (n := 2) rfl)
   go_wp2_with fail
   refine (rMake_any C.out.ps (⟨#[108,105,116,101,114,97,108]⟩ : ByteArray) ⟨#[]⟩ fro _ _ _).mono ?_
   rintro e w9 ⟨rfl, hb9⟩
   replace C := Hd (C.out.made hb9 (by simp) (⟨#[108,105,116,101,114,97,108]⟩ : ByteArray) ⟨#[]⟩ fro)
   clear b0 b1 b2 b3 b4 bf q0 q1 q2 q3 q4 qf
   go_wp2_with fail
   refine (postfix_any G C.out.ps C.out.nrb (C.out.nok _ (.head _)) hn hb2.out).mono ?_
   rintro e w10 ⟨ao10, cap10, rfl, hn10, h10, k10⟩
   replace C := Hd (C.out.retF hn10 h10 k10)
   unfold ndV
   have hcc := C.out.var (i := 1) rfl
   go_wp2_with (refine stN rfl rfl rfl rfl hcc rfl rfl (by simp [Value.oneCell']) ?_)
   refine retN rfl rfl rfl (setRow_heap _ _ _ _ _ _ hcc) rfl ?_
   exact ⟨_, _, rfl, (C.out.set (i := 1) rfl rfl _).outF (.head _)⟩
 | false =>
   rw [p1] at HI
   rw [p1, if_neg (by simp)] at hb1
   go_enter Tryz.func251, Tryz.ntmps251
   go_wp2_with fail
   refine (HI.out).mono ?_
   rintro e w5 ⟨rfl, hb5⟩
   replace C := Hd (C.out.below hb5)
   go_wp2_with fail
   refine (rFail_any C.out.ps).mono ?_
   rintro e w6 ⟨rfl, h6, k6⟩
   replace C := Hd (C.out.call h6 k6)
   go_wp2_with fail
   refine (G.init C.out.ps hn hb1.out).mono ?_
   rintro e w7 ⟨ao7, cap7, rfl, hn7, h7, k7⟩
   replace C := Hd (C.out.ret hn7 h7 k7)
   unfold ndV
   replace C := Hd (C.out.alloc (bxO b ao7 cap7) (a := w7.heap.size) rfl)
   obtain ⟨b0, b1, b2, b3, b4, bf⟩ := nd_cells (C.out.var (i := 0) rfl)
   obtain ⟨q0, q1, q2, q3, q4, qf⟩ := nd_cells (C.out.var (i := 2) rfl)
   replace C := Hd (C.out.lit [⟨f, ao, cap⟩, ⟨b, ao7, cap7⟩] (by simp) (by simp) rfl (a := w7.heap.size + 1) (by simp) (n := 2) rfl)
   go_wp2_with fail
   refine (rMake_any C.out.ps (⟨#[108,105,116,101,114,97,108]⟩ : ByteArray) ⟨#[]⟩ fro _ _ _).mono ?_
   rintro e w9 ⟨rfl, hb9⟩
   replace C := Hd (C.out.made hb9 (by simp) (⟨#[108,105,116,101,114,97,108]⟩ : ByteArray) ⟨#[]⟩ fro)
   clear b0 b1 b2 b3 b4 bf q0 q1 q2 q3 q4 qf
   go_wp2_with fail
   refine (postfix_any G C.out.ps C.out.nrb (C.out.nok _ (.head _)) hn hb2.out).mono ?_
   rintro e w10 ⟨ao10, cap10, rfl, hn10, h10, k10⟩
   replace C := Hd (C.out.retF hn10 h10 k10)
   unfold ndV
   have hcc := C.out.var (i := 1) rfl
   go_wp2_with (refine stN rfl rfl rfl rfl hcc rfl rfl (by simp [Value.oneCell']) ?_)
   refine retN rfl rfl rfl (setRow_heap _ _ _ _ _ _ hcc) rfl ?_
   exact ⟨_, _, rfl, (C.out.set (i := 1) rfl rfl _).outF (.head _)⟩
theorem cast_step {L : List Ct} {ta : Option Addr} {tc rb : Nat} {R : Rec} (G : Good L ta tc rb R) {w : World} {s : Ps} {nest : Nat} {n : T × Bool} {s' : Ps} (h : PS L ta tc rb s w) (hn : nest ≤ 1000) (hr : castF L R nest s = some (n, s')) :
 Calls Tryz.prog 234 #[.pointer (some ⟨rb, 0, none⟩), .int .i64 nest] w (NdRetB L ta tc rb w n s') := by
 have C := Hd ((Cx.start h).alloc nzO (a := w.heap.size) rfl)
 have hlt := h.lt
 unfold castF at hr
 try clear c0 c1 c2 c3 cf
 obtain ⟨p4, he4, c0, c1, c2, c3, cf⟩ := C.out.ps.cells
 clear he4
 cases hbad : s.bad with
 | true =>
   rw [if_pos (.inl hbad)] at hr
   obtain ⟨⟨m, z⟩, hr1, hr2⟩ := Option.bind_eq_some_iff.1 hr
   simp only at hr2
   replace hr1 := Hd hr1
   replace hr2 := Hd hr2
   clear hr
   obtain ⟨rfl, rfl⟩ := Prod.mk.inj (Option.some.inj hr2.out)
   clear hr2
   rw [hbad] at c3
   go_enter Tryz.func234, Tryz.ntmps234
   go_wp2_with fail
   refine (G.unary C.out.ps hn hr1.out).mono ?_
   rintro e w1 ⟨ao1, cap1, rfl, hn1, h1, k1⟩
   replace C := Hd (C.out.ret hn1 h1 k1)
   unfold ndV
   have hcc := C.out.var (i := 0) rfl
   go_wp2_with (refine stN rfl rfl rfl rfl hcc rfl rfl (by simp [Value.oneCell']) ?_)
   refine retT rfl rfl rfl (setRow_heap _ _ _ _ _ _ hcc) rfl ?_
   exact ⟨_, _, rfl, (C.out.set (i := 0) rfl rfl _).out (.head _)⟩
 | false =>
   rw [hbad] at c3
   have HB := Hd (bracketed_any C.out.ps)
   cases hbr : bracketedP L s with
   | false =>
     rw [if_pos (.inr hbr)] at hr
     rw [hbr] at HB
     obtain ⟨⟨m, z⟩, hr1, hr2⟩ := Option.bind_eq_some_iff.1 hr
     simp only at hr2
     replace hr1 := Hd hr1
     replace hr2 := Hd hr2
     clear hr
     obtain ⟨rfl, rfl⟩ := Prod.mk.inj (Option.some.inj hr2.out)
     clear hr2
     go_enter Tryz.func234, Tryz.ntmps234
     go_wp2_with fail
     refine (HB.out).mono ?_
     rintro e w1 ⟨rfl, hb1⟩
     replace C := Hd (C.out.below hb1)
     go_wp2_with fail
     refine (G.unary C.out.ps hn hr1.out).mono ?_
     rintro e w2 ⟨ao2, cap2, rfl, hn2, h2, k2⟩
     replace C := Hd (C.out.ret hn2 h2 k2)
     unfold ndV
     have hcc := C.out.var (i := 0) rfl
     go_wp2_with (refine stN rfl rfl rfl rfl hcc rfl rfl (by simp [Value.oneCell']) ?_)
     refine retT rfl rfl rfl (setRow_heap _ _ _ _ _ _ hcc) rfl ?_
     exact ⟨_, _, rfl, (C.out.set (i := 0) rfl rfl _).out (.head _)⟩
   | true =>
     rw [if_neg (by rw [hbad, hbr]; simp)] at hr
     rw [hbr] at HB
     obtain ⟨⟨t, z1⟩, hr1, hr2⟩ := Option.bind_eq_some_iff.1 hr
     simp only at hr2
     replace hr1 := Hd hr1
     replace hr2 := Hd hr2
     clear hr
     replace hbad := Hd hbad
     go_enter Tryz.func234, Tryz.ntmps234
     go_wp2_with fail
     refine (HB.out).mono ?_
     rintro e w1 ⟨rfl, hb1⟩
     replace C := Hd (C.out.below hb1)
     try clear c0 c1 c2 c3 cf
     obtain ⟨p4, he4, c0, c1, c2, c3, cf⟩ := C.out.ps.cells
     clear he4
     go_wp2_with fail
     refine (inBrackets_any G C.out.ps hn hr1.out).mono ?_
     rintro e w2 ⟨ao2, cap2, rfl, hn2, h2, k2⟩
     replace C := Hd (C.out.ret hn2 h2 k2)
     unfold ndV
     replace C := Hd (C.out.alloc (bxO t ao2 cap2) (a := w2.heap.size) rfl)
     try clear c0 c1 c2 c3 cf
     obtain ⟨p4, he4, c0, c1, c2, c3, cf⟩ := C.out.ps.cells
     clear he4
     have hr := hr2.out
     have HI := Hd (rIs_any C.out.ps (⟨#[123]⟩ : ByteArray))
     cases hb1 : z1.bad with
     | true =>
       rw [if_pos (.inl hb1)] at hr
       rw [hb1] at c3
       obtain ⟨⟨b, z⟩, hq1, hq2⟩ := Option.bind_eq_some_iff.1 hr
       simp only at hq2
       replace hq1 := Hd hq1
       replace hq2 := Hd hq2
       clear hr
       obtain ⟨rfl, rfl⟩ := Prod.mk.inj (Option.some.inj hq2.out)
       clear hq2
       obtain ⟨q0, q1, q2, q3, q4, qf⟩ := nd_cells (C.out.var (i := 0) rfl)
       go_wp2_with fail
       refine (literal_any G C.out.ps C.out.nrb (C.out.nok _ (.head _)) hn hq1.out).mono ?_
       rintro e w8 ⟨ao8, cap8, rfl, hn8, h8, k8⟩
       replace C := Hd (C.out.retF hn8 h8 k8)
       unfold ndV
       clear q0 q1 q2 q3 q4 qf
       have hcc := C.out.var (i := 1) rfl
       go_wp2_with (refine stN rfl rfl rfl rfl hcc rfl rfl (by simp [Value.oneCell']) ?_)
       refine retT rfl rfl rfl (setRow_heap _ _ _ _ _ _ hcc) rfl ?_
       exact ⟨_, _, rfl, (C.out.set (i := 1) rfl rfl _).out (.head _)⟩
     | false =>
       rw [hb1] at c3
       cases p1 : isP L z1 (⟨#[123]⟩ : ByteArray) with
       | true =>
         rw [if_pos (.inr p1)] at hr
         rw [p1] at HI
         go_wp2_with fail
         refine (HI.out).mono ?_
         rintro e w7 ⟨rfl, hb7⟩
         replace C := Hd (C.out.below hb7)
         obtain ⟨⟨b, z⟩, hq1, hq2⟩ := Option.bind_eq_some_iff.1 hr
         simp only at hq2
         replace hq1 := Hd hq1
         replace hq2 := Hd hq2
         clear hr
         obtain ⟨rfl, rfl⟩ := Prod.mk.inj (Option.some.inj hq2.out)
         clear hq2
         obtain ⟨q0, q1, q2, q3, q4, qf⟩ := nd_cells (C.out.var (i := 0) rfl)
         go_wp2_with fail
         refine (literal_any G C.out.ps C.out.nrb (C.out.nok _ (.head _)) hn hq1.out).mono ?_
         rintro e w8 ⟨ao8, cap8, rfl, hn8, h8, k8⟩
         replace C := Hd (C.out.retF hn8 h8 k8)
         unfold ndV
         clear q0 q1 q2 q3 q4 qf
         have hcc := C.out.var (i := 1) rfl
         go_wp2_with (refine stN rfl rfl rfl rfl hcc rfl rfl (by simp [Value.oneCell']) ?_)
         refine retT rfl rfl rfl (setRow_heap _ _ _ _ _ _ hcc) rfl ?_
         exact ⟨_, _, rfl, (C.out.set (i := 1) rfl rfl _).out (.head _)⟩
       | false =>
         rw [if_neg (by rw [hb1, p1]; simp)] at hr
         rw [p1] at HI
         obtain ⟨⟨b, z⟩, hq1, hq2⟩ := Option.bind_eq_some_iff.1 hr
         simp only at hq2
         replace hq1 := Hd hq1
         replace hq2 := Hd hq2
         clear hr
         obtain ⟨rfl, rfl⟩ := Prod.mk.inj (Option.some.inj hq2.out)
         clear hq2
         go_wp2_with fail
         refine (HI.out).mono ?_
         rintro e w7 ⟨rfl, hb7⟩
         replace C := Hd (C.out.below hb7)
         go_wp2_with fail
         refine (G.cast C.out.ps hn hq1.out).mono ?_
         rintro e w8 ⟨ao8, cap8, rfl, hn8, h8, k8⟩
         replace C := Hd (C.out.ret hn8 h8 k8)
         unfold ndV
         replace C := Hd (C.out.alloc (bxO b.1 ao8 cap8) (a := w8.heap.size) rfl)
         obtain ⟨b0, b1, b2, b3, b4, bf⟩ := nd_cells (C.out.var (i := 0) rfl)
         obtain ⟨q0, q1, q2, q3, q4, qf⟩ := nd_cells (C.out.var (i := 1) rfl)
         replace C := Hd (C.out.lit [⟨t, ao2, cap2⟩, ⟨b.1, ao8, cap8⟩] (by simp) (by simp) rfl (a := w8.heap.size + 1) (by simp) (n := 2) rfl)
         go_wp2_with fail
         refine (rMake_any C.out.ps (⟨#[99,97,115,116]⟩ : ByteArray) ⟨#[]⟩ s.at_ _ _ _).mono ?_
         rintro e w9 ⟨rfl, hb9⟩
         replace C := Hd (C.out.made hb9 (by simp) (⟨#[99,97,115,116]⟩ : ByteArray) ⟨#[]⟩ s.at_)
         clear b0 b1 b2 b3 b4 bf q0 q1 q2 q3 q4 qf
         have hcc := C.out.var (i := 2) rfl
         go_wp2_with (refine stN rfl rfl rfl rfl hcc rfl rfl (by simp [Value.oneCell']) ?_)
         refine retT rfl rfl rfl (setRow_heap _ _ _ _ _ _ hcc) rfl ?_
         exact ⟨_, _, rfl, (C.out.set (i := 2) rfl rfl _).out (.head _)⟩
end Go.Proofs.YtllbbacnakoomaaGreatDoor
namespace Go.Proofs.YtllbbacnakoomaaGreatDoor
open Go.RowKit
set_option linter.unusedVariables false
theorem size_any {L : List Ct} {ta : Option Addr} {tc rb : Nat} {R : Rec} (G : Good L ta tc rb R) {w : World} {s : Ps} {fro : Int} {nest : Nat} {n : T} {s' : Ps} (h : PS L ta tc rb s w) (hn : nest ≤ 1000) (hr : sizeF L R fro nest s = some (n, s')) :
 Calls Tryz.prog 257 #[.pointer (some ⟨rb, 0, none⟩), .int .i64 fro, .int .i64 nest] w (NdRet L ta tc rb w n s') := by
 have C := Hd ((Cx.start h).alloc nzO (a := w.heap.size) rfl)
 have hlt := h.lt
 unfold sizeF at hr
 have HB := Hd (bracketed_any C.out.ps)
 cases hbr : bracketedP L s with
 | false =>
   rw [if_pos hbr] at hr
   rw [hbr] at HB
   obtain ⟨⟨m, z⟩, hr1, hr2⟩ := Option.bind_eq_some_iff.1 hr
   simp only at hr2
   replace hr1 := Hd hr1
   replace hr2 := Hd hr2
   clear hr
   obtain ⟨rfl, rfl⟩ := Prod.mk.inj (Option.some.inj hr2.out)
   clear hr2
   go_enter Tryz.func257, Tryz.ntmps257
   go_wp2_with fail
   refine (HB.out).mono ?_
   rintro e w1 ⟨rfl, hb1⟩
   replace C := Hd (C.out.below hb1)
   go_wp2_with fail
   refine (G.unary C.out.ps hn hr1.out).mono ?_
   rintro e w2 ⟨ao2, cap2, rfl, hn2, h2, k2⟩
   replace C := Hd (C.out.ret hn2 h2 k2)
   unfold ndV
   replace C := Hd (C.out.alloc (bxO m ao2 cap2) (a := w2.heap.size) rfl)
   obtain ⟨b0, b1, b2, b3, b4, bf⟩ := nd_cells (C.out.var (i := 0) rfl)
   replace C := Hd (C.out.lit [⟨m, ao2, cap2⟩] (by simp) (by simp) rfl (a := w2.heap.size + 1) (by simp) (n := 1) rfl)
   go_wp2_with fail
   refine (rMake_any C.out.ps (⟨#[115,105,122,101,111,102]⟩ : ByteArray) ⟨#[]⟩ fro _ _ _).mono ?_
   rintro e w3 ⟨rfl, hb3⟩
   replace C := Hd (C.out.made hb3 (by simp) (⟨#[115,105,122,101,111,102]⟩ : ByteArray) ⟨#[]⟩ fro)
   clear b0 b1 b2 b3 b4 bf
   have hcc := C.out.var (i := 1) rfl
   go_wp2_with (refine stN rfl rfl rfl rfl hcc rfl rfl (by simp [Value.oneCell']) ?_)
   refine retN rfl rfl rfl (setRow_heap _ _ _ _ _ _ hcc) rfl ?_
   exact ⟨_, _, rfl, (C.out.set (i := 1) rfl rfl _).out (.head _)⟩
 | true =>
   rw [if_neg (by rw [hbr]; simp)] at hr
   rw [hbr] at HB
   obtain ⟨⟨t, z1⟩, hr1, hr2⟩ := Option.bind_eq_some_iff.1 hr
   simp only at hr2
   replace hr1 := Hd hr1
   replace hr2 := Hd hr2
   clear hr
   go_enter Tryz.func257, Tryz.ntmps257
   go_wp2_with fail
   refine (HB.out).mono ?_
   rintro e w1 ⟨rfl, hb1⟩
   replace C := Hd (C.out.below hb1)
   try clear c0 c1 c2 c3 cf
   obtain ⟨p4, he4, c0, c1, c2, c3, cf⟩ := C.out.ps.cells
   clear he4
   go_wp2_with fail
   refine (inBrackets_any G C.out.ps hn hr1.out).mono ?_
   rintro e w2 ⟨ao2, cap2, rfl, hn2, h2, k2⟩
   replace C := Hd (C.out.ret hn2 h2 k2)
   unfold ndV
   replace C := Hd (C.out.alloc (bxO t ao2 cap2) (a := w2.heap.size) rfl)
   try clear c0 c1 c2 c3 cf
   obtain ⟨p4, he4, c0, c1, c2, c3, cf⟩ := C.out.ps.cells
   clear he4
   have hr := hr2.out
   have HI := Hd (rIs_any C.out.ps (⟨#[123]⟩ : ByteArray))
   cases hb1 : z1.bad with
   | true =>
     rw [if_pos (.inl hb1)] at hr
     rw [hb1] at c3
     obtain ⟨rfl, rfl⟩ := Prod.mk.inj (Option.some.inj hr)
     obtain ⟨b0, b1, b2, b3, b4, bf⟩ := nd_cells (C.out.var (i := 0) rfl)
     replace C := Hd (C.out.lit [⟨t, ao2, cap2⟩] (by simp) (by simp) rfl (a := w2.heap.size + 1) (by simp) (n := 1) rfl)
     go_wp2_with fail
     refine (rMake_any C.out.ps (⟨#[115,105,122,101,111,102,116,121,112,101]⟩ : ByteArray) ⟨#[]⟩ fro _ _ _).mono ?_
     rintro e w3 ⟨rfl, hb3⟩
     replace C := Hd (C.out.made hb3 (by simp) (⟨#[115,105,122,101,111,102,116,121,112,101]⟩ : ByteArray) ⟨#[]⟩ fro)
     clear b0 b1 b2 b3 b4 bf
     have hcc := C.out.var (i := 1) rfl
     go_wp2_with (refine stN rfl rfl rfl rfl hcc rfl rfl (by simp [Value.oneCell']) ?_)
     refine retN rfl rfl rfl (setRow_heap _ _ _ _ _ _ hcc) rfl ?_
     exact ⟨_, _, rfl, (C.out.set (i := 1) rfl rfl _).out (.head _)⟩
   | false =>
     rw [hb1] at c3
     cases p1 : isP L z1 (⟨#[123]⟩ : ByteArray) with
     | false =>
       rw [if_pos (.inr p1)] at hr
       rw [p1] at HI
       obtain ⟨rfl, rfl⟩ := Prod.mk.inj (Option.some.inj hr)
       go_wp2_with fail
       refine (HI.out).mono ?_
       rintro e w7 ⟨rfl, hb7⟩
       replace C := Hd (C.out.below hb7)
       obtain ⟨b0, b1, b2, b3, b4, bf⟩ := nd_cells (C.out.var (i := 0) rfl)
       replace C := Hd (C.out.lit [⟨t, ao2, cap2⟩] (by simp) (by simp) rfl (a := w7.heap.size) rfl (n := 1) rfl)
       go_wp2_with fail
       refine (rMake_any C.out.ps (⟨#[115,105,122,101,111,102,116,121,112,101]⟩ : ByteArray) ⟨#[]⟩ fro _ _ _).mono ?_
       rintro e w3 ⟨rfl, hb3⟩
       replace C := Hd (C.out.made hb3 (by simp) (⟨#[115,105,122,101,111,102,116,121,112,101]⟩ : ByteArray) ⟨#[]⟩ fro)
       clear b0 b1 b2 b3 b4 bf
       have hcc := C.out.var (i := 1) rfl
       go_wp2_with (refine stN rfl rfl rfl rfl hcc rfl rfl (by simp [Value.oneCell']) ?_)
       refine retN rfl rfl rfl (setRow_heap _ _ _ _ _ _ hcc) rfl ?_
       exact ⟨_, _, rfl, (C.out.set (i := 1) rfl rfl _).out (.head _)⟩
     | true =>
       rw [if_neg (by rw [hb1, p1]; simp)] at hr
       rw [p1] at HI
       obtain ⟨⟨b, z⟩, hq1, hq2⟩ := Option.bind_eq_some_iff.1 hr
       simp only at hq2
       replace hq1 := Hd hq1
       replace hq2 := Hd hq2
       clear hr
       obtain ⟨rfl, rfl⟩ := Prod.mk.inj (Option.some.inj hq2.out)
       clear hq2
       go_wp2_with fail
       refine (HI.out).mono ?_
       rintro e w7 ⟨rfl, hb7⟩
       replace C := Hd (C.out.below hb7)
       obtain ⟨b0, b1, b2, b3, b4, bf⟩ := nd_cells (C.out.var (i := 0) rfl)
       go_wp2_with fail
       refine (literal_any G C.out.ps C.out.nrb (C.out.nok _ (.head _)) hn hq1.out).mono ?_
       rintro e w8 ⟨ao8, cap8, rfl, hn8, h8, k8⟩
       replace C := Hd (C.out.retF hn8 h8 k8)
       unfold ndV
       clear b0 b1 b2 b3 b4 bf
       have hcc := C.out.var (i := 0) rfl
       replace C := Hd (C.out.set (i := 0) rfl rfl (rowA b ao8 cap8))
       obtain ⟨b0, b1, b2, b3, b4, bf⟩ := nd_cells (C.out.var (i := 0) rfl)
       replace C := Hd (C.out.lit [⟨b, ao8, cap8⟩] (by simp) (by simp) rfl (a := w8.heap.size) (by simp [World.setRow]) (n := 1) rfl)
       go_wp2_with (refine stN rfl rfl rfl rfl hcc rfl rfl (by simp [Value.oneCell']) ?_)
       refine (rMake_any C.out.ps (⟨#[115,105,122,101,111,102]⟩ : ByteArray) ⟨#[]⟩ fro _ _ _).mono ?_
       rintro e w9 ⟨rfl, hb9⟩
       replace C := Hd (C.out.made hb9 (by simp) (⟨#[115,105,122,101,111,102]⟩ : ByteArray) ⟨#[]⟩ fro)
       clear b0 b1 b2 b3 b4 bf
       clear hcc
       have hcc := C.out.var (i := 1) rfl
       go_wp2_with (refine stN rfl rfl rfl rfl hcc rfl rfl (by simp [Value.oneCell']) ?_)
       refine retN rfl rfl rfl (setRow_heap _ _ _ _ _ _ hcc) rfl ?_
       exact ⟨_, _, rfl, (C.out.set (i := 1) rfl rfl _).out (.head _)⟩
theorem Rep.span {w : World} {F : Nat → Prop} {n : T} {ao : Option Addr} {cap : Nat} (h : Rep w F n (ndC n ao cap)) (f o : Int) : Rep w F (.mk n.kind n.text f o n.kids) (ndC (.mk n.kind n.text f o n.kids) ao cap) := by
 cases n with
 | mk k t f' o' ks =>
   cases h with
   | mk hk hr hc => exact .mk hk hr hc
theorem Cx.span {L : List Ct} {ta : Option Addr} {tc rb : Nat} {F : Nat → Prop} {O0 : Option Nat} {w0 : World} {s : Ps} {ns : List Nd} {vs : List (Nat × Obj)} {ks : List T} {v : Value} {w : World} (C : Cx L ta tc rb F O0 w0 s ns vs ks v w) {n : T} {ao : Option Addr} {cap : Nat} (h : (⟨n, ao, cap⟩ : Nd) ∈ ns) (f o : Int) : Cx L ta tc rb F O0 w0 s (⟨.mk n.kind n.text f o n.kids, ao, cap⟩ :: ns) vs ks v w :=
 C.retF (((C.nok _ h).span f o).wide fun k hk _ => .inl hk) C.ps (kp_refl _ _)
theorem Cx.leafT {L : List Ct} {ta : Option Addr} {tc rb : Nat} {F : Nat → Prop} {O0 : Option Nat} {w0 : World} {s : Ps} {ns : List Nd} {vs : List (Nat × Obj)} {ks : List T} {v : Value} {w : World} (C : Cx L ta tc rb F O0 w0 s ns vs ks v w) (z : Ps) (k : ByteArray) : Cx L ta tc rb F O0 w0 s (⟨leafP L z k, none, 0⟩ :: ns) vs ks v w := C.leaf _ _ _ _
end Go.Proofs.YtllbbacnakoomaaGreatDoor
