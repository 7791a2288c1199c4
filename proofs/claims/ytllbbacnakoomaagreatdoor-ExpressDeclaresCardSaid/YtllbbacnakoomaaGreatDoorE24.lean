/- Texts of this seat's proofs, laid into one file. -/
import Derived.Test.YtllbbacnakoomaaGreatDoorE23
/- direct. -/
namespace Go.Proofs.YtllbbacnakoomaaGreatDoor
open Go.RowKit
set_option linter.unusedVariables false

set_option maxRecDepth 100000 in
set_option maxHeartbeats 16000000 in
theorem direct_any {L : List Ct} {ta : Option Addr} {tc rb : Nat} {R : Rec} (G : Good L ta tc rb R) : DirOk L ta tc rb R := by
  intro w s nest mode n s' h hn hm hr
  have C := Lib.hid ((Cx.start h).alloc nzO (a := w.heap.size) rfl)
  have hlt := h.lt
  have hmm := Lib.hid hm
  unfold directF at hr
  try clear c0 c1 c2 c3 cf
  obtain ⟨p4, he4, c0, c1, c2, c3, cf⟩ := C.out.ps.cells
  clear he4
  obtain ⟨t, ht⟩ : ∃ t, t = tokP L s.at_ := ⟨_, rfl⟩
  rw [← ht] at hr
  have HT := Lib.hid (tok_any C.out.ps)
  rw [← ht] at HT
  unfold ctV at HT
  have hfd := fun w => fld_kind (.int .i64 t.fro) (.int .i64 t.cnt) undef t.kind t.text t.file t.f t.t w
  replace ht := Lib.hid ht
  go_enter Tryz.func159, Tryz.ntmps159
  by_cases hm1 : mode = 1
  · rw [if_neg (fun e => e.1 hm1)] at hr
    have g3 : ((mode : Int) != 1) = false := by rw [hm1]; rfl
    have g4 : ((mode : Int) == 0) = false := by rw [hm1]; rfl
    have HIn := Lib.hid (inner_any C.out.ps mode hm)
    cases p2 : innerP L mode s with
    | true =>
      rw [p2, if_pos rfl] at hr
      rw [p2] at HIn
      clear HT hfd
      replace hm1 := Lib.hid hm1
      obtain ⟨hI1, hI2⟩ : -1 ≤ s.at_ + 1 ∧ s.at_ + 1 ≤ L.length := by
        have hin := tok_in (L := L) (i := s.at_) (by unfold innerP isP isT at p2; simp only [Bool.and_eq_true, decide_eq_true_eq] at p2; omega)
        exact ⟨by omega, hin.2.1⟩
      obtain ⟨⟨b, z⟩, hb1, hb2⟩ := Option.bind_eq_some_iff.1 hr
      simp only at hb2
      replace hb1 := Lib.hid hb1
      replace hb2 := Lib.hid hb2
      clear hr
      have hr := hb2
      clear hb2
      go_wp2_with fail
      refine (HIn.out).mono ?_
      rintro e w6 ⟨rfl, h6, k6⟩
      replace C := Lib.hid (C.out.call h6 k6)
      try clear c0 c1 c2 c3 cf
      obtain ⟨p4, he4, c0, c1, c2, c3, cf⟩ := C.out.ps.cells
      clear he4
      have hlen := C.out.ps.len
      have g2 : IntKind.i64.wrap (s.at_ + 1) = s.at_ + 1 := IntWalk.i64_in _ (by omega)
      replace C := Lib.hid (C.out.up (n := 1) hI1 hI2)
      clear hlen hI1 hI2
      go_wp2_with fail
      refine (G.declr C.out.ps hn hmm.out hb1.out).mono ?_
      rintro e w18 ⟨ao18, cap18, rfl, hn18, h18, k18⟩
      replace C := Lib.hid (C.out.ret hn18 h18 k18)
      unfold ndV
      clear c0 c1 c2 c3 cf
      have hcc := C.out.var (i := 0) rfl
      replace C := Lib.hid (C.out.set (i := 0) rfl rfl (rowA b ao18 cap18))
      go_wp2_with (refine wpList_store_row rfl 50 _ _ rfl w.heap.size _ rfl rfl 50 _ hcc info_nd rfl (by simp [Value.oneCell']) ?_)
      refine (rNeed_any C.out.ps (⟨#[41]⟩ : ByteArray)).mono ?_
      rintro e w19 ⟨rfl, h19, k19⟩
      replace C := Lib.hid (C.out.call h19 k19)
      try clear c0 c1 c2 c3 cf
      obtain ⟨p4, he4, c0, c1, c2, c3, cf⟩ := C.out.ps.cells
      clear he4
      obtain ⟨e0, e1, e2, e3, e4, ef⟩ := nd_cells (C.out.var (i := 0) rfl)
      go_upto_region 9 with fail
      obtain ⟨i2, hi2⟩ : ∃ i2, i2 = (needP L z (⟨#[41]⟩ : ByteArray)).at_ := ⟨_, rfl⟩
      rw [← hi2] at c1 hr
      replace hi2 := Lib.hid hi2
      have hlt9 := C.out.ps.lt
      have hne9 : w.heap.size ≠ rb := by omega
      go_region
      have C2 : Hid (Cx L ta tc rb (fun _ => False) none w (needP L z (⟨#[41]⟩ : ByteArray)) [⟨b, ao18, cap18⟩] [(w.heap.size, bxO (.mk b.kind b.text s.at_ i2 b.kids) ao18 cap18)] [] (.slice none 0 0) ((w19.setCell ⟨w.heap.size, 2, none⟩ (.int .i64 s.at_)).setCell ⟨w.heap.size, 3, none⟩ (.int .i64 i2)).drew) :=
        Lib.hid ((C.out.setc (i := 0) rfl (by decide) (by simp) 2 (.int .i64 s.at_)).setc (i := 0) rfl (by decide) (by simp) 3 (.int .i64 i2)).drew
      try clear e0 e1 e2 e3 e4 ef
      try clear c0 c1 c2 c3 cf
      replace C := Lib.hid (C2.out.span (.head _) s.at_ i2)
      clear C2
      go_wp2_with fail
      try dsimp only [Act.put]
      go_loopg [] KK (fun q wx => ∃ (m : T) (z : Ps) (ao1 : Option Addr) (cap1 : Nat), Hid (Cx L ta tc rb (fun _ => False) none w z [⟨m, ao1, cap1⟩] [(w.heap.size, bxO m ao1 cap1)] [] (.slice none 0 0) wx) ∧ Hid (dirLoop L R nest mode q m z = some (n, s')))
      case atStart => exact ⟨_, _, _, _, (Lib.hid (C.out.weak mem1 (List.Sublist.refl _))), hr⟩
      case round =>
        have Cx := C
        clear Cx C hr
        obtain ⟨m, z, ao1, cap1, C, hL⟩ := hrel
        obtain ⟨w4, hw4⟩ : ∃ w4, w4 = wr := ⟨_, rfl⟩
        subst hw4
        cases gk with
        | zero => exact absurd hL.out (by simp [dirLoop])
        | succ gk =>
          have hL2 := hL.out
          unfold dirLoop at hL2
          try clear c0 c1 c2 c3 cf
          obtain ⟨p4, he4, c0, c1, c2, c3, cf⟩ := C.out.ps.cells
          clear he4
          cases hbad : z.bad with
          | true =>
            rw [if_pos hbad] at hL2
            obtain ⟨rfl, rfl⟩ := Prod.mk.inj (Option.some.inj hL2)
            clear hL2
            rw [hbad] at c3
            obtain ⟨q0, q1, q2, q3, q4, qf⟩ := nd_cells (C.out.var (i := 0) rfl)
            have hcc := C.out.var (i := 0) rfl
            go_wp2_with (refine wpList_store_row rfl 50 _ _ rfl w.heap.size _ rfl rfl 50 _ hcc info_nd rfl (by simp [Value.oneCell']) ?_)
            refine bodyPost_ret (results_cell_row rfl _ _ w.heap.size 50 _ (0, 0) _ rfl (setRow_heap _ _ _ _ _ _ hcc) Tryz.underlying50 rfl (by kernel_rfl)) rfl ?_
            exact ⟨_, _, rfl, (C.out.set (i := 0) rfl rfl _).out (.head _)⟩
          | false =>
            rw [if_neg (by rw [hbad]; simp)] at hL2
            rw [hbad] at c3
            replace hbad := Lib.hid hbad
            cases q1 : isP L z (⟨#[91]⟩ : ByteArray) with
            | true =>
              rw [q1, if_pos rfl] at hL2
              obtain ⟨⟨b, z2⟩, hb1, hb2⟩ := Option.bind_eq_some_iff.1 hL2
              simp only at hb2
              replace hb1 := Lib.hid hb1
              replace hb2 := Lib.hid hb2
              clear hL2
              have HH := Lib.hid (rHas_any C.out.ps (⟨#[91]⟩ : ByteArray))
              rw [hasP_ok hbad.out, q1, if_pos rfl] at HH
              go_wp2_with fail
              refine (HH.out).mono ?_
              rintro e w16 ⟨rfl, h16, k16⟩
              replace C := Lib.hid (C.out.call h16 k16)
              clear HH
              clear c0 c1 c2 c3 cf
              obtain ⟨e0, e1, e2, e3, e4, ef⟩ := nd_cells (C.out.var (i := 0) rfl)
              go_wp2_with fail
              refine (array_any G C.out.ps C.out.nrb (C.out.nok _ (.head _)) hn hb1.out).mono ?_
              rintro e w18 ⟨ao18, cap18, rfl, hn18, h18, k18⟩
              replace C := Lib.hid (C.out.retF hn18 h18 k18)
              unfold ndV
              clear e0 e1 e2 e3 e4 ef
              have hcc := C.out.var (i := 0) rfl
              go_wp2_with (refine wpList_store_row rfl 50 _ _ rfl w.heap.size _ rfl rfl 50 _ hcc info_nd rfl (by simp [Value.oneCell']) ?_)
              go_roundg gk
              case measure => omega
              case rel => exact ⟨_, _, _, _, Lib.hid ((C.out.set (i := 0) rfl rfl _).weak mem1 (List.Sublist.refl _)), hb2⟩
            | false =>
              rw [q1, if_neg (by simp)] at hL2
              have HH := Lib.hid (rHas_any C.out.ps (⟨#[91]⟩ : ByteArray))
              rw [hasP_ok hbad.out, q1, if_neg (by simp)] at HH
              go_wp2_with fail
              refine (HH.out).mono ?_
              rintro e w16 ⟨rfl, h16, k16⟩
              replace C := Lib.hid (C.out.call h16 k16)
              clear HH
              cases q2 : isP L z (⟨#[40]⟩ : ByteArray) with
              | true =>
                rw [q2, if_pos rfl] at hL2
                obtain ⟨⟨b, z2⟩, hb1, hb2⟩ := Option.bind_eq_some_iff.1 hL2
                simp only at hb2
                replace hb1 := Lib.hid hb1
                replace hb2 := Lib.hid hb2
                clear hL2
                have HH := Lib.hid (rHas_any C.out.ps (⟨#[40]⟩ : ByteArray))
                rw [hasP_ok hbad.out, q2, if_pos rfl] at HH
                go_wp2_with fail
                refine (HH.out).mono ?_
                rintro e w17 ⟨rfl, h17, k17⟩
                replace C := Lib.hid (C.out.call h17 k17)
                clear HH
                clear c0 c1 c2 c3 cf
                obtain ⟨e0, e1, e2, e3, e4, ef⟩ := nd_cells (C.out.var (i := 0) rfl)
                go_wp2_with fail
                refine (params_any G C.out.ps C.out.nrb (C.out.nok _ (.head _)) hn hmm.out hb1.out).mono ?_
                rintro e w18 ⟨ao18, cap18, rfl, hn18, h18, k18⟩
                replace C := Lib.hid (C.out.retF hn18 h18 k18)
                unfold ndV
                clear e0 e1 e2 e3 e4 ef
                have hcc := C.out.var (i := 0) rfl
                go_wp2_with (refine wpList_store_row rfl 50 _ _ rfl w.heap.size _ rfl rfl 50 _ hcc info_nd rfl (by simp [Value.oneCell']) ?_)
                go_roundg gk
                case measure => omega
                case rel => exact ⟨_, _, _, _, Lib.hid ((C.out.set (i := 0) rfl rfl _).weak mem1 (List.Sublist.refl _)), hb2⟩
              | false =>
                rw [q2, if_neg (by simp)] at hL2
                obtain ⟨rfl, rfl⟩ := Prod.mk.inj (Option.some.inj hL2)
                clear hL2
                have HH := Lib.hid (rHas_any C.out.ps (⟨#[40]⟩ : ByteArray))
                rw [hasP_ok hbad.out, q2, if_neg (by simp)] at HH
                go_wp2_with fail
                refine (HH.out).mono ?_
                rintro e w17 ⟨rfl, h17, k17⟩
                replace C := Lib.hid (C.out.call h17 k17)
                clear HH
                obtain ⟨q0, q1, q2, q3, q4, qf⟩ := nd_cells (C.out.var (i := 0) rfl)
                have hcc := C.out.var (i := 0) rfl
                go_wp2_with (refine wpList_store_row rfl 50 _ _ rfl w.heap.size _ rfl rfl 50 _ hcc info_nd rfl (by simp [Value.oneCell']) ?_)
                refine bodyPost_ret (results_cell_row rfl _ _ w.heap.size 50 _ (0, 0) _ rfl (setRow_heap _ _ _ _ _ _ hcc) Tryz.underlying50 rfl (by kernel_rfl)) rfl ?_
                exact ⟨_, _, rfl, (C.out.set (i := 0) rfl rfl _).out (.head _)⟩
    | false =>
      rw [p2, if_neg (by simp), if_neg (by omega)] at hr
      rw [p2] at HIn
      clear HT hfd
      replace hm1 := Lib.hid hm1
      replace hr := Lib.hid hr
      go_wp2_with fail
      refine (HIn.out).mono ?_
      rintro e w6 ⟨rfl, h6, k6⟩
      replace C := Lib.hid (C.out.call h6 k6)
      go_wp2_with fail
      refine (rMake_any C.out.ps (⟨#[110, 111, 110, 101]⟩ : ByteArray) ⟨#[]⟩ s.at_ _ _ _).mono ?_
      rintro e w7 ⟨rfl, hb7⟩
      replace C := Lib.hid ((C.out.below hb7).leaf (⟨#[110, 111, 110, 101]⟩ : ByteArray) eB s.at_ s.at_)
      clear c0 c1 c2 c3 cf
      have hcc := C.out.var (i := 0) rfl
      go_wp2_with (refine wpList_store_row rfl 50 _ _ rfl w.heap.size _ rfl rfl 50 _ hcc info_nd rfl (by simp [Value.oneCell']) ?_)
      try dsimp only [Act.put]
      go_loopg [] KK (fun q wx => ∃ (m : T) (z : Ps) (ao1 : Option Addr) (cap1 : Nat), Hid (Cx L ta tc rb (fun _ => False) none w z [⟨m, ao1, cap1⟩] [(w.heap.size, bxO m ao1 cap1)] [] (.slice none 0 0) wx) ∧ Hid (dirLoop L R nest mode q m z = some (n, s')))
      case atStart => exact ⟨_, _, _, _, (Lib.hid ((C.out.set (i := 0) rfl rfl _).weak mem1 (List.Sublist.refl _))), hr⟩
      case round =>
        have Cx := C
        clear Cx C hr
        obtain ⟨m, z, ao1, cap1, C, hL⟩ := hrel
        obtain ⟨w4, hw4⟩ : ∃ w4, w4 = wr := ⟨_, rfl⟩
        subst hw4
        cases gk with
        | zero => exact absurd hL.out (by simp [dirLoop])
        | succ gk =>
          have hL2 := hL.out
          unfold dirLoop at hL2
          try clear c0 c1 c2 c3 cf
          obtain ⟨p4, he4, c0, c1, c2, c3, cf⟩ := C.out.ps.cells
          clear he4
          cases hbad : z.bad with
          | true =>
            rw [if_pos hbad] at hL2
            obtain ⟨rfl, rfl⟩ := Prod.mk.inj (Option.some.inj hL2)
            clear hL2
            rw [hbad] at c3
            obtain ⟨q0, q1, q2, q3, q4, qf⟩ := nd_cells (C.out.var (i := 0) rfl)
            have hcc := C.out.var (i := 0) rfl
            go_wp2_with (refine wpList_store_row rfl 50 _ _ rfl w.heap.size _ rfl rfl 50 _ hcc info_nd rfl (by simp [Value.oneCell']) ?_)
            refine bodyPost_ret (results_cell_row rfl _ _ w.heap.size 50 _ (0, 0) _ rfl (setRow_heap _ _ _ _ _ _ hcc) Tryz.underlying50 rfl (by kernel_rfl)) rfl ?_
            exact ⟨_, _, rfl, (C.out.set (i := 0) rfl rfl _).out (.head _)⟩
          | false =>
            rw [if_neg (by rw [hbad]; simp)] at hL2
            rw [hbad] at c3
            replace hbad := Lib.hid hbad
            cases q1 : isP L z (⟨#[91]⟩ : ByteArray) with
            | true =>
              rw [q1, if_pos rfl] at hL2
              obtain ⟨⟨b, z2⟩, hb1, hb2⟩ := Option.bind_eq_some_iff.1 hL2
              simp only at hb2
              replace hb1 := Lib.hid hb1
              replace hb2 := Lib.hid hb2
              clear hL2
              have HH := Lib.hid (rHas_any C.out.ps (⟨#[91]⟩ : ByteArray))
              rw [hasP_ok hbad.out, q1, if_pos rfl] at HH
              go_wp2_with fail
              refine (HH.out).mono ?_
              rintro e w16 ⟨rfl, h16, k16⟩
              replace C := Lib.hid (C.out.call h16 k16)
              clear HH
              clear c0 c1 c2 c3 cf
              obtain ⟨e0, e1, e2, e3, e4, ef⟩ := nd_cells (C.out.var (i := 0) rfl)
              go_wp2_with fail
              refine (array_any G C.out.ps C.out.nrb (C.out.nok _ (.head _)) hn hb1.out).mono ?_
              rintro e w18 ⟨ao18, cap18, rfl, hn18, h18, k18⟩
              replace C := Lib.hid (C.out.retF hn18 h18 k18)
              unfold ndV
              clear e0 e1 e2 e3 e4 ef
              have hcc := C.out.var (i := 0) rfl
              go_wp2_with (refine wpList_store_row rfl 50 _ _ rfl w.heap.size _ rfl rfl 50 _ hcc info_nd rfl (by simp [Value.oneCell']) ?_)
              go_roundg gk
              case measure => omega
              case rel => exact ⟨_, _, _, _, Lib.hid ((C.out.set (i := 0) rfl rfl _).weak mem1 (List.Sublist.refl _)), hb2⟩
            | false =>
              rw [q1, if_neg (by simp)] at hL2
              have HH := Lib.hid (rHas_any C.out.ps (⟨#[91]⟩ : ByteArray))
              rw [hasP_ok hbad.out, q1, if_neg (by simp)] at HH
              go_wp2_with fail
              refine (HH.out).mono ?_
              rintro e w16 ⟨rfl, h16, k16⟩
              replace C := Lib.hid (C.out.call h16 k16)
              clear HH
              cases q2 : isP L z (⟨#[40]⟩ : ByteArray) with
              | true =>
                rw [q2, if_pos rfl] at hL2
                obtain ⟨⟨b, z2⟩, hb1, hb2⟩ := Option.bind_eq_some_iff.1 hL2
                simp only at hb2
                replace hb1 := Lib.hid hb1
                replace hb2 := Lib.hid hb2
                clear hL2
                have HH := Lib.hid (rHas_any C.out.ps (⟨#[40]⟩ : ByteArray))
                rw [hasP_ok hbad.out, q2, if_pos rfl] at HH
                go_wp2_with fail
                refine (HH.out).mono ?_
                rintro e w17 ⟨rfl, h17, k17⟩
                replace C := Lib.hid (C.out.call h17 k17)
                clear HH
                clear c0 c1 c2 c3 cf
                obtain ⟨e0, e1, e2, e3, e4, ef⟩ := nd_cells (C.out.var (i := 0) rfl)
                go_wp2_with fail
                refine (params_any G C.out.ps C.out.nrb (C.out.nok _ (.head _)) hn hmm.out hb1.out).mono ?_
                rintro e w18 ⟨ao18, cap18, rfl, hn18, h18, k18⟩
                replace C := Lib.hid (C.out.retF hn18 h18 k18)
                unfold ndV
                clear e0 e1 e2 e3 e4 ef
                have hcc := C.out.var (i := 0) rfl
                go_wp2_with (refine wpList_store_row rfl 50 _ _ rfl w.heap.size _ rfl rfl 50 _ hcc info_nd rfl (by simp [Value.oneCell']) ?_)
                go_roundg gk
                case measure => omega
                case rel => exact ⟨_, _, _, _, Lib.hid ((C.out.set (i := 0) rfl rfl _).weak mem1 (List.Sublist.refl _)), hb2⟩
              | false =>
                rw [q2, if_neg (by simp)] at hL2
                obtain ⟨rfl, rfl⟩ := Prod.mk.inj (Option.some.inj hL2)
                clear hL2
                have HH := Lib.hid (rHas_any C.out.ps (⟨#[40]⟩ : ByteArray))
                rw [hasP_ok hbad.out, q2, if_neg (by simp)] at HH
                go_wp2_with fail
                refine (HH.out).mono ?_
                rintro e w17 ⟨rfl, h17, k17⟩
                replace C := Lib.hid (C.out.call h17 k17)
                clear HH
                obtain ⟨q0, q1, q2, q3, q4, qf⟩ := nd_cells (C.out.var (i := 0) rfl)
                have hcc := C.out.var (i := 0) rfl
                go_wp2_with (refine wpList_store_row rfl 50 _ _ rfl w.heap.size _ rfl rfl 50 _ hcc info_nd rfl (by simp [Value.oneCell']) ?_)
                refine bodyPost_ret (results_cell_row rfl _ _ w.heap.size 50 _ (0, 0) _ rfl (setRow_heap _ _ _ _ _ _ hcc) Tryz.underlying50 rfl (by kernel_rfl)) rfl ?_
                exact ⟨_, _, rfl, (C.out.set (i := 0) rfl rfl _).out (.head _)⟩
  · have g3 : ((mode : Int) != 1) = true := by simp; omega
    by_cases hk : t.kind = 1
    · rw [if_pos ⟨hm1, hk⟩] at hr
      rw [hk] at HT hfd
      replace hk := Lib.hid hk
      replace hm1 := Lib.hid hm1
      replace hr := Lib.hid hr
      go_wp2_with fail
      refine (HT.out).mono ?_
      rintro e w5 ⟨rfl, hb5⟩
      replace C := Lib.hid (C.out.below hb5)
      clear HT
      have HL := Lib.hid (rLeaf_any C.out.ps (⟨#[110, 97, 109, 101]⟩ : ByteArray) (by rw [← ht.out, hk.out]; decide))
      go_wp2_with fail
      refine (HL.out).mono ?_
      rintro e w6 ⟨rfl, h6, k6⟩
      replace C := Lib.hid (C.out.call h6 k6)
      clear HL c0 c1 c2 c3 cf
      replace C := Lib.hid (C.out.leafT s (⟨#[110, 97, 109, 101]⟩ : ByteArray))
      have hcc := C.out.var (i := 0) rfl
      go_wp2_with (refine wpList_store_row rfl 50 _ _ rfl w.heap.size _ rfl rfl 50 _ hcc info_nd rfl (by simp [Value.oneCell']) ?_)
      try dsimp only [Act.put]
      go_loopg [] KK (fun q wx => ∃ (m : T) (z : Ps) (ao1 : Option Addr) (cap1 : Nat), Hid (Cx L ta tc rb (fun _ => False) none w z [⟨m, ao1, cap1⟩] [(w.heap.size, bxO m ao1 cap1)] [] (.slice none 0 0) wx) ∧ Hid (dirLoop L R nest mode q m z = some (n, s')))
      case atStart => exact ⟨_, _, _, _, (Lib.hid ((C.out.set (i := 0) rfl rfl _).weak mem1 (List.Sublist.refl _))), hr⟩
      case round =>
        have Cx := C
        clear Cx C hr
        obtain ⟨m, z, ao1, cap1, C, hL⟩ := hrel
        obtain ⟨w4, hw4⟩ : ∃ w4, w4 = wr := ⟨_, rfl⟩
        subst hw4
        cases gk with
        | zero => exact absurd hL.out (by simp [dirLoop])
        | succ gk =>
          have hL2 := hL.out
          unfold dirLoop at hL2
          try clear c0 c1 c2 c3 cf
          obtain ⟨p4, he4, c0, c1, c2, c3, cf⟩ := C.out.ps.cells
          clear he4
          cases hbad : z.bad with
          | true =>
            rw [if_pos hbad] at hL2
            obtain ⟨rfl, rfl⟩ := Prod.mk.inj (Option.some.inj hL2)
            clear hL2
            rw [hbad] at c3
            obtain ⟨q0, q1, q2, q3, q4, qf⟩ := nd_cells (C.out.var (i := 0) rfl)
            have hcc := C.out.var (i := 0) rfl
            go_wp2_with (refine wpList_store_row rfl 50 _ _ rfl w.heap.size _ rfl rfl 50 _ hcc info_nd rfl (by simp [Value.oneCell']) ?_)
            refine bodyPost_ret (results_cell_row rfl _ _ w.heap.size 50 _ (0, 0) _ rfl (setRow_heap _ _ _ _ _ _ hcc) Tryz.underlying50 rfl (by kernel_rfl)) rfl ?_
            exact ⟨_, _, rfl, (C.out.set (i := 0) rfl rfl _).out (.head _)⟩
          | false =>
            rw [if_neg (by rw [hbad]; simp)] at hL2
            rw [hbad] at c3
            replace hbad := Lib.hid hbad
            cases q1 : isP L z (⟨#[91]⟩ : ByteArray) with
            | true =>
              rw [q1, if_pos rfl] at hL2
              obtain ⟨⟨b, z2⟩, hb1, hb2⟩ := Option.bind_eq_some_iff.1 hL2
              simp only at hb2
              replace hb1 := Lib.hid hb1
              replace hb2 := Lib.hid hb2
              clear hL2
              have HH := Lib.hid (rHas_any C.out.ps (⟨#[91]⟩ : ByteArray))
              rw [hasP_ok hbad.out, q1, if_pos rfl] at HH
              go_wp2_with fail
              refine (HH.out).mono ?_
              rintro e w16 ⟨rfl, h16, k16⟩
              replace C := Lib.hid (C.out.call h16 k16)
              clear HH
              clear c0 c1 c2 c3 cf
              obtain ⟨e0, e1, e2, e3, e4, ef⟩ := nd_cells (C.out.var (i := 0) rfl)
              go_wp2_with fail
              refine (array_any G C.out.ps C.out.nrb (C.out.nok _ (.head _)) hn hb1.out).mono ?_
              rintro e w18 ⟨ao18, cap18, rfl, hn18, h18, k18⟩
              replace C := Lib.hid (C.out.retF hn18 h18 k18)
              unfold ndV
              clear e0 e1 e2 e3 e4 ef
              have hcc := C.out.var (i := 0) rfl
              go_wp2_with (refine wpList_store_row rfl 50 _ _ rfl w.heap.size _ rfl rfl 50 _ hcc info_nd rfl (by simp [Value.oneCell']) ?_)
              go_roundg gk
              case measure => omega
              case rel => exact ⟨_, _, _, _, Lib.hid ((C.out.set (i := 0) rfl rfl _).weak mem1 (List.Sublist.refl _)), hb2⟩
            | false =>
              rw [q1, if_neg (by simp)] at hL2
              have HH := Lib.hid (rHas_any C.out.ps (⟨#[91]⟩ : ByteArray))
              rw [hasP_ok hbad.out, q1, if_neg (by simp)] at HH
              go_wp2_with fail
              refine (HH.out).mono ?_
              rintro e w16 ⟨rfl, h16, k16⟩
              replace C := Lib.hid (C.out.call h16 k16)
              clear HH
              cases q2 : isP L z (⟨#[40]⟩ : ByteArray) with
              | true =>
                rw [q2, if_pos rfl] at hL2
                obtain ⟨⟨b, z2⟩, hb1, hb2⟩ := Option.bind_eq_some_iff.1 hL2
                simp only at hb2
                replace hb1 := Lib.hid hb1
                replace hb2 := Lib.hid hb2
                clear hL2
                have HH := Lib.hid (rHas_any C.out.ps (⟨#[40]⟩ : ByteArray))
                rw [hasP_ok hbad.out, q2, if_pos rfl] at HH
                go_wp2_with fail
                refine (HH.out).mono ?_
                rintro e w17 ⟨rfl, h17, k17⟩
                replace C := Lib.hid (C.out.call h17 k17)
                clear HH
                clear c0 c1 c2 c3 cf
                obtain ⟨e0, e1, e2, e3, e4, ef⟩ := nd_cells (C.out.var (i := 0) rfl)
                go_wp2_with fail
                refine (params_any G C.out.ps C.out.nrb (C.out.nok _ (.head _)) hn hmm.out hb1.out).mono ?_
                rintro e w18 ⟨ao18, cap18, rfl, hn18, h18, k18⟩
                replace C := Lib.hid (C.out.retF hn18 h18 k18)
                unfold ndV
                clear e0 e1 e2 e3 e4 ef
                have hcc := C.out.var (i := 0) rfl
                go_wp2_with (refine wpList_store_row rfl 50 _ _ rfl w.heap.size _ rfl rfl 50 _ hcc info_nd rfl (by simp [Value.oneCell']) ?_)
                go_roundg gk
                case measure => omega
                case rel => exact ⟨_, _, _, _, Lib.hid ((C.out.set (i := 0) rfl rfl _).weak mem1 (List.Sublist.refl _)), hb2⟩
              | false =>
                rw [q2, if_neg (by simp)] at hL2
                obtain ⟨rfl, rfl⟩ := Prod.mk.inj (Option.some.inj hL2)
                clear hL2
                have HH := Lib.hid (rHas_any C.out.ps (⟨#[40]⟩ : ByteArray))
                rw [hasP_ok hbad.out, q2, if_neg (by simp)] at HH
                go_wp2_with fail
                refine (HH.out).mono ?_
                rintro e w17 ⟨rfl, h17, k17⟩
                replace C := Lib.hid (C.out.call h17 k17)
                clear HH
                obtain ⟨q0, q1, q2, q3, q4, qf⟩ := nd_cells (C.out.var (i := 0) rfl)
                have hcc := C.out.var (i := 0) rfl
                go_wp2_with (refine wpList_store_row rfl 50 _ _ rfl w.heap.size _ rfl rfl 50 _ hcc info_nd rfl (by simp [Value.oneCell']) ?_)
                refine bodyPost_ret (results_cell_row rfl _ _ w.heap.size 50 _ (0, 0) _ rfl (setRow_heap _ _ _ _ _ _ hcc) Tryz.underlying50 rfl (by kernel_rfl)) rfl ?_
                exact ⟨_, _, rfl, (C.out.set (i := 0) rfl rfl _).out (.head _)⟩
    · rw [if_neg (fun e => hk e.2)] at hr
      have g5 : (t.kind == 1) = false := beq_false_of_ne hk
      replace hm1 := Lib.hid hm1
      go_wp2_with fail
      refine (HT.out).mono ?_
      rintro e w5 ⟨rfl, hb5⟩
      replace C := Lib.hid (C.out.below hb5)
      clear HT
      have HIn := Lib.hid (inner_any C.out.ps mode hm)
      cases p2 : innerP L mode s with
      | true =>
        rw [p2, if_pos rfl] at hr
        rw [p2] at HIn
        obtain ⟨hI1, hI2⟩ : -1 ≤ s.at_ + 1 ∧ s.at_ + 1 ≤ L.length := by
          have hin := tok_in (L := L) (i := s.at_) (by unfold innerP isP isT at p2; simp only [Bool.and_eq_true, decide_eq_true_eq] at p2; omega)
          exact ⟨by omega, hin.2.1⟩
        obtain ⟨⟨b, z⟩, hb1, hb2⟩ := Option.bind_eq_some_iff.1 hr
        simp only at hb2
        replace hb1 := Lib.hid hb1
        replace hb2 := Lib.hid hb2
        clear hr
        have hr := hb2
        clear hb2
        go_wp2_with fail
        refine (HIn.out).mono ?_
        rintro e w6 ⟨rfl, h6, k6⟩
        replace C := Lib.hid (C.out.call h6 k6)
        try clear c0 c1 c2 c3 cf
        obtain ⟨p4, he4, c0, c1, c2, c3, cf⟩ := C.out.ps.cells
        clear he4
        have hlen := C.out.ps.len
        have g2 : IntKind.i64.wrap (s.at_ + 1) = s.at_ + 1 := IntWalk.i64_in _ (by omega)
        replace C := Lib.hid (C.out.up (n := 1) hI1 hI2)
        clear hlen hI1 hI2
        go_wp2_with fail
        refine (G.declr C.out.ps hn hmm.out hb1.out).mono ?_
        rintro e w18 ⟨ao18, cap18, rfl, hn18, h18, k18⟩
        replace C := Lib.hid (C.out.ret hn18 h18 k18)
        unfold ndV
        clear c0 c1 c2 c3 cf
        have hcc := C.out.var (i := 0) rfl
        replace C := Lib.hid (C.out.set (i := 0) rfl rfl (rowA b ao18 cap18))
        go_wp2_with (refine wpList_store_row rfl 50 _ _ rfl w.heap.size _ rfl rfl 50 _ hcc info_nd rfl (by simp [Value.oneCell']) ?_)
        refine (rNeed_any C.out.ps (⟨#[41]⟩ : ByteArray)).mono ?_
        rintro e w19 ⟨rfl, h19, k19⟩
        replace C := Lib.hid (C.out.call h19 k19)
        try clear c0 c1 c2 c3 cf
        obtain ⟨p4, he4, c0, c1, c2, c3, cf⟩ := C.out.ps.cells
        clear he4
        obtain ⟨e0, e1, e2, e3, e4, ef⟩ := nd_cells (C.out.var (i := 0) rfl)
        go_upto_region 9 with fail
        obtain ⟨i2, hi2⟩ : ∃ i2, i2 = (needP L z (⟨#[41]⟩ : ByteArray)).at_ := ⟨_, rfl⟩
        rw [← hi2] at c1 hr
        replace hi2 := Lib.hid hi2
        have hlt9 := C.out.ps.lt
        have hne9 : w.heap.size ≠ rb := by omega
        go_region
        have C2 : Hid (Cx L ta tc rb (fun _ => False) none w (needP L z (⟨#[41]⟩ : ByteArray)) [⟨b, ao18, cap18⟩] [(w.heap.size, bxO (.mk b.kind b.text s.at_ i2 b.kids) ao18 cap18)] [] (.slice none 0 0) ((w19.setCell ⟨w.heap.size, 2, none⟩ (.int .i64 s.at_)).setCell ⟨w.heap.size, 3, none⟩ (.int .i64 i2)).drew) :=
          Lib.hid ((C.out.setc (i := 0) rfl (by decide) (by simp) 2 (.int .i64 s.at_)).setc (i := 0) rfl (by decide) (by simp) 3 (.int .i64 i2)).drew
        try clear e0 e1 e2 e3 e4 ef
        try clear c0 c1 c2 c3 cf
        replace C := Lib.hid (C2.out.span (.head _) s.at_ i2)
        clear C2
        go_wp2_with fail
        try dsimp only [Act.put]
        go_loopg [] KK (fun q wx => ∃ (m : T) (z : Ps) (ao1 : Option Addr) (cap1 : Nat), Hid (Cx L ta tc rb (fun _ => False) none w z [⟨m, ao1, cap1⟩] [(w.heap.size, bxO m ao1 cap1)] [] (.slice none 0 0) wx) ∧ Hid (dirLoop L R nest mode q m z = some (n, s')))
        case atStart => exact ⟨_, _, _, _, (Lib.hid (C.out.weak mem1 (List.Sublist.refl _))), hr⟩
        case round =>
          have Cx := C
          clear Cx C hr
          obtain ⟨m, z, ao1, cap1, C, hL⟩ := hrel
          obtain ⟨w4, hw4⟩ : ∃ w4, w4 = wr := ⟨_, rfl⟩
          subst hw4
          cases gk with
          | zero => exact absurd hL.out (by simp [dirLoop])
          | succ gk =>
            have hL2 := hL.out
            unfold dirLoop at hL2
            try clear c0 c1 c2 c3 cf
            obtain ⟨p4, he4, c0, c1, c2, c3, cf⟩ := C.out.ps.cells
            clear he4
            cases hbad : z.bad with
            | true =>
              rw [if_pos hbad] at hL2
              obtain ⟨rfl, rfl⟩ := Prod.mk.inj (Option.some.inj hL2)
              clear hL2
              rw [hbad] at c3
              obtain ⟨q0, q1, q2, q3, q4, qf⟩ := nd_cells (C.out.var (i := 0) rfl)
              have hcc := C.out.var (i := 0) rfl
              go_wp2_with (refine wpList_store_row rfl 50 _ _ rfl w.heap.size _ rfl rfl 50 _ hcc info_nd rfl (by simp [Value.oneCell']) ?_)
              refine bodyPost_ret (results_cell_row rfl _ _ w.heap.size 50 _ (0, 0) _ rfl (setRow_heap _ _ _ _ _ _ hcc) Tryz.underlying50 rfl (by kernel_rfl)) rfl ?_
              exact ⟨_, _, rfl, (C.out.set (i := 0) rfl rfl _).out (.head _)⟩
            | false =>
              rw [if_neg (by rw [hbad]; simp)] at hL2
              rw [hbad] at c3
              replace hbad := Lib.hid hbad
              cases q1 : isP L z (⟨#[91]⟩ : ByteArray) with
              | true =>
                rw [q1, if_pos rfl] at hL2
                obtain ⟨⟨b, z2⟩, hb1, hb2⟩ := Option.bind_eq_some_iff.1 hL2
                simp only at hb2
                replace hb1 := Lib.hid hb1
                replace hb2 := Lib.hid hb2
                clear hL2
                have HH := Lib.hid (rHas_any C.out.ps (⟨#[91]⟩ : ByteArray))
                rw [hasP_ok hbad.out, q1, if_pos rfl] at HH
                go_wp2_with fail
                refine (HH.out).mono ?_
                rintro e w16 ⟨rfl, h16, k16⟩
                replace C := Lib.hid (C.out.call h16 k16)
                clear HH
                clear c0 c1 c2 c3 cf
                obtain ⟨e0, e1, e2, e3, e4, ef⟩ := nd_cells (C.out.var (i := 0) rfl)
                go_wp2_with fail
                refine (array_any G C.out.ps C.out.nrb (C.out.nok _ (.head _)) hn hb1.out).mono ?_
                rintro e w18 ⟨ao18, cap18, rfl, hn18, h18, k18⟩
                replace C := Lib.hid (C.out.retF hn18 h18 k18)
                unfold ndV
                clear e0 e1 e2 e3 e4 ef
                have hcc := C.out.var (i := 0) rfl
                go_wp2_with (refine wpList_store_row rfl 50 _ _ rfl w.heap.size _ rfl rfl 50 _ hcc info_nd rfl (by simp [Value.oneCell']) ?_)
                go_roundg gk
                case measure => omega
                case rel => exact ⟨_, _, _, _, Lib.hid ((C.out.set (i := 0) rfl rfl _).weak mem1 (List.Sublist.refl _)), hb2⟩
              | false =>
                rw [q1, if_neg (by simp)] at hL2
                have HH := Lib.hid (rHas_any C.out.ps (⟨#[91]⟩ : ByteArray))
                rw [hasP_ok hbad.out, q1, if_neg (by simp)] at HH
                go_wp2_with fail
                refine (HH.out).mono ?_
                rintro e w16 ⟨rfl, h16, k16⟩
                replace C := Lib.hid (C.out.call h16 k16)
                clear HH
                cases q2 : isP L z (⟨#[40]⟩ : ByteArray) with
                | true =>
                  rw [q2, if_pos rfl] at hL2
                  obtain ⟨⟨b, z2⟩, hb1, hb2⟩ := Option.bind_eq_some_iff.1 hL2
                  simp only at hb2
                  replace hb1 := Lib.hid hb1
                  replace hb2 := Lib.hid hb2
                  clear hL2
                  have HH := Lib.hid (rHas_any C.out.ps (⟨#[40]⟩ : ByteArray))
                  rw [hasP_ok hbad.out, q2, if_pos rfl] at HH
                  go_wp2_with fail
                  refine (HH.out).mono ?_
                  rintro e w17 ⟨rfl, h17, k17⟩
                  replace C := Lib.hid (C.out.call h17 k17)
                  clear HH
                  clear c0 c1 c2 c3 cf
                  obtain ⟨e0, e1, e2, e3, e4, ef⟩ := nd_cells (C.out.var (i := 0) rfl)
                  go_wp2_with fail
                  refine (params_any G C.out.ps C.out.nrb (C.out.nok _ (.head _)) hn hmm.out hb1.out).mono ?_
                  rintro e w18 ⟨ao18, cap18, rfl, hn18, h18, k18⟩
                  replace C := Lib.hid (C.out.retF hn18 h18 k18)
                  unfold ndV
                  clear e0 e1 e2 e3 e4 ef
                  have hcc := C.out.var (i := 0) rfl
                  go_wp2_with (refine wpList_store_row rfl 50 _ _ rfl w.heap.size _ rfl rfl 50 _ hcc info_nd rfl (by simp [Value.oneCell']) ?_)
                  go_roundg gk
                  case measure => omega
                  case rel => exact ⟨_, _, _, _, Lib.hid ((C.out.set (i := 0) rfl rfl _).weak mem1 (List.Sublist.refl _)), hb2⟩
                | false =>
                  rw [q2, if_neg (by simp)] at hL2
                  obtain ⟨rfl, rfl⟩ := Prod.mk.inj (Option.some.inj hL2)
                  clear hL2
                  have HH := Lib.hid (rHas_any C.out.ps (⟨#[40]⟩ : ByteArray))
                  rw [hasP_ok hbad.out, q2, if_neg (by simp)] at HH
                  go_wp2_with fail
                  refine (HH.out).mono ?_
                  rintro e w17 ⟨rfl, h17, k17⟩
                  replace C := Lib.hid (C.out.call h17 k17)
                  clear HH
                  obtain ⟨q0, q1, q2, q3, q4, qf⟩ := nd_cells (C.out.var (i := 0) rfl)
                  have hcc := C.out.var (i := 0) rfl
                  go_wp2_with (refine wpList_store_row rfl 50 _ _ rfl w.heap.size _ rfl rfl 50 _ hcc info_nd rfl (by simp [Value.oneCell']) ?_)
                  refine bodyPost_ret (results_cell_row rfl _ _ w.heap.size 50 _ (0, 0) _ rfl (setRow_heap _ _ _ _ _ _ hcc) Tryz.underlying50 rfl (by kernel_rfl)) rfl ?_
                  exact ⟨_, _, rfl, (C.out.set (i := 0) rfl rfl _).out (.head _)⟩
      | false =>
        rw [p2, if_neg (by simp)] at hr
        rw [p2] at HIn
        by_cases hm0 : mode = 0
        · rw [if_pos hm0] at hr
          have g4 : ((mode : Int) == 0) = true := by rw [hm0]; rfl
          replace hm0 := Lib.hid hm0
          obtain ⟨rfl, rfl⟩ := Prod.mk.inj (Option.some.inj hr)
          go_wp2_with fail
          refine (HIn.out).mono ?_
          rintro e w6 ⟨rfl, h6, k6⟩
          replace C := Lib.hid (C.out.call h6 k6)
          go_wp2_with fail
          refine (rFail_any C.out.ps).mono ?_
          rintro e w7 ⟨rfl, h7, k7⟩
          replace C := Lib.hid (C.out.call h7 k7)
          clear c0 c1 c2 c3 cf
          obtain ⟨q0, q1, q2, q3, q4, qf⟩ := nd_cells (C.out.var (i := 0) rfl)
          replace C := Lib.hid (C.out.leaf eB eB 0 0)
          have hcc := C.out.var (i := 0) rfl
          go_wp2_with (refine wpList_store_row rfl 50 _ _ rfl w.heap.size _ rfl rfl 50 _ hcc info_nd rfl (by simp [Value.oneCell']) ?_)
          refine bodyPost_ret (results_cell_row rfl _ _ w.heap.size 50 _ (0, 0) _ rfl (setRow_heap _ _ _ _ _ _ hcc) Tryz.underlying50 rfl (by kernel_rfl)) rfl ?_
          exact ⟨_, _, rfl, (C.out.set (i := 0) rfl rfl _).out (.head _)⟩
        · rw [if_neg hm0] at hr
          have g4 : ((mode : Int) == 0) = false := beq_false_of_ne (by omega)
          replace hm0 := Lib.hid hm0
          replace hr := Lib.hid hr
          go_wp2_with fail
          refine (HIn.out).mono ?_
          rintro e w6 ⟨rfl, h6, k6⟩
          replace C := Lib.hid (C.out.call h6 k6)
          go_wp2_with fail
          refine (rMake_any C.out.ps (⟨#[110, 111, 110, 101]⟩ : ByteArray) ⟨#[]⟩ s.at_ _ _ _).mono ?_
          rintro e w7 ⟨rfl, hb7⟩
          replace C := Lib.hid ((C.out.below hb7).leaf (⟨#[110, 111, 110, 101]⟩ : ByteArray) eB s.at_ s.at_)
          clear c0 c1 c2 c3 cf
          have hcc := C.out.var (i := 0) rfl
          go_wp2_with (refine wpList_store_row rfl 50 _ _ rfl w.heap.size _ rfl rfl 50 _ hcc info_nd rfl (by simp [Value.oneCell']) ?_)
          try dsimp only [Act.put]
          go_loopg [] KK (fun q wx => ∃ (m : T) (z : Ps) (ao1 : Option Addr) (cap1 : Nat), Hid (Cx L ta tc rb (fun _ => False) none w z [⟨m, ao1, cap1⟩] [(w.heap.size, bxO m ao1 cap1)] [] (.slice none 0 0) wx) ∧ Hid (dirLoop L R nest mode q m z = some (n, s')))
          case atStart => exact ⟨_, _, _, _, (Lib.hid ((C.out.set (i := 0) rfl rfl _).weak mem1 (List.Sublist.refl _))), hr⟩
          case round =>
            have Cx := C
            clear Cx C hr
            obtain ⟨m, z, ao1, cap1, C, hL⟩ := hrel
            obtain ⟨w4, hw4⟩ : ∃ w4, w4 = wr := ⟨_, rfl⟩
            subst hw4
            cases gk with
            | zero => exact absurd hL.out (by simp [dirLoop])
            | succ gk =>
              have hL2 := hL.out
              unfold dirLoop at hL2
              try clear c0 c1 c2 c3 cf
              obtain ⟨p4, he4, c0, c1, c2, c3, cf⟩ := C.out.ps.cells
              clear he4
              cases hbad : z.bad with
              | true =>
                rw [if_pos hbad] at hL2
                obtain ⟨rfl, rfl⟩ := Prod.mk.inj (Option.some.inj hL2)
                clear hL2
                rw [hbad] at c3
                obtain ⟨q0, q1, q2, q3, q4, qf⟩ := nd_cells (C.out.var (i := 0) rfl)
                have hcc := C.out.var (i := 0) rfl
                go_wp2_with (refine wpList_store_row rfl 50 _ _ rfl w.heap.size _ rfl rfl 50 _ hcc info_nd rfl (by simp [Value.oneCell']) ?_)
                refine bodyPost_ret (results_cell_row rfl _ _ w.heap.size 50 _ (0, 0) _ rfl (setRow_heap _ _ _ _ _ _ hcc) Tryz.underlying50 rfl (by kernel_rfl)) rfl ?_
                exact ⟨_, _, rfl, (C.out.set (i := 0) rfl rfl _).out (.head _)⟩
              | false =>
                rw [if_neg (by rw [hbad]; simp)] at hL2
                rw [hbad] at c3
                replace hbad := Lib.hid hbad
                cases q1 : isP L z (⟨#[91]⟩ : ByteArray) with
                | true =>
                  rw [q1, if_pos rfl] at hL2
                  obtain ⟨⟨b, z2⟩, hb1, hb2⟩ := Option.bind_eq_some_iff.1 hL2
                  simp only at hb2
                  replace hb1 := Lib.hid hb1
                  replace hb2 := Lib.hid hb2
                  clear hL2
                  have HH := Lib.hid (rHas_any C.out.ps (⟨#[91]⟩ : ByteArray))
                  rw [hasP_ok hbad.out, q1, if_pos rfl] at HH
                  go_wp2_with fail
                  refine (HH.out).mono ?_
                  rintro e w16 ⟨rfl, h16, k16⟩
                  replace C := Lib.hid (C.out.call h16 k16)
                  clear HH
                  clear c0 c1 c2 c3 cf
                  obtain ⟨e0, e1, e2, e3, e4, ef⟩ := nd_cells (C.out.var (i := 0) rfl)
                  go_wp2_with fail
                  refine (array_any G C.out.ps C.out.nrb (C.out.nok _ (.head _)) hn hb1.out).mono ?_
                  rintro e w18 ⟨ao18, cap18, rfl, hn18, h18, k18⟩
                  replace C := Lib.hid (C.out.retF hn18 h18 k18)
                  unfold ndV
                  clear e0 e1 e2 e3 e4 ef
                  have hcc := C.out.var (i := 0) rfl
                  go_wp2_with (refine wpList_store_row rfl 50 _ _ rfl w.heap.size _ rfl rfl 50 _ hcc info_nd rfl (by simp [Value.oneCell']) ?_)
                  go_roundg gk
                  case measure => omega
                  case rel => exact ⟨_, _, _, _, Lib.hid ((C.out.set (i := 0) rfl rfl _).weak mem1 (List.Sublist.refl _)), hb2⟩
                | false =>
                  rw [q1, if_neg (by simp)] at hL2
                  have HH := Lib.hid (rHas_any C.out.ps (⟨#[91]⟩ : ByteArray))
                  rw [hasP_ok hbad.out, q1, if_neg (by simp)] at HH
                  go_wp2_with fail
                  refine (HH.out).mono ?_
                  rintro e w16 ⟨rfl, h16, k16⟩
                  replace C := Lib.hid (C.out.call h16 k16)
                  clear HH
                  cases q2 : isP L z (⟨#[40]⟩ : ByteArray) with
                  | true =>
                    rw [q2, if_pos rfl] at hL2
                    obtain ⟨⟨b, z2⟩, hb1, hb2⟩ := Option.bind_eq_some_iff.1 hL2
                    simp only at hb2
                    replace hb1 := Lib.hid hb1
                    replace hb2 := Lib.hid hb2
                    clear hL2
                    have HH := Lib.hid (rHas_any C.out.ps (⟨#[40]⟩ : ByteArray))
                    rw [hasP_ok hbad.out, q2, if_pos rfl] at HH
                    go_wp2_with fail
                    refine (HH.out).mono ?_
                    rintro e w17 ⟨rfl, h17, k17⟩
                    replace C := Lib.hid (C.out.call h17 k17)
                    clear HH
                    clear c0 c1 c2 c3 cf
                    obtain ⟨e0, e1, e2, e3, e4, ef⟩ := nd_cells (C.out.var (i := 0) rfl)
                    go_wp2_with fail
                    refine (params_any G C.out.ps C.out.nrb (C.out.nok _ (.head _)) hn hmm.out hb1.out).mono ?_
                    rintro e w18 ⟨ao18, cap18, rfl, hn18, h18, k18⟩
                    replace C := Lib.hid (C.out.retF hn18 h18 k18)
                    unfold ndV
                    clear e0 e1 e2 e3 e4 ef
                    have hcc := C.out.var (i := 0) rfl
                    go_wp2_with (refine wpList_store_row rfl 50 _ _ rfl w.heap.size _ rfl rfl 50 _ hcc info_nd rfl (by simp [Value.oneCell']) ?_)
                    go_roundg gk
                    case measure => omega
                    case rel => exact ⟨_, _, _, _, Lib.hid ((C.out.set (i := 0) rfl rfl _).weak mem1 (List.Sublist.refl _)), hb2⟩
                  | false =>
                    rw [q2, if_neg (by simp)] at hL2
                    obtain ⟨rfl, rfl⟩ := Prod.mk.inj (Option.some.inj hL2)
                    clear hL2
                    have HH := Lib.hid (rHas_any C.out.ps (⟨#[40]⟩ : ByteArray))
                    rw [hasP_ok hbad.out, q2, if_neg (by simp)] at HH
                    go_wp2_with fail
                    refine (HH.out).mono ?_
                    rintro e w17 ⟨rfl, h17, k17⟩
                    replace C := Lib.hid (C.out.call h17 k17)
                    clear HH
                    obtain ⟨q0, q1, q2, q3, q4, qf⟩ := nd_cells (C.out.var (i := 0) rfl)
                    have hcc := C.out.var (i := 0) rfl
                    go_wp2_with (refine wpList_store_row rfl 50 _ _ rfl w.heap.size _ rfl rfl 50 _ hcc info_nd rfl (by simp [Value.oneCell']) ?_)
                    refine bodyPost_ret (results_cell_row rfl _ _ w.heap.size 50 _ (0, 0) _ rfl (setRow_heap _ _ _ _ _ _ hcc) Tryz.underlying50 rfl (by kernel_rfl)) rfl ?_
                    exact ⟨_, _, rfl, (C.out.set (i := 0) rfl rfl _).out (.head _)⟩
end Go.Proofs.YtllbbacnakoomaaGreatDoor
