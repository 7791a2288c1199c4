/- Texts of this seat's proofs, laid into one file. -/
import Derived.Test.YtllbbacnakoomaaGreatDoorD9
import Derived.Test.YtllbbacnakoomaaGreatDoorD6
set_option maxRecDepth 100000
set_option maxHeartbeats 16000000
namespace Go.Proofs.YtllbbacnakoomaaGreatDoor
open Go.RowKit
set_option linter.unusedVariables false
theorem wordF_false {L : List Ct} {R : Rec} {nest : Nat} {x : ByteArray} {s z : Ps} {m : T} (h : wordF L R nest x s = some ((m, false), z)) : z = s := by
 unfold wordF at h
 split at h
 ·cases h
 ·split at h
  ·obtain ⟨⟨ks, y⟩, _, h2⟩ := Option.bind_eq_some_iff.1 h
   cases h2
  ·obtain ⟨_, e⟩ := Prod.mk.inj (Option.some.inj h)
   exact e.symm
theorem stmt_step {L : List Ct} {ta : Option Addr} {tc rb : Nat} {R : Rec} (G2 : Good2 L ta tc rb R) {w : World} {s : Ps} {nest : Nat} {n : T} {s' : Ps} (h : PS L ta tc rb s w) (hn : nest ≤ 1000) (hr : stmtF L R nest s = some (n, s')) :
 Calls Tryz.prog 72 #[drV rb, .int .i64 nest] w (NdRet L ta tc rb w n s') := by
 have G := G2.good
 have C := Hd (((Cx.start h).alloc (drO rb) (a := w.heap.size) rfl).alloc nzO (a := w.heap.size + 1) (by simp))
 have hlt := h.lt
 unfold stmtF at hr
 have HD := Hd (rDeep_any C.out.ps nest (by omega))
 go_enter Tryz.func72, Tryz.ntmps72
 cases hd : s.deep nest with
 | true =>
   rw [hd, if_pos rfl] at hr HD
   obtain ⟨rfl, rfl⟩ := Prod.mk.inj (Option.some.inj hr)
   go_wp2_with fail
   refine (HD.out).mono ?_
   rintro e w1 ⟨rfl, h1, k1⟩
   replace C := Hd (C.out.call h1 k1)
   obtain ⟨q0, q1, q2, q3, q4, qf⟩ := nd_cells (C.out.var (i := 0) rfl)
   replace C := Hd (C.out.leaf eB eB 0 0)
   have hcc := C.out.var (i := 0) rfl
   go_wp2_with (refine stN rfl rfl rfl rfl hcc rfl rfl (by simp [Value.oneCell']) ?_)
   refine retN rfl rfl rfl (setRow_heap _ _ _ _ _ _ hcc) rfl ?_
   exact ⟨_, _, rfl, (C.out.set (i := 0) rfl rfl _).out (.head _)⟩
 | false =>
   rw [hd, if_neg (by simp)] at hr HD
   have hn2 : nest ≤ 200 := by unfold Ps.deep at hd; simp at hd; omega
   have g1 : IntKind.i64.wrap ((nest : Int) + 1) = ((nest + 1 : Nat) : Int) := by rw [IntWalk.i64_in _ (by omega)]; omega
   go_wp2_with fail
   refine (HD.out).mono ?_
   rintro e w1 ⟨rfl, h1, k1⟩
   replace C := Hd (C.out.call h1 k1)
   clear HD
   obtain ⟨t, ht⟩ : ∃ t, t = tokP L s.at_ := ⟨_, rfl⟩
   rw [← ht] at hr
   obtain ⟨i, hi⟩ : ∃ i, i = s.at_ := ⟨_, rfl⟩
   have hT := Hd (tok_reg C.out.ps)
   obtain ⟨_, _, _, y, _, _, _⟩ := C.out.ps.cells
   have hdr := C.out.var (i := 1) rfl
   have hls := lt_of_block hdr
   have HSB : Hid (∀ x, Below w1.heap.size w1 x → x.heap[w.heap.size]? = some (drO rb)) := Hd fun x hx => (hx.block _ hls).trans hdr
   have hbA : Below w1.heap.size w1 w1.drew := (Below.refl _ w1).drew
   have hbB : Below w1.heap.size w1 (w1.alloc ctZ).drew := ((Below.refl _ w1).alloc (Nat.le_refl _) ctZ).drew
   have hltW := C.out.ps.lt
   unfold ctV at hT
   rw [← ht, ← hi] at hT
   rw [← hi] at y
   replace ht := Hd ht
   replace hi := Hd hi
   obtain ⟨z0, zf⟩ := dr_cell hdr
   replace hdr := Hd hdr
   go_upto_region 4 with fail
   go_cut [5,6] from 18 to 25 (fun v5 v6 wx => v5 = .int .i64 i ∧ ∃ g, v6 = .pointer (some ⟨g, 0, none⟩) ∧ Hid (Below w1.heap.size w1 wx) ∧ Hid (wx.heap[g]? = some (ctO t)) ∧ Hid (w1.heap.size ≤ g))
   case first =>
    go_region_with (first
     | (go_at_call 100; refine (hT.out _ hbA).mono ?_; rintro e w2 ⟨rfl, d1, hz1, hb1, hw1, hl1, d1b, d1c⟩; obtain ⟨z0, zf⟩ := dr_cell (HSB.out _ hw1); have hls1 := lt_of_block (HSB.out _ hw1))
     | (go_at_call 100; refine (hT.out _ hbB).mono ?_; rintro e w2 ⟨rfl, d1, hz1, hb1, hw1, hl1, d1b, d1c⟩; obtain ⟨z0, zf⟩ := dr_cell (HSB.out _ hw1); obtain ⟨x0, x1, x2, x3, x4, x5, x6, xf⟩ := cells7 (kept_one hb1)))
    all_goals
     go_wp2_with fail
     go_meet
     case rel =>
      first
       | with_reducible exact ⟨rfl, _, rfl, Hd (hw1.trans ((Below.refl _ w2).alloc hw1.size _)), Hd (heap_alloc_new _ _), Hd hw1.size⟩
       | with_reducible exact ⟨rfl, _, rfl, Hd (ct_set7_below hw1 (Nat.le_refl _)), Hd (ct_set7 (kept_one hb1)), Hd (Nat.le_refl _)⟩
   case rest =>
    obtain ⟨rfl, gt, rfl, hbw, hgt, hge⟩ := hcut
    obtain rfl := hi.out
    replace C := Hd (C.out.belowV hbw.out hgt.out hge.out)
    clear hT y hbA hbB hltW hbw hgt hge HSB hls hdr z0 zf
    obtain ⟨z0, zf⟩ := dr_cell (C.out.var (i := 2) rfl)
    have HI := Hd (rIs_any C.out.ps (⟨#[123]⟩ : ByteArray))
    cases p1 : isP L s (⟨#[123]⟩ : ByteArray) with
    | true =>
      rw [p1, if_pos rfl] at hr
      rw [p1] at HI
      replace hr := Hd hr
      go_wp2_with fail
      refine (HI.out).mono ?_
      rintro e w5 ⟨rfl, hb5⟩
      replace C := Hd (C.out.below hb5)
      clear z0 zf
      obtain ⟨z0, zf⟩ := dr_cell (C.out.var (i := 2) rfl)
      go_wp2_with fail
      refine (G2.block C.out.ps (by omega) hr.out).mono ?_
      rintro e w6 ⟨ao6, cap6, rfl, hn6, h6, k6⟩
      replace C := Hd (C.out.ret hn6 h6 k6)
      unfold ndV
      have hcc := C.out.var (i := 1) rfl
      go_wp2_with (refine stN rfl rfl rfl rfl hcc rfl rfl (by simp [Value.oneCell']) ?_)
      refine retN rfl rfl rfl (setRow_heap _ _ _ _ _ _ hcc) rfl ?_
      exact ⟨_, _, rfl, (C.out.set (i := 1) rfl rfl _).out (.head _)⟩
    | false =>
      rw [p1, if_neg (by simp)] at hr
      rw [p1] at HI
      go_wp2_with fail
      refine (HI.out).mono ?_
      rintro e w5 ⟨rfl, hb5⟩
      replace C := Hd (C.out.below hb5)
      clear z0 zf HI
      obtain ⟨z0, zf⟩ := dr_cell (C.out.var (i := 2) rfl)
      obtain ⟨x0, x1, x2, x3, x4, x5, x6, xf⟩ := ct_box (C.out.var (i := 0) rfl)
      have HB := Hd (rBehind_any C.out.ps (⟨#[58]⟩ : ByteArray))
      by_cases hlab : t.kind = 1 ∧ behP L s (⟨#[58]⟩ : ByteArray) = true
      ·rw [if_pos hlab] at hr
       rw [hlab.2] at HB
       have hin := tok_in (L := L) (i := s.at_ + 1) (by
        have := hlab.2
        unfold behP isT at this
        simp only [Bool.and_eq_true, decide_eq_true_eq] at this
        rw [this.1]; decide)
       have hin2 : s.at_ + 2 ≤ L.length := by have := hin.2.1; omega
       have hlo : -1 ≤ s.at_ := by have := hin.1; omega
       have hlen := h.len
       have g3 : IntKind.i64.wrap (s.at_ + 2) = s.at_ + 2 := IntWalk.i64_in _ (by omega)
       have hk := hlab.1
       rw [hk] at x0
       clear hlab hin hlen
       obtain ⟨⟨b, z1⟩, hb1, hb2⟩ := Option.bind_eq_some_iff.1 hr
       simp only at hb2
       replace hb1 := Hd hb1
       replace hb2 := Hd hb2
       clear hr
       obtain ⟨rfl, rfl⟩ := Prod.mk.inj (Option.some.inj hb2.out)
       clear hb2
       go_wp2_with fail
       refine (HB.out).mono ?_
       rintro e w6 ⟨rfl, hb6⟩
       replace C := Hd (C.out.below hb6)
       clear HB z0 zf x0 x1 x2 x3 x4 x5 x6 xf
       obtain ⟨z0, zf⟩ := dr_cell (C.out.var (i := 2) rfl)
       try clear c0 c1 c2 c3 cf
       obtain ⟨p4, he4, c0, c1, c2, c3, cf⟩ := C.out.ps.cells
       clear he4
       replace C := Hd (C.out.up (n := 2) (by omega) hin2)
       go_upto_region 9 with fail
       clear z0 zf c0 c1 c2 c3 cf
       obtain ⟨z0, zf⟩ := dr_cell (C.out.var (i := 2) rfl)
       go_wp2_with fail
       refine (G2.stmt C.out.ps (by omega) hb1.out).mono ?_
       rintro e w20 ⟨ao20, cap20, rfl, hn20, h20, k20⟩
       replace C := Hd (C.out.ret hn20 h20 k20)
       unfold ndV
       replace C := Hd (C.out.alloc (bxO b ao20 cap20) (a := w20.heap.size) rfl)
       clear z0 zf
       obtain ⟨z0, zf⟩ := dr_cell (C.out.var (i := 3) rfl)
       obtain ⟨x0, x1, x2, x3, x4, x5, x6, xf⟩ := ct_box (C.out.var (i := 1) rfl)
       obtain ⟨b0, b1, b2, b3, b4, bf⟩ := nd_cells (C.out.var (i := 0) rfl)
       replace C := Hd (C.out.lit [⟨b, ao20, cap20⟩] (by simp) (by simp) rfl (a := w20.heap.size + 1) (by simp) (n := 1) rfl)
       go_wp2_with fail
       refine (rMake_any C.out.ps (⟨#[108,97,98,101,108]⟩ : ByteArray) t.text s.at_ _ _ _).mono ?_
       rintro e w21 ⟨rfl, hb21⟩
       replace C := Hd (C.out.made hb21 (by simp) (⟨#[108,97,98,101,108]⟩ : ByteArray) t.text s.at_)
       clear b0 b1 b2 b3 b4 bf x0 x1 x2 x3 x4 x5 x6 xf
       obtain rfl := ht.out
       have hcc := C.out.var (i := 2) rfl
       go_wp2_with (refine stN rfl rfl rfl rfl hcc rfl rfl (by simp [Value.oneCell']) ?_)
       refine retN rfl rfl rfl (setRow_heap _ _ _ _ _ _ hcc) rfl ?_
       exact ⟨_, _, rfl, (C.out.set (i := 2) rfl rfl _).out (.head _)⟩
      ·rw [if_neg hlab] at hr
       by_cases hk1 : t.kind = 1
       ·have hbf : behP L s (⟨#[58]⟩ : ByteArray) = false := by
         cases e : behP L s (⟨#[58]⟩ : ByteArray) with
         | false => rfl
         | true => exact absurd ⟨hk1, e⟩ hlab
        rw [hbf] at HB
        clear hlab hbf
        have hk2 : ¬ t.kind = 2 := by omega
        rw [hk1] at x0
        replace hk1 := Hd hk1
        go_wp2_with fail
        refine (HB.out).mono ?_
        rintro e w6 ⟨rfl, hb6⟩
        replace C := Hd (C.out.below hb6)
        clear HB
        clear x0 x1 x2 x3 x4 x5 x6 xf
        try clear z0 zf
        obtain ⟨z0, zf⟩ := dr_cell (C.out.var (i := 2) rfl)
        cases p2 : hasP L s (⟨#[59]⟩ : ByteArray) with
        | true =>
          rw [p2, if_pos rfl] at hr
          obtain ⟨rfl, rfl⟩ := Prod.mk.inj (Option.some.inj hr)
          have HH := Hd (rHas_any C.out.ps (⟨#[59]⟩ : ByteArray))
          rw [p2, if_pos rfl] at HH
          go_wp2_with fail
          refine (HH.out).mono ?_
          rintro e w7 ⟨rfl, h7, k7⟩
          replace C := Hd (C.out.call h7 k7)
          clear HH
          try clear z0 zf
          obtain ⟨z0, zf⟩ := dr_cell (C.out.var (i := 2) rfl)
          go_wp2_with fail
          refine (rMake_any C.out.ps (⟨#[101,109,112,116,121]⟩ : ByteArray) ⟨#[]⟩ s.at_ _ _ _).mono ?_
          rintro e w21 ⟨rfl, hb21⟩
          replace C := Hd (C.out.made hb21 (by simp) (⟨#[101,109,112,116,121]⟩ : ByteArray) ⟨#[]⟩ s.at_)
          have hcc := C.out.var (i := 1) rfl
          go_wp2_with (refine stN rfl rfl rfl rfl hcc rfl rfl (by simp [Value.oneCell']) ?_)
          refine retN rfl rfl rfl (setRow_heap _ _ _ _ _ _ hcc) rfl ?_
          exact ⟨_, _, rfl, (C.out.set (i := 1) rfl rfl _).out (.head _)⟩
        | false =>
          rw [p2, if_neg (by simp), if_neg hk2] at hr
          have HH := Hd (rHas_any C.out.ps (⟨#[59]⟩ : ByteArray))
          rw [p2, if_neg (by simp)] at HH
          go_wp2_with fail
          refine (HH.out).mono ?_
          rintro e w7 ⟨rfl, h7, k7⟩
          replace C := Hd (C.out.call h7 k7)
          clear HH
          obtain ⟨x0, x1, x2, x3, x4, x5, x6, xf⟩ := ct_box (C.out.var (i := 0) rfl)
          rw [hk1.out] at x0
          have hr2 := hr
          unfold exprS at hr2
          obtain ⟨⟨b, z1⟩, hb1, hb2⟩ := Option.bind_eq_some_iff.1 hr2
          simp only at hb2
          replace hb1 := Hd hb1
          replace hb2 := Hd hb2
          clear hr2
          obtain ⟨rfl, rfl⟩ := Prod.mk.inj (Option.some.inj hb2.out)
          clear hb2
          try clear z0 zf
          obtain ⟨z0, zf⟩ := dr_cell (C.out.var (i := 2) rfl)
          go_wp2_with fail
          refine (G.expr C.out.ps (by omega) hb1.out).mono ?_
          rintro e w30 ⟨ao30, cap30, rfl, hn30, h30, k30⟩
          replace C := Hd (C.out.ret hn30 h30 k30)
          unfold ndV
          replace C := Hd (C.out.alloc (bxO b ao30 cap30) (a := w30.heap.size) rfl)
          try clear z0 zf
          obtain ⟨z0, zf⟩ := dr_cell (C.out.var (i := 3) rfl)
          go_wp2_with fail
          refine (rNeed_any C.out.ps (⟨#[59]⟩ : ByteArray)).mono ?_
          rintro e w31 ⟨rfl, h31, k31⟩
          replace C := Hd (C.out.call h31 k31)
          try clear z0 zf
          obtain ⟨z0, zf⟩ := dr_cell (C.out.var (i := 3) rfl)
          obtain ⟨b0, b1, b2, b3, b4, bf⟩ := nd_cells (C.out.var (i := 0) rfl)
          replace C := Hd (C.out.lit [⟨b, ao30, cap30⟩] (by simp) (by simp) rfl (a := w31.heap.size) rfl (n := 1) rfl)
          go_wp2_with fail
          refine (rMake_any C.out.ps (⟨#[101,120,112,114]⟩ : ByteArray) ⟨#[]⟩ s.at_ _ _ _).mono ?_
          rintro e w32 ⟨rfl, hb32⟩
          replace C := Hd (C.out.made hb32 (by simp) (⟨#[101,120,112,114]⟩ : ByteArray) ⟨#[]⟩ s.at_)
          clear b0 b1 b2 b3 b4 bf
          have hcc := C.out.var (i := 2) rfl
          go_wp2_with (refine stN rfl rfl rfl rfl hcc rfl rfl (by simp [Value.oneCell']) ?_)
          refine retN rfl rfl rfl (setRow_heap _ _ _ _ _ _ hcc) rfl ?_
          exact ⟨_, _, rfl, (C.out.set (i := 2) rfl rfl _).out (.head _)⟩
       ·have hk1' : (t.kind == 1) = false := beq_false_of_ne hk1
        clear hlab HB
        cases p2 : hasP L s (⟨#[59]⟩ : ByteArray) with
        | true =>
          rw [p2, if_pos rfl] at hr
          obtain ⟨rfl, rfl⟩ := Prod.mk.inj (Option.some.inj hr)
          have HH := Hd (rHas_any C.out.ps (⟨#[59]⟩ : ByteArray))
          rw [p2, if_pos rfl] at HH
          go_wp2_with fail
          refine (HH.out).mono ?_
          rintro e w7 ⟨rfl, h7, k7⟩
          replace C := Hd (C.out.call h7 k7)
          clear HH
          try clear z0 zf
          obtain ⟨z0, zf⟩ := dr_cell (C.out.var (i := 2) rfl)
          go_wp2_with fail
          refine (rMake_any C.out.ps (⟨#[101,109,112,116,121]⟩ : ByteArray) ⟨#[]⟩ s.at_ _ _ _).mono ?_
          rintro e w21 ⟨rfl, hb21⟩
          replace C := Hd (C.out.made hb21 (by simp) (⟨#[101,109,112,116,121]⟩ : ByteArray) ⟨#[]⟩ s.at_)
          have hcc := C.out.var (i := 1) rfl
          go_wp2_with (refine stN rfl rfl rfl rfl hcc rfl rfl (by simp [Value.oneCell']) ?_)
          refine retN rfl rfl rfl (setRow_heap _ _ _ _ _ _ hcc) rfl ?_
          exact ⟨_, _, rfl, (C.out.set (i := 1) rfl rfl _).out (.head _)⟩
        | false =>
          rw [p2, if_neg (by simp)] at hr
          by_cases hk2 : t.kind = 2
          ·rw [if_pos hk2] at hr
           have hin := tok_in (L := L) (i := s.at_) (by rw [← ht.out, hk2]; decide)
           have hin2 := Hd hin.2.1
           clear hin
           obtain ⟨⟨r, z1⟩, hr1, hr2⟩ := Option.bind_eq_some_iff.1 hr
           simp only at hr2
           replace hr1 := Hd hr1
           replace hr2 := Hd hr2
           clear hr
           obtain ⟨m, bo⟩ := r
           have HH := Hd (rHas_any C.out.ps (⟨#[59]⟩ : ByteArray))
           rw [p2, if_neg (by simp)] at HH
           go_wp2_with fail
           refine (HH.out).mono ?_
           rintro e w7 ⟨rfl, h7, k7⟩
           replace C := Hd (C.out.call h7 k7)
           clear HH
           try clear z0 zf
           obtain ⟨z0, zf⟩ := dr_cell (C.out.var (i := 2) rfl)
           clear x0 x1 x2 x3 x4 x5 x6 xf
           obtain ⟨x0, x1, x2, x3, x4, x5, x6, xf⟩ := ct_box (C.out.var (i := 0) rfl)
           rw [hk2] at x0
           clear hk1' hk1
           replace hk2 := Hd hk2
           have HW := Hd (word_any G2 C.out.ps (by omega) hin2.out hr1.out)
           go_wp2_with fail
           refine (HW.out).mono ?_
           rintro e w9 ⟨ao9, cap9, rfl, hn9, h9, k9⟩
           replace C := Hd (C.out.ret hn9 h9 k9)
           unfold ndV
           replace C := Hd (C.out.alloc (bxO m ao9 cap9) (a := w9.heap.size) rfl)
           clear x0 x1 x2 x3 x4 x5 x6 xf HW
           try clear z0 zf
           obtain ⟨z0, zf⟩ := dr_cell (C.out.var (i := 3) rfl)
           obtain ⟨b0, b1, b2, b3, b4, bf⟩ := nd_cells (C.out.var (i := 0) rfl)
           have hr2 := hr2.out
           cases bo with
           | true =>
             rw [if_pos rfl] at hr2
             obtain ⟨rfl, rfl⟩ := Prod.mk.inj (Option.some.inj hr2)
             have hcc := C.out.var (i := 2) rfl
             go_wp2_with (refine stN rfl rfl rfl rfl hcc rfl rfl (by simp [Value.oneCell']) ?_)
             refine retN rfl rfl rfl (setRow_heap _ _ _ _ _ _ hcc) rfl ?_
             exact ⟨_, _, rfl, (C.out.set (i := 2) rfl rfl _).out (.head _)⟩
           | false =>
             rw [if_neg (by simp)] at hr2
             clear b0 b1 b2 b3 b4 bf
             have hz9 := (wordF_false hr1.out).symm
             subst hz9
             have hr3 := hr2
             clear hr2
             have hr2 := hr3
             unfold exprS at hr2
             obtain ⟨⟨b, z1⟩, hb1, hb2⟩ := Option.bind_eq_some_iff.1 hr2
             simp only at hb2
             replace hb1 := Hd hb1
             replace hb2 := Hd hb2
             clear hr2
             obtain ⟨rfl, rfl⟩ := Prod.mk.inj (Option.some.inj hb2.out)
             clear hb2
             try clear z0 zf
             obtain ⟨z0, zf⟩ := dr_cell (C.out.var (i := 3) rfl)
             go_wp2_with fail
             refine (G.expr C.out.ps (by omega) hb1.out).mono ?_
             rintro e w30 ⟨ao30, cap30, rfl, hn30, h30, k30⟩
             replace C := Hd (C.out.ret hn30 h30 k30)
             unfold ndV
             replace C := Hd (C.out.alloc (bxO b ao30 cap30) (a := w30.heap.size) rfl)
             try clear z0 zf
             obtain ⟨z0, zf⟩ := dr_cell (C.out.var (i := 4) rfl)
             go_wp2_with fail
             refine (rNeed_any C.out.ps (⟨#[59]⟩ : ByteArray)).mono ?_
             rintro e w31 ⟨rfl, h31, k31⟩
             replace C := Hd (C.out.call h31 k31)
             try clear z0 zf
             obtain ⟨z0, zf⟩ := dr_cell (C.out.var (i := 4) rfl)
             obtain ⟨b0, b1, b2, b3, b4, bf⟩ := nd_cells (C.out.var (i := 0) rfl)
             replace C := Hd (C.out.lit [⟨b, ao30, cap30⟩] (by simp) (by simp) rfl (a := w31.heap.size) rfl (n := 1) rfl)
             go_wp2_with fail
             refine (rMake_any C.out.ps (⟨#[101,120,112,114]⟩ : ByteArray) ⟨#[]⟩ s.at_ _ _ _).mono ?_
             rintro e w32 ⟨rfl, hb32⟩
             replace C := Hd (C.out.made hb32 (by simp) (⟨#[101,120,112,114]⟩ : ByteArray) ⟨#[]⟩ s.at_)
             clear b0 b1 b2 b3 b4 bf
             have hcc := C.out.var (i := 3) rfl
             go_wp2_with (refine stN rfl rfl rfl rfl hcc rfl rfl (by simp [Value.oneCell']) ?_)
             refine retN rfl rfl rfl (setRow_heap _ _ _ _ _ _ hcc) rfl ?_
             exact ⟨_, _, rfl, (C.out.set (i := 3) rfl rfl _).out (.head _)⟩
          ·rw [if_neg hk2] at hr
           have hk2' : (t.kind == 2) = false := beq_false_of_ne hk2
           have HH := Hd (rHas_any C.out.ps (⟨#[59]⟩ : ByteArray))
           rw [p2, if_neg (by simp)] at HH
           go_wp2_with fail
           refine (HH.out).mono ?_
           rintro e w7 ⟨rfl, h7, k7⟩
           replace C := Hd (C.out.call h7 k7)
           clear HH
           clear x0 x1 x2 x3 x4 x5 x6 xf
           obtain ⟨x0, x1, x2, x3, x4, x5, x6, xf⟩ := ct_box (C.out.var (i := 0) rfl)
           have hr2 := hr
           unfold exprS at hr2
           obtain ⟨⟨b, z1⟩, hb1, hb2⟩ := Option.bind_eq_some_iff.1 hr2
           simp only at hb2
           replace hb1 := Hd hb1
           replace hb2 := Hd hb2
           clear hr2
           obtain ⟨rfl, rfl⟩ := Prod.mk.inj (Option.some.inj hb2.out)
           clear hb2
           try clear z0 zf
           obtain ⟨z0, zf⟩ := dr_cell (C.out.var (i := 2) rfl)
           go_wp2_with fail
           refine (G.expr C.out.ps (by omega) hb1.out).mono ?_
           rintro e w30 ⟨ao30, cap30, rfl, hn30, h30, k30⟩
           replace C := Hd (C.out.ret hn30 h30 k30)
           unfold ndV
           replace C := Hd (C.out.alloc (bxO b ao30 cap30) (a := w30.heap.size) rfl)
           try clear z0 zf
           obtain ⟨z0, zf⟩ := dr_cell (C.out.var (i := 3) rfl)
           go_wp2_with fail
           refine (rNeed_any C.out.ps (⟨#[59]⟩ : ByteArray)).mono ?_
           rintro e w31 ⟨rfl, h31, k31⟩
           replace C := Hd (C.out.call h31 k31)
           try clear z0 zf
           obtain ⟨z0, zf⟩ := dr_cell (C.out.var (i := 3) rfl)
           obtain ⟨b0, b1, b2, b3, b4, bf⟩ := nd_cells (C.out.var (i := 0) rfl)
           replace C := Hd (C.out.lit [⟨b, ao30, cap30⟩] (by simp) (by simp) rfl (a := w31.heap.size) rfl (n := 1) rfl)
           go_wp2_with fail
           refine (rMake_any C.out.ps (⟨#[101,120,112,114]⟩ : ByteArray) ⟨#[]⟩ s.at_ _ _ _).mono ?_
           rintro e w32 ⟨rfl, hb32⟩
           replace C := Hd (C.out.made hb32 (by simp) (⟨#[101,120,112,114]⟩ : ByteArray) ⟨#[]⟩ s.at_)
           clear b0 b1 b2 b3 b4 bf
           have hcc := C.out.var (i := 2) rfl
           go_wp2_with (refine stN rfl rfl rfl rfl hcc rfl rfl (by simp [Value.oneCell']) ?_)
           refine retN rfl rfl rfl (setRow_heap _ _ _ _ _ _ hcc) rfl ?_
           exact ⟨_, _, rfl, (C.out.set (i := 2) rfl rfl _).out (.head _)⟩
end Go.Proofs.YtllbbacnakoomaaGreatDoor
