/- Texts of this seat's proofs, laid into one file. -/
import Derived.Test.YtllbbacnakoomaaGreatDoorD7
import Derived.Test.YtllbbacnakoomaaGreatDoorS23
set_option maxRecDepth 100000
set_option maxHeartbeats 16000000
namespace Go.Proofs.YtllbbacnakoomaaGreatDoor
open Go.RowKit
set_option linter.unusedVariables false
theorem Cx.startKN {L : List Ct} {ta : Option Addr} {tc rb : Nat} {s : Ps} {ks : List T} {v : Value} {w : World} {G : Nat → Prop} {ns : List Nd} (h : PS L ta tc rb s w) (hk : RowIn w rb G ks v) (hn : ∀ x ∈ ns, Rep w G x.n x.cs) : Cx L ta tc rb (fun k => G k ∧ k < w.heap.size) v.ownBlock w s ns [] ks v w := by
 have C := Cx.startK h hk
 exact ⟨C.ps, C.kp, C.fr, C.rb0, C.tlo, C.vok, C.vnd, C.own, C.olo, C.ovs, fun x hx => (hn x hx).wide fun k hk' hl => ⟨.inl ⟨hk', hl⟩, by simp, hk.apart k hk'⟩⟩
theorem rest_row {L : List Ct} {ta : Option Addr} {tc rb : Nat} {R : Rec} (G : Good L ta tc rb R) {w : World} {s : Ps} {ks : List T} {ao : Option Addr} {m0 cap nest : Nat} {d : T} {da : Option Addr} {dc : Nat} {n : List T} {s' : Ps} {H : Nat → Prop} (h : PS L ta tc rb s w) (hk : RowIn w rb H ks (.slice ao m0 cap)) (hd : Rep w H d (ndC d da dc)) (hm0 : ks.length = m0) (hm1 : m0 ≤ 6000) (hm2 : 1 ≤ m0) (hn : nest ≤ 1000) (hr : restLoop L R nest KK ks d s = some (n, s')) :
 Calls Tryz.prog 121 #[drV rb, .slice ao m0 cap, ndV d da dc, .int .i64 nest] w (RowRet L ta tc rb H (.slice ao m0 cap) w n s') := by
 have C := Hd (((Cx.startKN h hk (ns := [⟨d, da, dc⟩]) (by intro x hx; simp at hx; subst hx; exact hd)).alloc (drO rb) (a := w.heap.size) rfl).alloc (bxO d da dc) (a := w.heap.size + 1) (by simp))
 have hlt := h.lt
 obtain ⟨O, hO⟩ : ∃ O, O = (Value.slice ao m0 cap).ownBlock := ⟨_, rfl⟩
 rw [← hO] at C
 replace hO := Hd hO
 replace hr := Hd hr
 replace hm0 := Hd hm0
 replace hm2 := Hd hm2
 unfold ndV
 go_enter Tryz.func121, Tryz.ntmps121
 go_wp2_with fail
 refine wp_scope_gh 0 (fun q a' wx => ∃ (k : List T) (z : Ps) (d : T) (da : Option Addr) (dc : Nat) (m : Nat) (ao3 : Option Addr) (cap3 : Nat) (u2 u5 u7 u9 u10 u11 u12 u13 u14 u15 u16 u17 u18 u19 u20 u21 u22 u23 u24 u25 u26 u27 u28 u29 u30 u31 u32 u33 u34 u35 u36 u37 u38 u39 u40 u41 u42 : Value), a' = { tmps := #[drV rb, .slice ao3 m cap3, u2, .int .i64 nest, .pointer (some ⟨w.heap.size, 0, none⟩), u5, .pointer (some ⟨w.heap.size + 1,0, none⟩), u7, .slice none 0 0, u9, u10, u11, u12, u13, u14, u15, u16, u17, u18, u19, u20, u21, u22, u23, u24, u25, u26, u27, u28, u29, u30, u31, u32, u33, u34, u35, u36, u37, u38, u39, u40, u41, u42], defers := [] } ∧ Hid (k.length = m) ∧ Hid (m + q ≤ 20000) ∧ Hid (1 ≤ m) ∧ Hid (Cx L ta tc rb (fun k => H k ∧ k < w.heap.size) O w z [⟨d, da, dc⟩] [(w.heap.size + 1, bxO d da dc), (w.heap.size, drO rb)] k (.slice ao3 m cap3) wx) ∧ Hid (restLoop L R nest q k d z = some (n, s'))) rfl ?_ ?_
 ·intro Rst
  go_wp2_with fail
  go_step3
  go_step
  go_step
  exact Rst.out KK _ _ ⟨_, _, _, _, _, _, _, _, _, _, _, _, _, _, _, _, _, _, _, _, _, _, _, _, _, _, _, _, _, _, _, _, _, _, _, _, _, _, _, _, _, _, _, _, _, rfl, hm0, Hd (by unfold KK; omega), hm2, C, hr⟩
 ·rintro q a' wx ⟨k, z, d, da, dc, m, ao3, cap3, u2, u5, u7, u9, u10, u11, u12, u13, u14, u15, u16, u17, u18, u19, u20, u21, u22, u23, u24, u25, u26, u27, u28, u29, u30, u31, u32, u33, u34, u35, u36, u37, u38, u39, u40, u41, u42, rfl, hm, hq, hm1, C0, hL⟩
  have Cx := C
  clear Cx C hr hk
  have C := C0
  clear C0
  cases q with
  | zero => exact absurd hL.out (by simp [restLoop])
  | succ q =>
    have hL2 := hL.out
    unfold restLoop at hL2
    obtain ⟨⟨x, z1⟩, hx1, hx2⟩ := Option.bind_eq_some_iff.1 hL2
    simp only at hx2
    clear hL2
    obtain ⟨z0, zf⟩ := dr_cell (C.out.var (i := 1) rfl)
    cases p1 : hasP L z (⟨#[61]⟩ : ByteArray) with
    | true =>
      rw [p1, if_pos rfl] at hx1
      obtain ⟨⟨b, zb⟩, hb1, hb2⟩ := Option.bind_eq_some_iff.1 hx1
      simp only at hb2
      replace hb1 := Hd hb1
      replace hb2 := Hd hb2
      clear hx1
      obtain ⟨rfl, rfl⟩ := Prod.mk.inj (Option.some.inj hb2.out)
      clear hb2
      have HH := Hd (rHas_any C.out.ps (⟨#[61]⟩ : ByteArray))
      rw [p1, if_pos rfl] at HH
      go_wp2_with fail
      refine (HH.out).mono ?_
      rintro e w2 ⟨rfl, h2, k2⟩
      replace C := Hd (C.out.call h2 k2)
      clear HH
      clear z0 zf
      obtain ⟨z0, zf⟩ := dr_cell (C.out.var (i := 1) rfl)
      go_wp2_with fail
      refine (G.init C.out.ps hn hb1.out).mono ?_
      rintro e w3 ⟨ao3, cap3, rfl, hn3, h3, k3⟩
      replace C := Hd (C.out.ret hn3 h3 k3)
      unfold ndV
      clear z0 zf
      replace C := Hd (C.out.alloc (bxO b ao3 cap3) (a := w3.heap.size) rfl)
      obtain ⟨z0, zf⟩ := dr_cell (C.out.var (i := 2) rfl)
      obtain ⟨b0, b1, b2, b3, b4, bf⟩ := nd_cells (C.out.var (i := 0) rfl)
      obtain ⟨q0, q1, q2, q3, q4, qf⟩ := nd_cells (C.out.var (i := 1) rfl)
      have C2 := Hd (C.out.litN [⟨d, da, dc⟩, ⟨b, ao3, cap3⟩] (by simp) (by simp) rfl (a := w3.heap.size + 1) (by simp) (n := 2) rfl (⟨#[105,110,105,116]⟩ : ByteArray) ⟨#[]⟩ d.from_)
      go_wp2_with fail
      refine (rMake_any (C.out.below ((Below.refl _ _).alloc (Nat.le_refl _) _)).ps (⟨#[105,110,105,116]⟩ : ByteArray) ⟨#[]⟩ d.from_ _ _ _).mono ?_
      rintro e w4 ⟨rfl, hb4⟩
      replace C := Hd (C2.out.below hb4)
      clear C2
      clear z0 zf b0 b1 b2 b3 b4 bf q0 q1 q2 q3 q4 qf
      have hcc := C.out.var (i := 1) rfl
      replace C := Hd ((C.out.set (i := 1) rfl rfl #[.string (⟨#[105,110,105,116]⟩ : ByteArray), .string ⟨#[]⟩, .int .i64 d.from_, .int .i64 zb.at_, .slice (some ⟨w3.heap.size + 1,0, none⟩) 2 2]).weak mem1 ((List.Sublist.refl _).cons _))
      obtain ⟨z0, zf⟩ := dr_cell (C.out.var (i := 1) rfl)
      obtain ⟨q0, q1, q2, q3, q4, qf⟩ := nd_cells (C.out.var (i := 0) rfl)
      go_wp2_with (first | (refine wpList_store_row rfl 50 _ _ rfl (w.heap.size + 1) _ rfl rfl 50 _ hcc info_nd rfl (by simp [Value.oneCell']) ?_) | (refine wpList_snoc C.out (.head _) (by have := hm.out; have := hq.out; omega) rfl rfl rfl rfl (by simp [World.setRow]) ?_; intro m8 ao8 cap8 w10 hm8 C8; obtain ⟨z0, zf⟩ := dr_cell (C8.var (i := 1) rfl)))
      replace C := Hd C8
      clear C8
      have hq8 : Hid (m8 + q ≤ 20000) := Hd (by have h1 := hm8.out; have := hm.out; have := hq.out; simp at h1; omega)
      have hl8 : Hid (1 ≤ m8) := Hd (by have h1 := hm8.out; simp at h1; omega)
      have HH := Hd (rHas_any C.out.ps (⟨#[44]⟩ : ByteArray))
      cases p2 : hasP L zb (⟨#[44]⟩ : ByteArray) with
      | false =>
        rw [p2, if_neg (by simp)] at hx2 HH
        obtain ⟨rfl, rfl⟩ := Prod.mk.inj (Option.some.inj hx2)
        refine HH.out.mono ?_
        rintro e w11 ⟨rfl, h11, k11⟩
        replace C := Hd (C.out.call h11 k11)
        go_wp2_with fail
        try simp only [Exit.jump]
        go_ret
        rw [hO.out] at C
        exact C.out.rowOut hm8 (Hd (by have := hq8.out; omega))
      | true =>
        rw [p2, if_pos rfl] at hx2 HH
        obtain ⟨⟨e1, z3⟩, he1, he2⟩ := Option.bind_eq_some_iff.1 hx2
        simp only at he2
        replace he1 := Hd he1
        replace he2 := Hd he2
        clear hx2
        refine HH.out.mono ?_
        rintro e w11 ⟨rfl, h11, k11⟩
        replace C := Hd (C.out.call h11 k11)
        clear z0 zf q0 q1 q2 q3 q4 qf
        obtain ⟨z0, zf⟩ := dr_cell (C.out.var (i := 1) rfl)
        have HD2 := Hd (G.declr C.out.ps hn (by omega) he1.out)
        go_wp2_with fail
        refine (HD2.out).mono ?_
        rintro e w12 ⟨ao12, cap12, rfl, hn12, h12, k12⟩
        replace C := Hd (C.out.ret hn12 h12 k12)
        unfold ndV
        clear z0 zf HD2
        have hcc := C.out.var (i := 0) rfl
        replace C := Hd (C.out.set (i := 0) rfl rfl (rowA e1 ao12 cap12))
        obtain ⟨w30, hw30⟩ : ∃ W, W = w12.setRow (w.heap.size + 1) (rowA e1 ao12 cap12) := ⟨_, rfl⟩
        rw [← hw30] at C
        obtain ⟨z0, zf⟩ := dr_cell (C.out.var (i := 1) rfl)
        obtain ⟨b0, b1, b2, b3, b4, bf⟩ := nd_cells (C.out.var (i := 0) rfl)
        obtain ⟨a, ha0, haH⟩ : ∃ a, (k ++ [(mkP (⟨#[105,110,105,116]⟩ : ByteArray) eB d.from_ zb [d, b])])[0]? = some a ∧ k.headD zT = a := by
         cases k with
         | nil => have := hm.out; have := hm1.out; simp at *; omega
         | cons y r => exact ⟨y, rfl, rfl⟩
        rw [haH] at he2
        obtain ⟨css, j1, j2⟩ := C.out.own
        obtain ⟨cs, hc0, hrep⟩ := j2.at ha0
        obtain ⟨xa, xp, rfl⟩ := rep_agg hrep
        obtain ⟨kb, ko, rfl, hat⟩ := j1.here (by intro e; rw [e] at hc0; cases hc0)
        have a0 := hat.cell hc0 (j := 0) rfl
        have a1 := hat.cell hc0 (j := 1) rfl
        have a2 := hat.cell hc0 (j := 2) rfl
        have a3 := hat.cell hc0 (j := 3) rfl
        have a4 := hat.cell hc0 (j := 4) rfl
        simp only [Nat.zero_mul, Nat.add_zero] at a0 a1 a2 a3 a4
        have hpos : (0 : Int) < (m8 : Int) := by have := hl8.out; omega
        have hpos2 : 0 < m8 := by have := hl8.out; omega
        have hrep2 := Hd hrep
        clear j1 j2 hat hrep
        go_upto_region 7 with (refine wpList_store_row rfl 50 _ _ rfl (w.heap.size + 1) _ rfl rfl 50 _ hcc info_nd rfl (by simp [Value.oneCell']) ?_)
        rw [← hw30]
        replace hw30 := Hd hw30
        replace hcc := Hd hcc
        go_still_tail 5, (by kernel_rfl)
        change wpList _ _ _ _ _ (w30).drew
        have hrep3 := Hd (hrep2.out.later (KeptOn.of_below (Below.refl _ w30).drew))
        replace C := Hd C.out.drew
        generalize (w30).drew = w31 at C hrep3 ⊢
        have HN := Hd (dnames_any C.out.ps hrep3.out (C.out.nok _ (.head _)))
        unfold ndV at HN
        go_wp2_with fail
        refine (HN.out).mono ?_
        rintro e w32 ⟨rfl, h32, k32⟩
        replace C := Hd (C.out.call h32 k32)
        go_wp2_with fail
        go_step3
        exact ⟨rfl, q, Nat.lt_succ_self _, _, _, _, _, _, _, _, _, _, _, _, _, _, _, _, _, _, _, _, _, _, _, _, _, _, _, _, _, _, _, _, _, _, _, _, _, _, _, _, _, _, _, _, _, _, rfl, hm8, hq8, hl8, Hd (C.out.weak mem1 (List.Sublist.refl _)), he2⟩
    | false =>
      rw [p1, if_neg (by simp)] at hx1
      obtain ⟨rfl, rfl⟩ := Prod.mk.inj (Option.some.inj hx1)
      clear hx1
      have HH := Hd (rHas_any C.out.ps (⟨#[61]⟩ : ByteArray))
      rw [p1, if_neg (by simp)] at HH
      go_wp2_with fail
      refine (HH.out).mono ?_
      rintro e w2 ⟨rfl, h2, k2⟩
      replace C := Hd (C.out.call h2 k2)
      clear HH
      obtain ⟨q0, q1, q2, q3, q4, qf⟩ := nd_cells (C.out.var (i := 0) rfl)
      go_wp2_with (first | fail | (refine wpList_snoc C.out (.head _) (by have := hm.out; have := hq.out; omega) rfl rfl rfl rfl rfl ?_; intro m8 ao8 cap8 w10 hm8 C8; obtain ⟨z0, zf⟩ := dr_cell (C8.var (i := 1) rfl)))
      replace C := Hd C8
      clear C8
      have hq8 : Hid (m8 + q ≤ 20000) := Hd (by have h1 := hm8.out; have := hm.out; have := hq.out; simp at h1; omega)
      have hl8 : Hid (1 ≤ m8) := Hd (by have h1 := hm8.out; simp at h1; omega)
      have HH := Hd (rHas_any C.out.ps (⟨#[44]⟩ : ByteArray))
      cases p2 : hasP L z (⟨#[44]⟩ : ByteArray) with
      | false =>
        rw [p2, if_neg (by simp)] at hx2 HH
        obtain ⟨rfl, rfl⟩ := Prod.mk.inj (Option.some.inj hx2)
        refine HH.out.mono ?_
        rintro e w11 ⟨rfl, h11, k11⟩
        replace C := Hd (C.out.call h11 k11)
        go_wp2_with fail
        try simp only [Exit.jump]
        go_ret
        rw [hO.out] at C
        exact C.out.rowOut hm8 (Hd (by have := hq8.out; omega))
      | true =>
        rw [p2, if_pos rfl] at hx2 HH
        obtain ⟨⟨e1, z3⟩, he1, he2⟩ := Option.bind_eq_some_iff.1 hx2
        simp only at he2
        replace he1 := Hd he1
        replace he2 := Hd he2
        clear hx2
        refine HH.out.mono ?_
        rintro e w11 ⟨rfl, h11, k11⟩
        replace C := Hd (C.out.call h11 k11)
        clear z0 zf q0 q1 q2 q3 q4 qf
        obtain ⟨z0, zf⟩ := dr_cell (C.out.var (i := 1) rfl)
        have HD2 := Hd (G.declr C.out.ps hn (by omega) he1.out)
        go_wp2_with fail
        refine (HD2.out).mono ?_
        rintro e w12 ⟨ao12, cap12, rfl, hn12, h12, k12⟩
        replace C := Hd (C.out.ret hn12 h12 k12)
        unfold ndV
        clear z0 zf HD2
        have hcc := C.out.var (i := 0) rfl
        replace C := Hd (C.out.set (i := 0) rfl rfl (rowA e1 ao12 cap12))
        obtain ⟨w30, hw30⟩ : ∃ W, W = w12.setRow (w.heap.size + 1) (rowA e1 ao12 cap12) := ⟨_, rfl⟩
        rw [← hw30] at C
        obtain ⟨z0, zf⟩ := dr_cell (C.out.var (i := 1) rfl)
        obtain ⟨b0, b1, b2, b3, b4, bf⟩ := nd_cells (C.out.var (i := 0) rfl)
        obtain ⟨a, ha0, haH⟩ : ∃ a, (k ++ [d])[0]? = some a ∧ k.headD zT = a := by
         cases k with
         | nil => have := hm.out; have := hm1.out; simp at *; omega
         | cons y r => exact ⟨y, rfl, rfl⟩
        rw [haH] at he2
        obtain ⟨css, j1, j2⟩ := C.out.own
        obtain ⟨cs, hc0, hrep⟩ := j2.at ha0
        obtain ⟨xa, xp, rfl⟩ := rep_agg hrep
        obtain ⟨kb, ko, rfl, hat⟩ := j1.here (by intro e; rw [e] at hc0; cases hc0)
        have a0 := hat.cell hc0 (j := 0) rfl
        have a1 := hat.cell hc0 (j := 1) rfl
        have a2 := hat.cell hc0 (j := 2) rfl
        have a3 := hat.cell hc0 (j := 3) rfl
        have a4 := hat.cell hc0 (j := 4) rfl
        simp only [Nat.zero_mul, Nat.add_zero] at a0 a1 a2 a3 a4
        have hpos : (0 : Int) < (m8 : Int) := by have := hl8.out; omega
        have hpos2 : 0 < m8 := by have := hl8.out; omega
        have hrep2 := Hd hrep
        clear j1 j2 hat hrep
        go_upto_region 7 with (refine wpList_store_row rfl 50 _ _ rfl (w.heap.size + 1) _ rfl rfl 50 _ hcc info_nd rfl (by simp [Value.oneCell']) ?_)
        rw [← hw30]
        replace hw30 := Hd hw30
        replace hcc := Hd hcc
        go_still_tail 5, (by kernel_rfl)
        change wpList _ _ _ _ _ (w30).drew
        have hrep3 := Hd (hrep2.out.later (KeptOn.of_below (Below.refl _ w30).drew))
        replace C := Hd C.out.drew
        generalize (w30).drew = w31 at C hrep3 ⊢
        have HN := Hd (dnames_any C.out.ps hrep3.out (C.out.nok _ (.head _)))
        unfold ndV at HN
        go_wp2_with fail
        refine (HN.out).mono ?_
        rintro e w32 ⟨rfl, h32, k32⟩
        replace C := Hd (C.out.call h32 k32)
        go_wp2_with fail
        go_step3
        exact ⟨rfl, q, Nat.lt_succ_self _, _, _, _, _, _, _, _, _, _, _, _, _, _, _, _, _, _, _, _, _, _, _, _, _, _, _, _, _, _, _, _, _, _, _, _, _, _, _, _, _, _, _, _, _, _, rfl, hm8, hq8, hl8, Hd (C.out.weak mem1 (List.Sublist.refl _)), he2⟩
end Go.Proofs.YtllbbacnakoomaaGreatDoor
namespace Go.Proofs.YtllbbacnakoomaaGreatDoor
open Go.RowKit
set_option linter.unusedVariables false
theorem declaration_step {L : List Ct} {ta : Option Addr} {tc rb : Nat} {R : Rec} (G : Good L ta tc rb R) {w : World} {s : Ps} {nest : Nat} {n : T} {s' : Ps} (h : PS L ta tc rb s w) (hn : nest ≤ 1000) (hr : declarationF L R nest s = some (n, s')) :
 Calls Tryz.prog 70 #[drV rb, .int .i64 nest] w (NdRet L ta tc rb w n s') := by
 have C := Hd (((Cx.start h).alloc (drO rb) (a := w.heap.size) rfl).alloc nzO (a := w.heap.size + 1) (by simp))
 have hlt := h.lt
 unfold declarationF at hr
 have HD := Hd (rDeep_any C.out.ps nest (by omega))
 go_enter Tryz.func70, Tryz.ntmps70
 cases hd : s.deep nest with
 | true =>
   rw [hd, if_pos rfl] at hr HD
   obtain ⟨rfl, rfl⟩ := Prod.mk.inj (Option.some.inj hr)
   go_wp2_with fail
   refine (HD.out).mono ?_
   rintro e w1 ⟨rfl, h1, k1⟩
   replace C := Hd (C.out.call h1 k1)
   obtain ⟨q0, q1, q2, q3, q4, qf⟩ := nd_cells (C.out.var (i := 0) rfl)
   replace C := Hd (C.out.leaf eB eB 0 0)
   have hcc := C.out.var (i := 0) rfl
   go_wp2_with (refine stN rfl rfl rfl rfl hcc rfl rfl (by simp [Value.oneCell']) ?_)
   refine retN rfl rfl rfl (setRow_heap _ _ _ _ _ _ hcc) rfl ?_
   exact ⟨_, _, rfl, (C.out.set (i := 0) rfl rfl _).out (.head _)⟩
 | false =>
   rw [hd, if_neg (by simp)] at hr HD
   have hn2 : nest ≤ 200 := by unfold Ps.deep at hd; simp at hd; omega
   have g1 : IntKind.i64.wrap ((nest : Int) + 1) = ((nest + 1 : Nat) : Int) := by rw [IntWalk.i64_in _ (by omega)]; omega
   go_wp2_with fail
   refine (HD.out).mono ?_
   rintro e w1 ⟨rfl, h1, k1⟩
   replace C := Hd (C.out.call h1 k1)
   clear HD
   obtain ⟨z0, zf⟩ := dr_cell (C.out.var (i := 1) rfl)
   have HW := Hd (rWord_any C.out.ps (⟨#[95,83,116,97,116,105,99,95,97,115,115,101,114,116]⟩ : ByteArray))
   cases pw : wordP L s (⟨#[95,83,116,97,116,105,99,95,97,115,115,101,114,116]⟩ : ByteArray) with
   | true =>
     rw [pw] at HW
     rw [pw, if_pos rfl] at hr
     replace hr := Hd hr
     have hin := tok_in (L := L) (i := s.at_) (by unfold wordP at pw; simp only [Bool.and_eq_true, decide_eq_true_eq] at pw; omega)
     have hin2 := Hd hin.2.1
     clear hin
     go_wp2_with fail
     refine (HW.out).mono ?_
     rintro e w2 ⟨rfl, hb2⟩
     replace C := Hd (C.out.below hb2)
     clear z0 zf
     obtain ⟨z0, zf⟩ := dr_cell (C.out.var (i := 1) rfl)
     go_wp2_with fail
     refine (assertion_any G C.out.ps (by omega) hin2.out hr.out).mono ?_
     rintro e w3 ⟨ao3, cap3, rfl, hn3, h3, k3⟩
     replace C := Hd (C.out.ret hn3 h3 k3)
     unfold ndV
     have hcc := C.out.var (i := 0) rfl
     go_wp2_with (refine stN rfl rfl rfl rfl hcc rfl rfl (by simp [Value.oneCell']) ?_)
     refine retN rfl rfl rfl (setRow_heap _ _ _ _ _ _ hcc) rfl ?_
     exact ⟨_, _, rfl, (C.out.set (i := 0) rfl rfl _).out (.head _)⟩
   | false =>
     rw [pw] at HW
     rw [pw, if_neg (by simp)] at hr
     obtain ⟨⟨sp, z1⟩, hs1, hs2⟩ := Option.bind_eq_some_iff.1 hr
     simp only at hs2
     replace hs1 := Hd hs1
     replace hs2 := Hd hs2
     clear hr
     obtain ⟨⟨kl, s2⟩, hr3, hr4⟩ := Option.bind_eq_some_iff.1 hs2.out
     obtain ⟨rfl, rfl⟩ := Prod.mk.inj (Option.some.inj hr4)
     clear hs2 hr4
     go_wp2_with fail
     refine (HW.out).mono ?_
     rintro e w2 ⟨rfl, hb2⟩
     replace C := Hd (C.out.below hb2)
     clear z0 zf
     obtain ⟨z0, zf⟩ := dr_cell (C.out.var (i := 1) rfl)
     try clear c0 c1 c2 c3 cf
     obtain ⟨p4, he4, c0, c1, c2, c3, cf⟩ := C.out.ps.cells
     clear he4
     go_wp2_with fail
     refine (rSpecs_any G C.out.ps (by omega) hs1.out).mono ?_
     rintro e w3 ⟨ao3, cap3, rfl, hn3, h3, k3⟩
     replace C := Hd (C.out.ret hn3 h3 k3)
     unfold ndV
     clear z0 zf c0 c1 c2 c3 cf
     replace C := Hd ((C.out.alloc (bxO sp ao3 cap3) (a := w3.heap.size) rfl).lit (o := bxO sp ao3 cap3) [⟨sp, ao3, cap3⟩] (by simp) (by simp) rfl (a := w3.heap.size + 1) (by simp) (n := 1) rfl)
     obtain ⟨w23, hw23⟩ : ∃ W, W = (w3.alloc (bxO sp ao3 cap3)).alloc (bxO sp ao3 cap3) := ⟨_, rfl⟩
     rw [← hw23] at C
     obtain ⟨z0, zf⟩ := dr_cell (C.out.var (i := 2) rfl)
     try clear c0 c1 c2 c3 cf
     obtain ⟨p4, he4, c0, c1, c2, c3, cf⟩ := C.out.ps.cells
     clear he4
     have HI := Hd (rIs_any C.out.ps (⟨#[59]⟩ : ByteArray))
     go_upto_region 8 with fail
     rw [← hw23]
     replace hw23 := Hd hw23
     cases hbad : z1.bad with
     | true =>
       rw [if_pos (.inl hbad)] at hr3
       obtain ⟨rfl, rfl⟩ := Prod.mk.inj (Option.some.inj hr3)
       rw [hbad] at c3
       replace hbad := Hd hbad
       go_wp2_with fail
       refine (rNeed_any C.out.ps (⟨#[59]⟩ : ByteArray)).mono ?_
       rintro e w40 ⟨rfl, h40, k40⟩
       replace C := Hd (C.out.call h40 k40)
       clear z0 zf
       obtain ⟨z0, zf⟩ := dr_cell (C.out.var (i := 2) rfl)
       go_wp2_with fail
       refine (rMake_any C.out.ps (⟨#[100,101,99,108,97,114,101]⟩ : ByteArray) ⟨#[]⟩ s.at_ _ _ _).mono ?_
       rintro e w41 ⟨rfl, hb41⟩
       replace C := Hd (C.out.made hb41 (by simp) (⟨#[100,101,99,108,97,114,101]⟩ : ByteArray) ⟨#[]⟩ s.at_)
       skip
       have hcc := C.out.var (g := w.heap.size + 1) (i := 1) rfl
       go_wp2_with (refine stN rfl rfl rfl rfl hcc rfl rfl (by simp [Value.oneCell']) ?_)
       refine retN rfl rfl rfl (setRow_heap _ _ _ _ _ _ hcc) rfl ?_
       exact ⟨_, _, rfl, (C.out.set (i := 1) rfl rfl _).out (.head _)⟩
     | false =>
       rw [hbad] at c3
       replace hbad := Hd hbad
       cases p3 : isP L z1 (⟨#[59]⟩ : ByteArray) with
       | true =>
         rw [if_pos (.inr p3)] at hr3
         rw [p3] at HI
         obtain ⟨rfl, rfl⟩ := Prod.mk.inj (Option.some.inj hr3)
         go_wp2_with fail
         refine (HI.out).mono ?_
         rintro e w24 ⟨rfl, hb24⟩
         replace C := Hd (C.out.below hb24)
         clear z0 zf c0 c1 c2 c3 cf
         obtain ⟨z0, zf⟩ := dr_cell (C.out.var (i := 2) rfl)
         go_wp2_with fail
         refine (rNeed_any C.out.ps (⟨#[59]⟩ : ByteArray)).mono ?_
         rintro e w40 ⟨rfl, h40, k40⟩
         replace C := Hd (C.out.call h40 k40)
         clear z0 zf
         obtain ⟨z0, zf⟩ := dr_cell (C.out.var (i := 2) rfl)
         go_wp2_with fail
         refine (rMake_any C.out.ps (⟨#[100,101,99,108,97,114,101]⟩ : ByteArray) ⟨#[]⟩ s.at_ _ _ _).mono ?_
         rintro e w41 ⟨rfl, hb41⟩
         replace C := Hd (C.out.made hb41 (by simp) (⟨#[100,101,99,108,97,114,101]⟩ : ByteArray) ⟨#[]⟩ s.at_)
         skip
         have hcc := C.out.var (g := w.heap.size + 1) (i := 1) rfl
         go_wp2_with (refine stN rfl rfl rfl rfl hcc rfl rfl (by simp [Value.oneCell']) ?_)
         refine retN rfl rfl rfl (setRow_heap _ _ _ _ _ _ hcc) rfl ?_
         exact ⟨_, _, rfl, (C.out.set (i := 1) rfl rfl _).out (.head _)⟩
       | false =>
         rw [if_neg (by rw [hbad.out, p3]; simp)] at hr3
         rw [p3] at HI
         obtain ⟨⟨d, z2⟩, hd1, hd2⟩ := Option.bind_eq_some_iff.1 hr3
         simp only at hd2
         replace hd1 := Hd hd1
         replace hd2 := Hd hd2
         clear hr3
         go_wp2_with fail
         refine (HI.out).mono ?_
         rintro e w24 ⟨rfl, hb24⟩
         replace C := Hd (C.out.below hb24)
         clear z0 zf c0 c1 c2 c3 cf
         obtain ⟨z0, zf⟩ := dr_cell (C.out.var (i := 2) rfl)
         have HD2 := Hd (G.declr C.out.ps (by omega) (by omega) hd1.out)
         go_wp2_with fail
         refine (HD2.out).mono ?_
         rintro e w25 ⟨ao25, cap25, rfl, hn25, h25, k25⟩
         replace C := Hd (C.out.ret hn25 h25 k25)
         unfold ndV
         clear z0 zf
         replace C := Hd (C.out.alloc (bxO d ao25 cap25) (a := w25.heap.size) rfl)
         obtain ⟨z0, zf⟩ := dr_cell (C.out.var (i := 3) rfl)
         obtain ⟨b0, b1, b2, b3, b4, bf⟩ := nd_cells (C.out.var (i := 0) rfl)
         obtain ⟨q0, q1, q2, q3, q4, qf⟩ := nd_cells (C.out.var (i := 1) rfl)
         have HN := Hd (dnames_any C.out.ps (C.out.nok ⟨sp, ao3, cap3⟩ (by simp)) (C.out.nok ⟨d, ao25, cap25⟩ (.head _)))
         unfold ndV at HN
         go_wp2_with fail
         refine (HN.out).mono ?_
         rintro e w26 ⟨rfl, h26, k26⟩
         replace C := Hd (C.out.call h26 k26)
         clear z0 zf b0 b1 b2 b3 b4 bf q0 q1 q2 q3 q4 qf
         obtain ⟨z0, zf⟩ := dr_cell (C.out.var (i := 3) rfl)
         obtain ⟨b0, b1, b2, b3, b4, bf⟩ := nd_cells (C.out.var (i := 0) rfl)
         have HR := Hd (rest_row G C.out.ps C.out.rowIn (C.out.nok ⟨d, ao25, cap25⟩ (.head _)) rfl (by omega) (by omega) (by omega) hd2.out)
         unfold ndV at HR
         go_wp2_with fail
         refine HR.out.mono ?_
         rintro e w27 ⟨m7, ao7, cap7, rfl, hm7, hm8, h7, g7, r7, o7⟩
         replace C := Hd (C.out.retR h7 g7 r7 o7.out)
         clear z0 zf b0 b1 b2 b3 b4 bf g7 r7 o7
         obtain ⟨z0, zf⟩ := dr_cell (C.out.var (i := 3) rfl)
         go_wp2_with fail
         refine (rNeed_any C.out.ps (⟨#[59]⟩ : ByteArray)).mono ?_
         rintro e w40 ⟨rfl, h40, k40⟩
         replace C := Hd (C.out.call h40 k40)
         clear z0 zf
         obtain ⟨z0, zf⟩ := dr_cell (C.out.var (i := 3) rfl)
         go_wp2_with fail
         refine (rMake_any C.out.ps (⟨#[100,101,99,108,97,114,101]⟩ : ByteArray) ⟨#[]⟩ s.at_ _ _ _).mono ?_
         rintro e w41 ⟨rfl, hb41⟩
         replace C := Hd (C.out.made hb41 (by have := hm7.out; have := hm8.out; omega) (⟨#[100,101,99,108,97,114,101]⟩ : ByteArray) ⟨#[]⟩ s.at_)
         obtain rfl := hm7.out
         have hcc := C.out.var (g := w.heap.size + 1) (i := 2) rfl
         go_wp2_with (refine stN rfl rfl rfl rfl hcc rfl rfl (by simp [Value.oneCell']) ?_)
         refine retN rfl rfl rfl (setRow_heap _ _ _ _ _ _ hcc) rfl ?_
         exact ⟨_, _, rfl, (C.out.set (i := 2) rfl rfl _).out (.head _)⟩
end Go.Proofs.YtllbbacnakoomaaGreatDoor
namespace Go.Proofs.YtllbbacnakoomaaGreatDoor
open Go.RowKit
set_option linter.unusedVariables false
theorem dOpen_any {L : List Ct} {ta : Option Addr} {tc nest : Nat} {i : Int} {p : Option Addr} {e : Ev} {w : World} (h : TkAt L ta tc w) (he : EvAt w p e) (h1 : -1 ≤ i) (h2 : i ≤ L.length) :
 Calls Tryz.prog 67 #[paV L ta tc i p nest] w fun r w' => ∃ rb, r = .returned (drV rb) ∧ w.heap.size ≤ rb ∧ PS L ta tc rb ⟨i, e, false⟩ w' ∧ Below w.heap.size w w' := by
 obtain ⟨W, hW⟩ : ∃ W, W = (w.alloc (paO L ta tc i p nest)).alloc (.cells #[.pointer none] 124 (0,0)) := ⟨_, rfl⟩
 have hbW : Below w.heap.size w W := by rw [hW]; exact ((Below.refl _ w).alloc (Nat.le_refl _) _).alloc (by simp) _
 have hp : W.heap[w.heap.size]? = some (paO L ta tc i p nest) := by rw [hW]; exact (heap_alloc_old _ _ (by simp)).trans (heap_alloc_new _ _)
 have hq : W.heap[w.heap.size + 1]? = some (.cells #[.pointer none] 124 (0,0)) := by rw [hW]; exact heap_alloc2_new _ _ _
 have HO := Hd (open_any (nest := nest) (h.below hbW) (he.under hbW) h1 h2)
 obtain ⟨p0', p1', p2', p3', pf⟩ := pa_cells hp
 replace hbW := Hd hbW
 clear h he hp
 go_enter Tryz.func67, Tryz.ntmps67
 go_upto_region 1 with fail
 rw [← hW]
 replace hW := Hd hW
 go_wp2_with fail
 refine HO.out.mono ?_
 rintro r w1 ⟨rb, rfl, hrb, hs1, hb1⟩
 have hq1 : w1.heap[w.heap.size + 1]? = some (.cells #[.pointer none] 124 (0,0)) := (hb1.block _ (lt_of_block hq)).trans hq
 have hqf : w1.frozen? ⟨w.heap.size + 1,0, none⟩ = false := Lib.frozen_of_heap hq1 0
 have hqc : w1.cell? ⟨w.heap.size + 1,0, none⟩ = some (.pointer none) := by rw [Lib.cell_of_heap hq1]; rfl
 have hsw := hbW.out.size
 have hs2 := hb1.size
 replace hq1 := Hd hq1
 replace hs1 := Hd hs1
 replace hb1 := Hd hb1
 clear HO p0' p1' p2' p3' pf
 go_wp2
 refine bodyPost_ret (results_cell_row rfl _ _ (w.heap.size + 1) 124 _ (0,0) _ rfl (heap_setCell_same _ _ _ _ _ _ hq1.out) Tryz.underlying124 rfl (by kernel_rfl)) rfl ?_
 refine ⟨rb, rfl, by omega, hs1.out.other (g := w.heap.size + 1) hq1.out ⟨by decide, by decide, by decide⟩ (by simp) (fun k hk => set_o rfl hk), (hbW.out.trans (hb1.out.mono hsw)).setCell (p := ⟨w.heap.size + 1,0, none⟩) (by simp) _⟩
end Go.Proofs.YtllbbacnakoomaaGreatDoor
