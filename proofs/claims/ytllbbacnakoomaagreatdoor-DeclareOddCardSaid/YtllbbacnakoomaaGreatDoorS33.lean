/- Texts of this seat's proofs, laid into one file. -/
import Derived.Test.YtllbbacnakoomaaGreatDoorS32
import Derived.Deep.RegionWith
set_option maxRecDepth 100000
set_option maxHeartbeats 16000000
namespace Go.Proofs.YtllbbacnakoomaaGreatDoor
open Go.RowKit
set_option linter.unusedVariables false
theorem Cx.outO {L : List Ct} {ta : Option Addr} {tc rb sb : Nat} {w0 : World} {s : Ps} {ns : List Nd} {vs : List (Nat × Obj)} {ks : List T} {v : Value} {w : World} {i : Nat} {o : Obj} (C : Cx L ta tc rb (fun _ => False) (some sb) w0 s ns vs ks v w) {n : T} {ao : Option Addr} {cap : Nat} (h : (⟨n, ao, cap⟩ : Nd) ∈ ns) (hv : vs[i]? = some (sb, o)) : NdAt w w0.heap.size n ao cap ∧ PS L ta tc rb s w ∧ Grown2 w0 w rb (some sb) ∧ w.heap[sb]? = some o :=
 ⟨(C.nok _ h).wide fun k hk _ => hk.1.elim (fun h => h.elim) id, C.ps, C.kp, C.var hv⟩
theorem Cx.setTy {L : List Ct} {ta : Option Addr} {tc rb sb nest rb2 : Nat} {pl ty : Bool} {F : Nat → Prop} {O0 : Option Nat} {w0 : World} {s : Ps} {ns : List Nd} {vs : List (Nat × Obj)} {ks : List T} {v : Value} {w : World} {i : Nat} (C : Cx L ta tc rb F O0 w0 s ns vs ks v w) (hv : vs[i]? = some (sb, spO rb2 nest pl ty)) : Cx L ta tc rb F O0 w0 s ns (vs.set i (sb, spO rb2 nest pl true)) ks v (w.setCell ⟨sb, 3, none⟩ (.bool true)) :=
 C.setc hv (by decide) (by simp) 3 (.bool true)
theorem kindOf_one (x : ByteArray) : kindOf x = ⟨#[]⟩ ∨ kindOf x = (⟨#[115,116,111,114,97,103,101]⟩ : ByteArray) ∨ kindOf x = (⟨#[102,117,110,99,116,105,111,110]⟩ : ByteArray) ∨ kindOf x = (⟨#[113,117,97,108,105,102,105,101,114]⟩ : ByteArray) ∨ kindOf x = (⟨#[116,121,112,101]⟩ : ByteArray) ∨ kindOf x = (⟨#[97,108,105,103,110,97,115]⟩ : ByteArray) ∨ kindOf x = (⟨#[115,116,114,117,99,116]⟩ : ByteArray) ∨ kindOf x = (⟨#[117,110,105,111,110]⟩ : ByteArray) ∨ kindOf x = (⟨#[101,110,117,109]⟩ : ByteArray) := by
 unfold kindOf
 cases h : kindRows.find? (fun r => r.2.any fun y => decide (y = x)) with
 | none => exact .inl rfl
 | some r =>
   right
   have := List.mem_of_find?_eq_some h
   simp only [kindRows, List.mem_cons, List.not_mem_nil, or_false] at this
   rcases this with rfl | rfl | rfl | rfl | rfl | rfl | rfl | rfl <;> simp
theorem sOne_any {L : List Ct} {ta : Option Addr} {tc rb : Nat} {R : Rec} (G : Good L ta tc rb R) : OneOk L ta tc rb R := by
 intro w s sb nest pl ty n s' h hsb hne hn hr
 have C := Hd ((Cx.startS h hsb hne).alloc nzO (a := w.heap.size) rfl)
 have hsb' := Hd hsb
 clear hsb
 unfold oneF at hr
 obtain ⟨w50, hw50⟩ : ∃ W, W = w.alloc nzO := ⟨_, rfl⟩
 rw [← hw50] at C
 have hsW := C.out.var (i := 1) rfl
 have hls := lt_of_block hsW
 obtain ⟨t, ht⟩ : ∃ t, t = tokP L s.at_ := ⟨_, rfl⟩
 rw [← ht] at hr
 obtain ⟨i, hi⟩ : ∃ i, i = s.at_ := ⟨_, rfl⟩
 have hT := Hd (tok_reg C.out.ps)
 obtain ⟨_, _, _, y, _, _, _⟩ := C.out.ps.cells
 have HSB : Hid (∀ x, Below w50.heap.size w50 x → x.heap[sb]? = some (spO rb nest pl ty)) := Hd fun x hx => (hx.block sb hls).trans hsW
 have hbA : Below w50.heap.size w50 w50.drew := (Below.refl _ w50).drew
 have hbB : Below w50.heap.size w50 (w50.alloc ctZ).drew := ((Below.refl _ w50).alloc (Nat.le_refl _) ctZ).drew
 have hltW := C.out.ps.lt
 unfold ctV at hT
 rw [← ht, ← hi] at hT
 rw [← hi] at y
 replace ht := Hd ht
 replace hi := Hd hi
 obtain ⟨y0, y1, y2, y3, yf⟩ := sp_cells hsW
 replace hsW := Hd hsW
 go_enter Tryz.func192, Tryz.ntmps192
 go_upto_region 1 with fail
 rw [← hw50]
 replace hw50 := Hd hw50
 go_cut [4,5] from 8 to 19 (fun v4 v5 wx => v5 = .int .i64 i ∧ ∃ g, v4 = .pointer (some ⟨g, 0, none⟩) ∧ Hid (Below w50.heap.size w50 wx) ∧ Hid (wx.heap[g]? = some (ctO t)) ∧ Hid (w50.heap.size ≤ g))
 case first =>
  go_region_with (first
   | (go_at_call 100; refine (hT.out _ hbA).mono ?_; rintro e w1 ⟨rfl, d1, hz1, hb1, hw1, hl1, d1b, d1c⟩; obtain ⟨y0, y1, y2, y3, yf⟩ := sp_cells (HSB.out _ hw1); have hls1 := lt_of_block (HSB.out _ hw1))
   | (go_at_call 100; refine (hT.out _ hbB).mono ?_; rintro e w1 ⟨rfl, d1, hz1, hb1, hw1, hl1, d1b, d1c⟩; obtain ⟨y0, y1, y2, y3, yf⟩ := sp_cells (HSB.out _ hw1); obtain ⟨x0, x1, x2, x3, x4, x5, x6, xf⟩ := cells7 (kept_one hb1)))
  all_goals
   go_wp2_with fail
   go_meet
   case rel =>
    first
     | with_reducible exact ⟨rfl, _, rfl, Hd (hw1.trans ((Below.refl _ w1).alloc hw1.size _)), Hd (heap_alloc_new _ _), Hd hw1.size⟩
     | with_reducible exact ⟨rfl, _, rfl, Hd (ct_set7_below hw1 (Nat.le_refl _)), Hd (ct_set7 (kept_one hb1)), Hd (Nat.le_refl _)⟩
 case rest =>
  obtain ⟨rfl, gt, rfl, hbw, hgt, hge⟩ := hcut
  obtain rfl := hi.out
  replace C := Hd (C.out.belowV hbw.out hgt.out hge.out)
  clear hT y hbA hbB hltW hbw hgt hge HSB hls hsW y0 y1 y2 y3 yf
  obtain ⟨y0, y1, y2, y3, yf⟩ := sp_cells (C.out.var (i := 2) rfl)
  obtain ⟨x0, x1, x2, x3, x4, x5, x6, xf⟩ := ct_box (C.out.var (i := 0) rfl)
  have HY := Hd (typed_any C.out.drew.ps t)
  unfold ctV at HY
  obtain ⟨b12, hb12⟩ : ∃ b, b = (typedP s.env t && !ty) := ⟨_, rfl⟩
  replace hb12 := Hd hb12
  obtain ⟨wC, hwC⟩ : ∃ x, x = wc := ⟨_, rfl⟩
  subst hwC
  go_upto_region 2 with fail
  go_cut [32] from 20 to 32 (fun v32 wx => v32 = .bool b12 ∧ Hid (Below wC.heap.size wC wx))
  case first =>
   cases hy : typedP s.env t with
   | true =>
     rw [hy] at HY
     go_region_with (go_at_call 156; refine HY.out.mono ?_; rintro e w2 ⟨rfl, hb2⟩; obtain ⟨y0, y1, y2, y3, yf⟩ := sp_cells ((C.out.drew.below hb2).var (i := 2) rfl))
     all_goals
      go_wp2_with fail
      go_meet
      case rel => exact ⟨by rw [hb12.out, hy, Bool.true_and], Hd ((Below.refl _ _).drew.trans hb2)⟩
   | false =>
     rw [hy] at HY
     refine wp_region_any (by kernel_rfl) ?_
     change wpAny _ _ _ _ _ _ _ (World.drew _)
     refine wpAny_take (i := 0) (v := ?v0) rfl (by kernel_rfl) (by kernel_rfl) (by kernel_rfl) (fun _ _ _ h => h) (Or.inl ⟨by kernel_rfl, ?hy0⟩) ?_
     case hy0 =>
      intro w'
      go_simp
      try with_reducible rfl
     refine wpAny_take (i := 1) (v := ?v1) rfl (by kernel_rfl) (by kernel_rfl) (by kernel_rfl) (fun _ _ _ h => h) (Or.inl ⟨by kernel_rfl, ?hy1⟩) ?_
     case hy1 =>
      intro w'
      go_simp
      try with_reducible rfl
     refine wpAny_take (i := 2) (v := ?v2) rfl (by kernel_rfl) (by kernel_rfl) (by kernel_rfl) (fun _ _ _ h => h) (Or.inl ⟨by kernel_rfl, ?hy2⟩) ?_
     case hy2 =>
      intro w'
      go_simp
      try with_reducible rfl
     refine wpAny_ready (rs := [3,4]) (by kernel_rfl) (by simp) ?_
     refine AllReady.cons rfl (fun K hK => ?_) (AllReady.cons rfl (fun K hK => ?_) AllReady.nil)
     ·go_simp
      refine hK _ _ ?_
      clear hK K
      refine wpAny_ready (rs := [4]) (by kernel_rfl) (by simp) ?_
      refine AllReady.cons rfl (fun K hK => ?_) AllReady.nil
      go_simp
      refine hK _ _ ?_
      clear hK K
      refine wpAny_ready (rs := [5]) (by kernel_rfl) (by simp) ?_
      refine AllReady.cons rfl (fun K hK => ?_) AllReady.nil
      go_simp
      go_wp2_with (go_at_call 156; refine HY.out.mono ?_; rintro e w2 ⟨rfl, hb2⟩)
      refine wpAny_take (i := 6) (v := ?v6) rfl (by kernel_rfl) (by kernel_rfl) (by kernel_rfl) (fun _ _ _ h => h) (Or.inl ⟨by kernel_rfl, ?hy6⟩) ?_
      case hy6 =>
       intro w'
       go_simp
       try with_reducible rfl
      refine wpAny_take (i := 7) (v := undef) rfl (by kernel_rfl) (by kernel_rfl) (by kernel_rfl) (fun _ _ _ h => h) (Or.inr ⟨by kernel_rfl, rfl⟩) ?_
      refine wpAny_take (i := 8) (v := undef) rfl (by kernel_rfl) (by kernel_rfl) (by kernel_rfl) (fun _ _ _ h => h) (Or.inr ⟨by kernel_rfl, rfl⟩) ?_
      refine wpAny_take (i := 9) (v := undef) rfl (by kernel_rfl) (by kernel_rfl) (by kernel_rfl) (fun _ _ _ h => h) (Or.inr ⟨by kernel_rfl, rfl⟩) ?_
      refine wpAny_take (i := 10) (v := undef) rfl (by kernel_rfl) (by kernel_rfl) (by kernel_rfl) (fun _ _ _ h => h) (Or.inr ⟨by kernel_rfl, rfl⟩) ?_
      refine wpAny_take (i := 11) (v := undef) rfl (by kernel_rfl) (by kernel_rfl) (by kernel_rfl) (fun _ _ _ h => h) (Or.inr ⟨by kernel_rfl, rfl⟩) ?_
      try dsimp only [Act.put]
      refine wpAny_take (i := 12) (v := ?v12) rfl (by kernel_rfl) (by kernel_rfl) (by kernel_rfl) (fun _ _ _ h => h) (Or.inl ⟨by kernel_rfl, ?hy12⟩) ?_
      case hy12 =>
       intro w'
       go_simp
       try with_reducible rfl
      refine wpAny_done (by kernel_rfl) ?_ _
      go_simp
      go_step
      go_meet
      case rel => exact ⟨by rw [hb12.out, hy]; rfl, Hd ((Below.refl _ _).drew.trans hb2)⟩
     ·go_simp
      refine hK _ _ ?_
      clear hK K
      refine wpAny_ready (rs := [3]) (by kernel_rfl) (by simp) ?_
      refine AllReady.cons rfl (fun K hK => ?_) AllReady.nil
      go_simp
      refine hK _ _ ?_
      clear hK K
      refine wpAny_ready (rs := [5]) (by kernel_rfl) (by simp) ?_
      refine AllReady.cons rfl (fun K hK => ?_) AllReady.nil
      go_simp
      go_wp2_with (go_at_call 156; refine HY.out.mono ?_; rintro e w2 ⟨rfl, hb2⟩)
      refine wpAny_take (i := 6) (v := ?v6) rfl (by kernel_rfl) (by kernel_rfl) (by kernel_rfl) (fun _ _ _ h => h) (Or.inl ⟨by kernel_rfl, ?hy6⟩) ?_
      case hy6 =>
       intro w'
       go_simp
       try with_reducible rfl
      refine wpAny_take (i := 7) (v := undef) rfl (by kernel_rfl) (by kernel_rfl) (by kernel_rfl) (fun _ _ _ h => h) (Or.inr ⟨by kernel_rfl, rfl⟩) ?_
      refine wpAny_take (i := 8) (v := undef) rfl (by kernel_rfl) (by kernel_rfl) (by kernel_rfl) (fun _ _ _ h => h) (Or.inr ⟨by kernel_rfl, rfl⟩) ?_
      refine wpAny_take (i := 9) (v := undef) rfl (by kernel_rfl) (by kernel_rfl) (by kernel_rfl) (fun _ _ _ h => h) (Or.inr ⟨by kernel_rfl, rfl⟩) ?_
      refine wpAny_take (i := 10) (v := undef) rfl (by kernel_rfl) (by kernel_rfl) (by kernel_rfl) (fun _ _ _ h => h) (Or.inr ⟨by kernel_rfl, rfl⟩) ?_
      refine wpAny_take (i := 11) (v := undef) rfl (by kernel_rfl) (by kernel_rfl) (by kernel_rfl) (fun _ _ _ h => h) (Or.inr ⟨by kernel_rfl, rfl⟩) ?_
      try dsimp only [Act.put]
      refine wpAny_take (i := 12) (v := ?v12) rfl (by kernel_rfl) (by kernel_rfl) (by kernel_rfl) (fun _ _ _ h => h) (Or.inl ⟨by kernel_rfl, ?hy12⟩) ?_
      case hy12 =>
       intro w'
       go_simp
       try with_reducible rfl
      refine wpAny_done (by kernel_rfl) ?_ _
      go_simp
      go_step
      go_meet
      case rel => exact ⟨by rw [hb12.out, hy]; rfl, Hd ((Below.refl _ _).drew.trans hb2)⟩
  case rest =>
   obtain ⟨rfl, hbr⟩ := hcut
   replace C := Hd (C.out.below hbr.out)
   clear HY hbr x0 x1 x2 x3 x4 x5 x6 xf y0 y1 y2 y3 yf
   cases b12 with
   | true =>
     have hb := hb12.out
     obtain ⟨hy, rfl⟩ : typedP s.env t = true ∧ ty = false := by
      cases hq : typedP s.env t <;> cases ty <;> rw [hq] at hb <;> simp at hb ⊢
     rw [if_pos ⟨hy, rfl⟩] at hr
     have hk : Hid (t.kind = 1) := Hd (by unfold typedP at hy; simp only [Bool.and_eq_true, decide_eq_true_eq] at hy; exact hy.1)
     obtain ⟨rfl, rfl⟩ := Prod.mk.inj (Option.some.inj hr)
     clear hb hy
     obtain ⟨y0, y1, y2, y3, yf⟩ := sp_cells (C.out.var (i := 2) rfl)
     replace C := Hd (C.out.setTy (i := 2) rfl)
     obtain ⟨y0, y1, y2, y3, yf⟩ := sp_cells (C.out.var (i := 2) rfl)
     have HL := Hd (rLeaf_any C.out.ps (⟨#[116,121,112,101,110,97,109,101]⟩ : ByteArray) (by rw [← ht.out, hk.out]; decide))
     go_wp2_with fail
     refine (HL.out).mono ?_
     rintro e w60 ⟨rfl, h60, k60⟩
     replace C := Hd (C.out.call h60 k60)
     clear HL
     replace C := Hd (C.out.leafT s (⟨#[116,121,112,101,110,97,109,101]⟩ : ByteArray))
     have hcc := C.out.var (i := 1) rfl
     go_wp2_with (refine stN rfl rfl rfl rfl hcc rfl rfl (by simp [Value.oneCell']) ?_)
     refine retT rfl rfl rfl (setRow_heap _ _ _ _ _ _ hcc) rfl ?_
     exact ⟨_, _, rfl, (C.out.set (i := 1) rfl rfl _).outO (i := 2) (.head _) rfl⟩
   | false =>
     have hb := hb12.out
     rw [if_neg (by rintro ⟨h1, rfl⟩; rw [h1] at hb; cases hb)] at hr
     clear hb
     obtain ⟨kq, hkq⟩ : ∃ kq, kq = kindOf t.text := ⟨_, rfl⟩
     have HK := Hd (kindOf_any C.out.ps.tab t.text)
     rw [← hkq] at HK hr
     have hone := kindOf_one t.text
     rw [← hkq] at hone
     replace hkq := Hd hkq
     obtain ⟨x0, x1, x2, x3, x4, x5, x6, xf⟩ := ct_box (C.out.var (i := 0) rfl)
     go_wp2_with fail
     refine (HK.out).mono ?_
     rintro e w3 ⟨rfl, hb3⟩
     replace C := Hd (C.out.below hb3)
     clear HK x0 x1 x2 x3 x4 x5 x6 xf
     obtain ⟨x0, x1, x2, x3, x4, x5, x6, xf⟩ := ct_box (C.out.var (i := 0) rfl)
     by_cases hk2 : t.kind = 2
     ·rw [if_neg (by rw [hk2]; simp)] at hr
      have hk : Hid (t.kind = 2) := Hd hk2
      rw [hk2] at x0
      clear hk2
      rcases hone with rfl | rfl | rfl | rfl | rfl | rfl | rfl | rfl | rfl
      ·rw [if_neg (by decide), if_neg (by decide), if_neg (by decide), if_neg (by decide), if_neg (by decide), if_neg (by decide)] at hr
       obtain ⟨rfl, rfl⟩ := Prod.mk.inj (Option.some.inj hr)
       obtain ⟨q0, q1, q2, q3, q4, qf⟩ := nd_cells (C.out.var (i := 1) rfl)
       replace C := Hd (C.out.leaf eB eB 0 0)
       have hcc := C.out.var (i := 1) rfl
       go_wp2_with (refine stN rfl rfl rfl rfl hcc rfl rfl (by simp [Value.oneCell']) ?_)
       refine retT rfl rfl rfl (setRow_heap _ _ _ _ _ _ hcc) rfl ?_
       exact ⟨_, _, rfl, (C.out.set (i := 1) rfl rfl _).outO (i := 2) (.head _) rfl⟩
      ·rw [if_pos (.inl rfl)] at hr
       obtain ⟨y0, y1, y2, y3, yf⟩ := sp_cells (C.out.var (i := 2) rfl)
       cases pl with
       | true =>
         rw [if_pos rfl] at hr
         obtain ⟨rfl, rfl⟩ := Prod.mk.inj (Option.some.inj hr)
         go_wp2_with fail
         refine (rFail_any C.out.ps).mono ?_
         rintro e w5 ⟨rfl, h5, k5⟩
         replace C := Hd (C.out.call h5 k5)
         obtain ⟨q0, q1, q2, q3, q4, qf⟩ := nd_cells (C.out.var (i := 1) rfl)
         replace C := Hd (C.out.leaf eB eB 0 0)
         have hcc := C.out.var (i := 1) rfl
         go_wp2_with (refine stN rfl rfl rfl rfl hcc rfl rfl (by simp [Value.oneCell']) ?_)
         refine retT rfl rfl rfl (setRow_heap _ _ _ _ _ _ hcc) rfl ?_
         exact ⟨_, _, rfl, (C.out.set (i := 1) rfl rfl _).outO (i := 2) (.head _) rfl⟩
       | false =>
         rw [if_neg (by simp)] at hr
         obtain ⟨rfl, rfl⟩ := Prod.mk.inj (Option.some.inj hr)
         obtain ⟨y0, y1, y2, y3, yf⟩ := sp_cells (C.out.var (i := 2) rfl)
         have HL := Hd (rLeaf_any C.out.ps (⟨#[115,116,111,114,97,103,101]⟩ : ByteArray) (by rw [← ht.out, hk.out]; decide))
         go_wp2_with fail
         refine (HL.out).mono ?_
         rintro e w60 ⟨rfl, h60, k60⟩
         replace C := Hd (C.out.call h60 k60)
         clear HL
         replace C := Hd (C.out.leafT s (⟨#[115,116,111,114,97,103,101]⟩ : ByteArray))
         have hcc := C.out.var (i := 1) rfl
         go_wp2_with (refine stN rfl rfl rfl rfl hcc rfl rfl (by simp [Value.oneCell']) ?_)
         refine retT rfl rfl rfl (setRow_heap _ _ _ _ _ _ hcc) rfl ?_
         exact ⟨_, _, rfl, (C.out.set (i := 1) rfl rfl _).outO (i := 2) (.head _) rfl⟩
      ·rw [if_pos (.inr rfl)] at hr
       obtain ⟨y0, y1, y2, y3, yf⟩ := sp_cells (C.out.var (i := 2) rfl)
       cases pl with
       | true =>
         rw [if_pos rfl] at hr
         obtain ⟨rfl, rfl⟩ := Prod.mk.inj (Option.some.inj hr)
         go_wp2_with fail
         refine (rFail_any C.out.ps).mono ?_
         rintro e w5 ⟨rfl, h5, k5⟩
         replace C := Hd (C.out.call h5 k5)
         obtain ⟨q0, q1, q2, q3, q4, qf⟩ := nd_cells (C.out.var (i := 1) rfl)
         replace C := Hd (C.out.leaf eB eB 0 0)
         have hcc := C.out.var (i := 1) rfl
         go_wp2_with (refine stN rfl rfl rfl rfl hcc rfl rfl (by simp [Value.oneCell']) ?_)
         refine retT rfl rfl rfl (setRow_heap _ _ _ _ _ _ hcc) rfl ?_
         exact ⟨_, _, rfl, (C.out.set (i := 1) rfl rfl _).outO (i := 2) (.head _) rfl⟩
       | false =>
         rw [if_neg (by simp)] at hr
         obtain ⟨rfl, rfl⟩ := Prod.mk.inj (Option.some.inj hr)
         obtain ⟨y0, y1, y2, y3, yf⟩ := sp_cells (C.out.var (i := 2) rfl)
         have HL := Hd (rLeaf_any C.out.ps (⟨#[102,117,110,99,116,105,111,110]⟩ : ByteArray) (by rw [← ht.out, hk.out]; decide))
         go_wp2_with fail
         refine (HL.out).mono ?_
         rintro e w60 ⟨rfl, h60, k60⟩
         replace C := Hd (C.out.call h60 k60)
         clear HL
         replace C := Hd (C.out.leafT s (⟨#[102,117,110,99,116,105,111,110]⟩ : ByteArray))
         have hcc := C.out.var (i := 1) rfl
         go_wp2_with (refine stN rfl rfl rfl rfl hcc rfl rfl (by simp [Value.oneCell']) ?_)
         refine retT rfl rfl rfl (setRow_heap _ _ _ _ _ _ hcc) rfl ?_
         exact ⟨_, _, rfl, (C.out.set (i := 1) rfl rfl _).outO (i := 2) (.head _) rfl⟩
      ·rw [if_neg (by decide), if_neg (by decide), if_neg (by decide), if_neg (by decide), if_neg (by decide), if_pos rfl] at hr
       by_cases hat : t.text = (⟨#[95,65,116,111,109,105,99]⟩ : ByteArray)
       ·have HB := Hd (rBehind_any C.out.ps (⟨#[40]⟩ : ByteArray))
        obtain ⟨y0, y1, y2, y3, yf⟩ := sp_cells (C.out.var (i := 2) rfl)
        cases pb : behP L s (⟨#[40]⟩ : ByteArray) with
        | false =>
          rw [pb] at HB
          rw [if_neg (by rw [pb]; simp)] at hr
          obtain ⟨rfl, rfl⟩ := Prod.mk.inj (Option.some.inj hr)
          rw [hat] at x1
          replace hat := Hd hat
          go_wp2_with fail
          refine (HB.out).mono ?_
          rintro e w4 ⟨rfl, hb4⟩
          replace C := Hd (C.out.below hb4)
          obtain ⟨y0, y1, y2, y3, yf⟩ := sp_cells (C.out.var (i := 2) rfl)
          have HL := Hd (rLeaf_any C.out.ps (⟨#[113,117,97,108,105,102,105,101,114]⟩ : ByteArray) (by rw [← ht.out, hk.out]; decide))
          go_wp2_with fail
          refine (HL.out).mono ?_
          rintro e w60 ⟨rfl, h60, k60⟩
          replace C := Hd (C.out.call h60 k60)
          clear HL
          replace C := Hd (C.out.leafT s (⟨#[113,117,97,108,105,102,105,101,114]⟩ : ByteArray))
          have hcc := C.out.var (i := 1) rfl
          go_wp2_with (refine stN rfl rfl rfl rfl hcc rfl rfl (by simp [Value.oneCell']) ?_)
          refine retT rfl rfl rfl (setRow_heap _ _ _ _ _ _ hcc) rfl ?_
          exact ⟨_, _, rfl, (C.out.set (i := 1) rfl rfl _).outO (i := 2) (.head _) rfl⟩
        | true =>
          rw [pb] at HB
          rw [if_pos ⟨hat, pb⟩] at hr
          rw [hat] at x1
          replace hat := Hd hat
          obtain ⟨⟨a, z⟩, hq1, hq2⟩ := Option.bind_eq_some_iff.1 hr
          simp only at hq2
          replace hq1 := Hd hq1
          replace hq2 := Hd hq2
          clear hr
          obtain ⟨rfl, rfl⟩ := Prod.mk.inj (Option.some.inj hq2.out)
          clear hq2
          go_wp2_with fail
          refine (HB.out).mono ?_
          rintro e w4 ⟨rfl, hb4⟩
          replace C := Hd (C.out.below hb4)
          clear x0 x1 x2 x3 x4 x5 x6 xf HB
          obtain ⟨y0, y1, y2, y3, yf⟩ := sp_cells (C.out.var (i := 2) rfl)
          replace C := Hd (C.out.setTy (i := 2) rfl)
          obtain ⟨y0, y1, y2, y3, yf⟩ := sp_cells (C.out.var (i := 2) rfl)
          try clear c0 c1 c2 c3 cf
          obtain ⟨p4, he4, c0, c1, c2, c3, cf⟩ := C.out.ps.cells
          clear he4
          have hlen := C.out.ps.len
          have hin := tok_in (L := L) (i := s.at_) (by rw [← ht.out, hk.out]; decide)
          have g2 : IntKind.i64.wrap (s.at_ + 1) = s.at_ + 1 := IntWalk.i64_in _ (by omega)
          replace C := Hd (C.out.up (n := 1) (by omega) hin.2.1)
          clear hlen hin
          obtain ⟨w70, hw70⟩ : ∃ W, W = (w4.setCell ⟨sb, 3, none⟩ (.bool true)).setCell ⟨rb, 1, none⟩ (.int .i64 (s.at_ + 1)) := ⟨_, rfl⟩
          rw [← hw70] at C
          obtain ⟨y0, y1, y2, y3, yf⟩ := sp_cells (C.out.var (i := 2) rfl)
          have hl0 := lt_of_block (C.out.var (i := 0) rfl)
          have hl1 := lt_of_block (C.out.var (i := 1) rfl)
          have hl2 := lt_of_block (C.out.var (i := 2) rfl)
          have HA := Hd (inBrackets_any G C.out.drew.ps hn hq1.out)
          have CB := Hd (C.out.alloc nzO (a := w70.heap.size) rfl)
          have HB := Hd (inBrackets_any G CB.out.drew.ps hn hq1.out)
          go_upto_region 32 with fail
          rw [← hw70]
          replace hw70 := Hd hw70
          go_cut [7] from 149 to 157 (fun v7 wx => ∃ (g : Nat) (ao : Option Addr) (cap : Nat), v7 = .pointer (some ⟨g, 0, none⟩) ∧ Hid (Cx L ta tc rb (fun _ => False) (some sb) w z [⟨a, ao, cap⟩] [(g, bxO a ao cap), (gt, ctO t), (w.heap.size, nzO), (sb, spO rb nest pl true)] [] (.slice none 0 0) wx))
          case first =>
           go_region_with (go_at_call 219; first
            | (refine HA.out.mono ?_; rintro e w1 ⟨ao1, cap1, rfl, hn1, h1, k1⟩; unfold ndV)
            | (refine HB.out.mono ?_; rintro e w1 ⟨ao1, cap1, rfl, hn1, h1, k1⟩; unfold ndV; obtain ⟨q0, q1, q2, q3, q4, qf⟩ := nd_cells ((CB.out.drew.ret hn1 h1 k1).var (i := 0) rfl)))
           all_goals
            go_wp2_with fail
            go_meet
            case rel => first
             | exact ⟨_, _, _, rfl, Hd (((C.out.drew.ret hn1 h1 k1).alloc (bxO a ao1 cap1) (a := w1.heap.size) rfl).weak mem1 (List.Sublist.refl _))⟩
             | exact ⟨_, _, _, rfl, Hd (((CB.out.drew.ret hn1 h1 k1).set5 (i := 0) rfl _ _ _ _ _).weak mem1 (List.Sublist.refl _))⟩
          case rest =>
           obtain ⟨g7, ao5, cap5, rfl, C5⟩ := hcut
           have Cy := C
           clear Cy C HA HB CB
           have C := C5
           clear C5
           obtain ⟨y0, y1, y2, y3, yf⟩ := sp_cells (C.out.var (i := 3) rfl)
           obtain ⟨b0, b1, b2, b3, b4, bf⟩ := nd_cells (C.out.var (i := 0) rfl)
           have C2 := Hd (C.out.litN [⟨a, ao5, cap5⟩] (by simp) (by simp) rfl (a := wc.heap.size) rfl (n := 1) rfl (⟨#[97,116,111,109,105,99]⟩ : ByteArray) ⟨#[]⟩ s.at_)
           have HM := Hd (rMake_any C2.out.drew.ps (⟨#[97,116,111,109,105,99]⟩ : ByteArray) ⟨#[]⟩ s.at_ (some ⟨wc.heap.size, 0, none⟩) 1 1)
           have hl0 := lt_of_block (C.out.var (i := 0) rfl)
           have hl1 := lt_of_block (C.out.var (i := 1) rfl)
           have hl2 := lt_of_block (C.out.var (i := 2) rfl)
           have hl3 := lt_of_block (C.out.var (i := 3) rfl)
           go_upto_region 33 with fail
           go_region_with (go_at_call 123; refine HM.out.mono ?_; rintro e w77 ⟨rfl, hb77⟩; obtain ⟨q0, q1, q2, q3, q4, qf⟩ := nd_cells ((C2.out.drew.below hb77).var (i := 2) rfl))
           all_goals
            replace C := Hd (C2.out.drew.below hb77)
            have hcc := C.out.var (i := 2) rfl
            go_wp2_with fail
            refine bodyPost_ret (results_row_tmp rfl _ _ w.heap.size 50 _ (0,0) _ rfl (nd_set5 hcc) Tryz.underlying50 rfl (by kernel_rfl)) rfl ?_
            exact ⟨_, _, rfl, (C.out.set5 (i := 2) rfl _ _ _ _ _).outO (i := 3) (.head _) rfl⟩
       ·rw [if_neg (fun e => hat e.1)] at hr
        have hatb := eqb_no ([95,65,116,111,109,105,99] : List UInt8) hat
        obtain ⟨rfl, rfl⟩ := Prod.mk.inj (Option.some.inj hr)
        obtain ⟨y0, y1, y2, y3, yf⟩ := sp_cells (C.out.var (i := 2) rfl)
        have HL := Hd (rLeaf_any C.out.ps (⟨#[113,117,97,108,105,102,105,101,114]⟩ : ByteArray) (by rw [← ht.out, hk.out]; decide))
        go_wp2_with fail
        refine (HL.out).mono ?_
        rintro e w60 ⟨rfl, h60, k60⟩
        replace C := Hd (C.out.call h60 k60)
        clear HL
        replace C := Hd (C.out.leafT s (⟨#[113,117,97,108,105,102,105,101,114]⟩ : ByteArray))
        have hcc := C.out.var (i := 1) rfl
        go_wp2_with (refine stN rfl rfl rfl rfl hcc rfl rfl (by simp [Value.oneCell']) ?_)
        refine retT rfl rfl rfl (setRow_heap _ _ _ _ _ _ hcc) rfl ?_
        exact ⟨_, _, rfl, (C.out.set (i := 1) rfl rfl _).outO (i := 2) (.head _) rfl⟩
      ·rw [if_neg (by decide), if_pos rfl] at hr
       obtain ⟨rfl, rfl⟩ := Prod.mk.inj (Option.some.inj hr)
       obtain ⟨y0, y1, y2, y3, yf⟩ := sp_cells (C.out.var (i := 2) rfl)
       replace C := Hd (C.out.setTy (i := 2) rfl)
       obtain ⟨y0, y1, y2, y3, yf⟩ := sp_cells (C.out.var (i := 2) rfl)
       have HL := Hd (rLeaf_any C.out.ps (⟨#[116,121,112,101]⟩ : ByteArray) (by rw [← ht.out, hk.out]; decide))
       go_wp2_with fail
       refine (HL.out).mono ?_
       rintro e w60 ⟨rfl, h60, k60⟩
       replace C := Hd (C.out.call h60 k60)
       clear HL
       replace C := Hd (C.out.leafT s (⟨#[116,121,112,101]⟩ : ByteArray))
       have hcc := C.out.var (i := 1) rfl
       go_wp2_with (refine stN rfl rfl rfl rfl hcc rfl rfl (by simp [Value.oneCell']) ?_)
       refine retT rfl rfl rfl (setRow_heap _ _ _ _ _ _ hcc) rfl ?_
       exact ⟨_, _, rfl, (C.out.set (i := 1) rfl rfl _).outO (i := 2) (.head _) rfl⟩
      ·rw [if_neg (by decide), if_neg (by decide), if_pos rfl] at hr
       obtain ⟨⟨a, z⟩, hq1, hq2⟩ := Option.bind_eq_some_iff.1 hr
       simp only at hq2
       replace hq1 := Hd hq1
       replace hq2 := Hd hq2
       clear hr
       obtain ⟨rfl, rfl⟩ := Prod.mk.inj (Option.some.inj hq2.out)
       clear hq2
       obtain ⟨y0, y1, y2, y3, yf⟩ := sp_cells (C.out.var (i := 2) rfl)
       try clear c0 c1 c2 c3 cf
       obtain ⟨p4, he4, c0, c1, c2, c3, cf⟩ := C.out.ps.cells
       clear he4
       have hlen := C.out.ps.len
       have hin := tok_in (L := L) (i := s.at_) (by rw [← ht.out, hk.out]; decide)
       have g2 : IntKind.i64.wrap (s.at_ + 1) = s.at_ + 1 := IntWalk.i64_in _ (by omega)
       replace C := Hd (C.out.up (n := 1) (by omega) hin.2.1)
       clear hlen hin
       go_wp2_with fail
       refine (align_any G C.out.ps (C.out.var (i := 2) rfl) hne hn hq1.out).mono ?_
       rintro e w5 ⟨ao5, cap5, rfl, hn5, h5, k5⟩
       replace C := Hd (C.out.ret hn5 h5 k5)
       unfold ndV
       have hcc := C.out.var (i := 1) rfl
       go_wp2_with (refine stN rfl rfl rfl rfl hcc rfl rfl (by simp [Value.oneCell']) ?_)
       refine retT rfl rfl rfl (setRow_heap _ _ _ _ _ _ hcc) rfl ?_
       exact ⟨_, _, rfl, (C.out.set (i := 1) rfl rfl _).outO (i := 2) (.head _) rfl⟩
      ·rw [if_neg (by decide), if_neg (by decide), if_neg (by decide), if_pos (.inl rfl)] at hr
       obtain ⟨⟨a, z⟩, hq1, hq2⟩ := Option.bind_eq_some_iff.1 hr
       simp only at hq2
       replace hq1 := Hd hq1
       replace hq2 := Hd hq2
       clear hr
       obtain ⟨rfl, rfl⟩ := Prod.mk.inj (Option.some.inj hq2.out)
       clear hq2
       obtain ⟨y0, y1, y2, y3, yf⟩ := sp_cells (C.out.var (i := 2) rfl)
       replace C := Hd (C.out.setTy (i := 2) rfl)
       obtain ⟨y0, y1, y2, y3, yf⟩ := sp_cells (C.out.var (i := 2) rfl)
       try clear c0 c1 c2 c3 cf
       obtain ⟨p4, he4, c0, c1, c2, c3, cf⟩ := C.out.ps.cells
       clear he4
       have hlen := C.out.ps.len
       have hin := tok_in (L := L) (i := s.at_) (by rw [← ht.out, hk.out]; decide)
       have g2 : IntKind.i64.wrap (s.at_ + 1) = s.at_ + 1 := IntWalk.i64_in _ (by omega)
       replace C := Hd (C.out.up (n := 1) (by omega) hin.2.1)
       clear hlen hin
       go_wp2_with fail
       refine (members_any (member_any G) C.out.ps (C.out.var (i := 2) rfl) hne hn hq1.out).mono ?_
       rintro e w5 ⟨ao5, cap5, rfl, hn5, h5, k5⟩
       replace C := Hd (C.out.ret hn5 h5 k5)
       unfold ndV
       have hcc := C.out.var (i := 1) rfl
       go_wp2_with (refine stN rfl rfl rfl rfl hcc rfl rfl (by simp [Value.oneCell']) ?_)
       refine retT rfl rfl rfl (setRow_heap _ _ _ _ _ _ hcc) rfl ?_
       exact ⟨_, _, rfl, (C.out.set (i := 1) rfl rfl _).outO (i := 2) (.head _) rfl⟩
      ·rw [if_neg (by decide), if_neg (by decide), if_neg (by decide), if_pos (.inr rfl)] at hr
       obtain ⟨⟨a, z⟩, hq1, hq2⟩ := Option.bind_eq_some_iff.1 hr
       simp only at hq2
       replace hq1 := Hd hq1
       replace hq2 := Hd hq2
       clear hr
       obtain ⟨rfl, rfl⟩ := Prod.mk.inj (Option.some.inj hq2.out)
       clear hq2
       obtain ⟨y0, y1, y2, y3, yf⟩ := sp_cells (C.out.var (i := 2) rfl)
       replace C := Hd (C.out.setTy (i := 2) rfl)
       obtain ⟨y0, y1, y2, y3, yf⟩ := sp_cells (C.out.var (i := 2) rfl)
       try clear c0 c1 c2 c3 cf
       obtain ⟨p4, he4, c0, c1, c2, c3, cf⟩ := C.out.ps.cells
       clear he4
       have hlen := C.out.ps.len
       have hin := tok_in (L := L) (i := s.at_) (by rw [← ht.out, hk.out]; decide)
       have g2 : IntKind.i64.wrap (s.at_ + 1) = s.at_ + 1 := IntWalk.i64_in _ (by omega)
       replace C := Hd (C.out.up (n := 1) (by omega) hin.2.1)
       clear hlen hin
       go_wp2_with fail
       refine (members_any (member_any G) C.out.ps (C.out.var (i := 2) rfl) hne hn hq1.out).mono ?_
       rintro e w5 ⟨ao5, cap5, rfl, hn5, h5, k5⟩
       replace C := Hd (C.out.ret hn5 h5 k5)
       unfold ndV
       have hcc := C.out.var (i := 1) rfl
       go_wp2_with (refine stN rfl rfl rfl rfl hcc rfl rfl (by simp [Value.oneCell']) ?_)
       refine retT rfl rfl rfl (setRow_heap _ _ _ _ _ _ hcc) rfl ?_
       exact ⟨_, _, rfl, (C.out.set (i := 1) rfl rfl _).outO (i := 2) (.head _) rfl⟩
      ·rw [if_neg (by decide), if_neg (by decide), if_neg (by decide), if_neg (by decide), if_pos rfl] at hr
       obtain ⟨⟨a, z⟩, hq1, hq2⟩ := Option.bind_eq_some_iff.1 hr
       simp only at hq2
       replace hq1 := Hd hq1
       replace hq2 := Hd hq2
       clear hr
       obtain ⟨rfl, rfl⟩ := Prod.mk.inj (Option.some.inj hq2.out)
       clear hq2
       obtain ⟨y0, y1, y2, y3, yf⟩ := sp_cells (C.out.var (i := 2) rfl)
       replace C := Hd (C.out.setTy (i := 2) rfl)
       obtain ⟨y0, y1, y2, y3, yf⟩ := sp_cells (C.out.var (i := 2) rfl)
       try clear c0 c1 c2 c3 cf
       obtain ⟨p4, he4, c0, c1, c2, c3, cf⟩ := C.out.ps.cells
       clear he4
       have hlen := C.out.ps.len
       have hin := tok_in (L := L) (i := s.at_) (by rw [← ht.out, hk.out]; decide)
       have g2 : IntKind.i64.wrap (s.at_ + 1) = s.at_ + 1 := IntWalk.i64_in _ (by omega)
       replace C := Hd (C.out.up (n := 1) (by omega) hin.2.1)
       clear hlen hin
       go_wp2_with fail
       refine (names_any G C.out.ps (C.out.var (i := 2) rfl) hne hn hq1.out).mono ?_
       rintro e w5 ⟨ao5, cap5, rfl, hn5, h5, k5⟩
       replace C := Hd (C.out.ret hn5 h5 k5)
       unfold ndV
       have hcc := C.out.var (i := 1) rfl
       go_wp2_with (refine stN rfl rfl rfl rfl hcc rfl rfl (by simp [Value.oneCell']) ?_)
       refine retT rfl rfl rfl (setRow_heap _ _ _ _ _ _ hcc) rfl ?_
       exact ⟨_, _, rfl, (C.out.set (i := 1) rfl rfl _).outO (i := 2) (.head _) rfl⟩
     ·rw [if_pos hk2] at hr
      obtain ⟨rfl, rfl⟩ := Prod.mk.inj (Option.some.inj hr)
      have hk' : (t.kind != 2) = true := by simpa using hk2
      obtain ⟨q0, q1, q2, q3, q4, qf⟩ := nd_cells (C.out.var (i := 1) rfl)
      replace C := Hd (C.out.leaf eB eB 0 0)
      have hcc := C.out.var (i := 1) rfl
      go_wp2_with (refine stN rfl rfl rfl rfl hcc rfl rfl (by simp [Value.oneCell']) ?_)
      refine retT rfl rfl rfl (setRow_heap _ _ _ _ _ _ hcc) rfl ?_
      exact ⟨_, _, rfl, (C.out.set (i := 1) rfl rfl _).outO (i := 2) (.head _) rfl⟩
end Go.Proofs.YtllbbacnakoomaaGreatDoor
