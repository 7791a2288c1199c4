/- Texts of this seat's proofs, laid into one file. -/
import Derived.Test.YtllbbacnakoomaaGreatDoorS5
import Derived.Test.YtllbbacnakoomaaGreatDoorD3
import Derived.Test.YtllbbacnakoomaaGreatDoorD13
import Derived.Deep.RegionWith
set_option maxRecDepth 100000
set_option maxHeartbeats 16000000
namespace Go.Proofs.YtllbbacnakoomaaGreatDoor
open Go.RowKit
set_option linter.unusedVariables false
def SamePays (x : T) : Prop := ∀ (y : T) (cx cy : List Value) (F : Nat → Prop) (w : World), Rep w F x cx → Rep w F y cy →
    Calls Tryz.prog 42 #[.agg cx.toArray, .agg cy.toArray] w fun e w' => e = .returned (.bool (T.same x y)) ∧ Below w.heap.size w w'
theorem sames_len : ∀ (xs ys : List T), xs.length ≠ ys.length → T.sames xs ys = false := by
 intro xs
 induction xs with
 | nil => intro ys h; cases ys with | nil => exact (h rfl).elim | cons => simp [T.sames]
 | cons a xs ih => intro ys h; cases ys with | nil => simp [T.sames] | cons b ys => simp [T.sames, ih ys (by simpa using h)]
theorem sames_drop {xs ys : List T} {j : Nat} {x y : T} (hx : xs[j]? = some x) (hy : ys[j]? = some y) : T.sames (xs.drop j) (ys.drop j) = (T.same x y && T.sames (xs.drop (j + 1)) (ys.drop (j + 1))) := by
 obtain ⟨h1, rfl⟩ := List.getElem?_eq_some_iff.1 hx
 obtain ⟨h2, rfl⟩ := List.getElem?_eq_some_iff.1 hy
 rw [List.drop_eq_getElem_cons h1, List.drop_eq_getElem_cons h2]
 simp [T.sames]
theorem two_new (w : World) (a b : Obj) : Below w.heap.size w ((w.alloc a).alloc b) := ((Below.refl _ w).alloc (Nat.le_refl _) _).alloc (by simp) _
theorem tequal_any (xs ys : List T) (IH : ∀ x ∈ xs, SamePays x) (F : Nat → Prop) (w : World) (ao bo : Option Addr) (ca cb : Nat) (css dss : List (List Value)) (ha : Reps w F xs css) (hra : RowF w F 5 ao css) (hb : Reps w F ys dss) (hrb : RowF w F 5 bo dss) (n m : Nat) (h1 : xs.length = n) (h2 : ys.length = m) (hn : n ≤ 1000000000) :
 Calls Tryz.prog 73 #[.slice ao n ca, .slice bo m cb, .func (.func 42) #[] #[]] w fun e w' => e = .returned (.bool (T.sames xs ys)) ∧ Below w.heap.size w w' := by
 have H1 := Hd h1
 have H2 := Hd h2
 clear h1 h2
 by_cases hl : n = m
 ·subst hl
  go_enter Tryz.func73, Tryz.ntmps73
  go_wp2
  go_loopw [17] (fun i wr => ∃ j : Nat, j ≤ n ∧ i = .int .i64 j ∧ Hid (T.sames xs ys = T.sames (xs.drop j) (ys.drop j)) ∧ Below w.heap.size w wr) (fun i _ => n - (intOf i).toNat)
  case atStart => exact ⟨0, Nat.zero_le _, rfl, Hd (by simp), Below.refl _ _⟩
  case round =>
   obtain ⟨j, hj, rfl, hs, hbw⟩ := hrel
   by_cases hlt : j < n
   ·obtain ⟨x, hx⟩ : ∃ x, xs[j]? = some x := ⟨xs[j]'(by rw [H1.out]; exact hlt), by simp⟩
    obtain ⟨y, hy⟩ : ∃ y, ys[j]? = some y := ⟨ys[j]'(by rw [H2.out]; exact hlt), by simp⟩
    obtain ⟨xc, hxc, hxr⟩ := ha.at hx
    obtain ⟨yc, hyc, hyr⟩ := hb.at hy
    obtain ⟨kb, ko, rfl, _, hat⟩ := hra.later (KeptOn.of_below hbw) (by intro h0; have := ha.len; rw [h0, H1.out] at this; simp at this; omega)
    obtain ⟨lb, lo, rfl, _, hbt⟩ := hrb.later (KeptOn.of_below hbw) (by intro h0; have := hb.len; rw [h0, H2.out] at this; simp at this; omega)
    have hpay := IH x (List.mem_of_getElem? hx)
    have HD := Hd (sames_drop hx hy)
    have hxr := hxr.later (KeptOn.of_below hbw)
    have hyr := hyr.later (KeptOn.of_below hbw)
    clear hx hy ha hb hra hrb IH
    have c := fun (i : Nat) (u : Value) (h : xc[i]? = some u) => hat.cell hxc h
    have d := fun (i : Nat) (u : Value) (h : yc[i]? = some u) => hbt.cell hyc h
    have hxr0 := hxr
    have hyr0 := hyr
    cases hxr0 with
    | @mk k1 t1 f1 o1 ks1 ao1 cap1 css1 hk1 hr1 hc1 =>
      cases hyr0 with
      | @mk k2 t2 f2 o2 ks2 ao2 cap2 css2 hk2 hr2 hc2 =>
        clear hk1 hr1 hc1 hk2 hr2 hc2 hat hbt hxc hyc
        have c0 := c 0 _ rfl
        have c1 := c 1 _ rfl
        have c2 := c 2 _ rfl
        have c3 := c 3 _ rfl
        have c4 := c 4 _ rfl
        have e := fun (i : Nat) (u : Value) (h : [Value.string k2, .string t2, .int .i64 f2, .int .i64 o2, .slice ao2 ks2.length cap2][i]? = some u) => kept_cell ((Below.refl _ wr).alloc (Nat.le_refl _) (.cells #[Value.string k1, .string t1, .int .i64 f1, .int .i64 o1, .slice ao1 ks1.length cap1] 50)) (d i u h)
        have d0 := e 0 _ rfl
        have d1 := e 1 _ rfl
        have d2 := e 2 _ rfl
        have d3 := e 3 _ rfl
        have d4 := e 4 _ rfl
        clear c d e
        simp only [Nat.add_zero] at c0 d0
        go_wp2_with fail
        refine (hpay _ _ _ F _ (hxr.later (KeptOn.of_below (two_new wr _ _))) (hyr.later (KeptOn.of_below (two_new wr _ _)))).mono ?_
        rintro e w3 ⟨rfl, hb3⟩
        have hb3' : Below w.heap.size w w3 := hbw.trans ((two_new wr _ _).trans (hb3.mono (by simp; omega)) |>.mono hbw.size)
        clear hb3 hxr hyr hpay c0 c1 c2 c3 c4 d0 d1 d2 d3 d4
        cases hsame : T.same (T.mk k1 t1 f1 o1 ks1) (T.mk k2 t2 f2 o2 ks2) with
        | true =>
          rw [hsame, Bool.true_and] at HD
          clear hsame
          go_wp2_with fail
          refine ⟨⟨j + 1, by omega, by go_num, Hd (hs.out.trans HD.out), hb3'⟩, by simp [intOf]; omega⟩
        | false =>
          rw [hsame, Bool.false_and] at HD
          clear hsame
          go_wp2_with fail
          go_ret
          refine ⟨?_, hb3'⟩
          rw [hs.out, HD.out]
          rfl
   ·go_wp2_with fail
    go_ret
    refine ⟨?_, hbw⟩
    rw [hs.out, List.drop_eq_nil_of_le (by rw [H1.out]; omega), List.drop_eq_nil_of_le (by rw [H2.out]; omega)]
    rfl
 ·go_enter Tryz.func73, Tryz.ntmps73
  have hl2 : ((n : Int) == m) = false := by simp; omega
  go_wp2
  go_ret
  refine ⟨?_, Below.refl _ _⟩
  rw [sames_len xs ys (by rw [H1.out, H2.out]; exact hl)]
  rfl
theorem tsame_any : ∀ x, SamePays x := by
 intro x
 induction x using T.ind with
 | h k1 t1 f1 o1 ks1 ih =>
   intro y cx cy F w hx hy
   obtain ⟨k2, t2, f2, o2, ks2⟩ := y
   have two := fun a b => two_new w a b
   cases hx with
   | @mk _ _ _ _ _ ao1 cap1 css1 hk1 hr1 hc1 =>
     cases hy with
     | @mk _ _ _ _ _ ao2 cap2 css2 hk2 hr2 hc2 =>
       have HQ := Hd (fun w' (hb : Below w.heap.size w w') => tequal_any ks1 ks2 ih F w' ao1 ao2 cap1 cap2 css1 css2 (hk1.later (KeptOn.of_below hb)) (hr1.later (KeptOn.of_below hb)) (hk2.later (KeptOn.of_below hb)) (hr2.later (KeptOn.of_below hb)) _ _ rfl rfl hc1.2)
       have HT := Hd two
       clear hk1 hr1 hk2 hr2 ih two hc1 hc2
       by_cases h1 : k1 = k2
       ·subst h1
        by_cases h2 : t1 = t2
        ·subst h2
         by_cases h3 : f1 = f2
         ·subst h3
          by_cases h4 : o1 = o2
          ·subst h4
           go_enter Tryz.func42, Tryz.ntmps42
           go_wp2_with fail
           refine (HQ.out _ (HT.out _ _)).mono ?_
           rintro e w3 ⟨rfl, hb3⟩
           go_wp2
           go_ret
           refine ⟨by simp [T.same], (HT.out _ _).trans (hb3.mono (by simp; omega))⟩
          ·have h4' : ((o1 : Int) == o2) = false := by simpa using h4
           go_enter Tryz.func42, Tryz.ntmps42
           go_wp2
           go_ret
           refine ⟨by simp [T.same, h4], HT.out _ _⟩
         ·have h3' : ((f1 : Int) == f2) = false := by simpa using h3
          go_enter Tryz.func42, Tryz.ntmps42
          go_wp2
          go_ret
          refine ⟨by simp [T.same, h3], HT.out _ _⟩
        ·have h2' : ¬ t1.toList = t2.toList := fun h => h2 (bl_inj h)
         go_enter Tryz.func42, Tryz.ntmps42
         go_wp2
         go_ret
         refine ⟨by simp [T.same, h2], HT.out _ _⟩
       ·have h1' : ¬ k1.toList = k2.toList := fun h => h1 (bl_inj h)
        go_enter Tryz.func42, Tryz.ntmps42
        go_wp2
        go_ret
        refine ⟨by simp [T.same, h1], HT.out _ _⟩
end Go.Proofs.YtllbbacnakoomaaGreatDoor
namespace Go.Proofs.YtllbbacnakoomaaGreatDoor
set_option linter.unusedVariables false
def declareOddL : List (List UInt8) := [([97] : List UInt8), ([123,32,97,59] : List UInt8), ([105,102,32,97] : List UInt8), ([105,102,32,40,97,41] : List UInt8), ([102,111,114,32,40,97,59,41] : List UInt8), ([100,111,32,59,32,119,104,105,108,101,32,40,97,41] : List UInt8), ([103,111,116,111,32,49,59] : List UInt8), ([99,97,115,101,32,58,32,97,59] : List UInt8), ([114,101,116,117,114,110,32,97] : List UInt8), ([123,32,105,110,116,32,49,59,32,125] : List UInt8), ([123,32,105,110,116,32,97,32,61,32,59,32,125] : List UInt8), ([101,108,115,101,32,97,59] : List UInt8), ([120,58] : List UInt8), ([123,32,105,110,116,32,97,32,98,59,32,125] : List UInt8), ([123,32,115,116,114,117,99,116,32,123,32,125,32,97,59,32,125] : List UInt8), ([123,32,101,110,117,109,32,123,32,125,32,97,59,32,125] : List UInt8), ([123,32,95,83,116,97,116,105,99,95,97,115,115,101,114,116,40,49,44,32,50,41,59,32,125] : List UInt8), ([119,104,105,108,101,32,40,41] : List UInt8), ([123,32,116,121,112,101,100,101,102,59,32,43,32,125] : List UInt8), ([115,119,105,116,99,104,32,40,97,41,32,123] : List UInt8)]
def declareOddA : List Nat := [1,3,1,4,4,6,1,1,2,2,4,0,2,3,3,3,5,2,4,5]
def oddOf (L : List Ct) : PO T := (recN L 1000).stmt 0 ⟨0, .new, false⟩
def oddB (L : List Ct) (a : Nat) : Bool := match oddOf L with
 | none => false
 | some r => r.2.bad && decide (r.2.at_ = (a : Int))
theorem odd_all : ((declareOddL.zip declareOddA).all fun p => quickB p.1 && oddB (quickC p.1) p.2) = true := by kernel_rfl
theorem odd_same {s : List UInt8} {a : Nat} (h : (quickB s && oddB (quickC s) a) = true) : ∃ n t, oddOf (toksU s) = some (n, t) ∧ t.bad = true ∧ t.at_ = (a : Int) := by
 rw [Bool.and_eq_true] at h
 obtain ⟨hq, hd⟩ := h
 unfold oddB at hd
 cases hr : oddOf (quickC s) with
 | none => rw [hr] at hd; cases hd
 | some r =>
   obtain ⟨n, t⟩ := r
   rw [hr] at hd
   simp only [Bool.and_eq_true, decide_eq_true_eq] at hd
   have := (rec_sim (mv_same (quick_same hq)) 1000).stmt 0 ⟨0, .new, false⟩ (Int.le_refl _)
   rw [Ps.mv_id] at this
   obtain ⟨a', e1, _⟩ := sim_same this hr
   exact ⟨a', t, e1, hd.1, hd.2⟩
end Go.Proofs.YtllbbacnakoomaaGreatDoor
namespace Go.Proofs.YtllbbacnakoomaaGreatDoor
open Go.RowKit
set_option linter.unusedVariables false
theorem declareOdd_walk (a0 : Int) (w0 : (Lit.int .i64 a0).wf = true) (w : World) (hsp : SpTab w) :
 Calls Tryz.prog 13 #[.int .i64 a0] w fun e w' => e = .returned (.bool true) ∧ Below w.heap.size w w' := by
 obtain ⟨i, hi, he, hr1, hr2⟩ := tmod_at a0 20 (by omega)
 have hA := Hd (fun (y : World) (hy : Below w.heap.size w y) => awake21_any y (hsp.below hy))
 have g : IntKind.i64.wrap (a0.tmod 20 + 20) = a0.tmod 20 + 20 := IntWalk.i64_in _ (by simp only [Int.cast_ofNat_Int] at hr1 hr2; omega)
 have he' : (a0.tmod 20 + 20).tmod 20 = (i : Int) := he
 clear hr1 hr2 he w0
 go_enter Tryz.func13, Tryz.ntmps13
 go_upto_region 4 with fail
 refine wp_world fun W hW => ?_
 have hx : ∀ l, declareOddL[i]? = some l → W.cell? ⟨w.heap.size, i, none⟩ = some (.string ⟨l.toArray⟩) := fun l hl => by
  have h1 : W.heap[w.heap.size]? = some (.cells (declareOddL.map fun l => Value.string ⟨l.toArray⟩).toArray 9 (0,0)) := by
   rw [hW]; exact (heap_alloc_old _ _ (by simp)).trans (heap_alloc_new _ _)
  rw [Lib.cell_of_heap h1]
  simp [hl]
 have hy : ∀ l, declareOddA[i]? = some l → W.cell? ⟨w.heap.size + 1, i, none⟩ = some (.int .i64 (l : Int)) := fun l hl => by
  have h1 : W.heap[w.heap.size + 1]? = some (.cells (declareOddA.map fun (l : Nat) => Value.int .i64 (l : Int)).toArray 3 (0,0)) := by
   rw [hW]; exact heap_alloc2_new _ _ _
  rw [Lib.cell_of_heap h1]
  simp [hl]
 have hbW : Below w.heap.size w W := by rw [hW]; exact ((Below.refl _ _).alloc (Nat.le_refl _) _).alloc (by simp) _
 obtain ⟨a, ha⟩ : ∃ a, declareOddL[i]? = some a := ⟨declareOddL[i]'(by show i < 20; exact hi), by simp⟩
 obtain ⟨o, ho⟩ : ∃ o, declareOddA[i]? = some o := ⟨declareOddA[i]'(by show i < 20; exact hi), by simp⟩
 have hz : (declareOddL.zip declareOddA)[i]? = some (a, o) := by rw [List.getElem?_zip_eq_some]; exact ⟨ha, ho⟩
 obtain ⟨n, s', hr, hbad, hat⟩ := odd_same (List.all_eq_true.1 odd_all (a, o) (List.mem_of_getElem? hz))
 have hal : a.length ≤ 1900 := by
  have h : (declareOddL.all fun l => decide (l.length ≤ 1900)) = true := by kernel_rfl
  simpa using List.all_eq_true.1 h a (List.mem_of_getElem? ha)
 have HT := fun w => toks21_any ⟨a.toArray⟩ (by show a.toArray.size ≤ _; simpa using hal) w
 have hfc := toksU_facts (s := ⟨a.toArray⟩) (by show a.toArray.size ≤ _; simpa using hal)
 simp only at HT hfc
 obtain ⟨L, hL⟩ : ∃ L, L = toksU a := ⟨_, rfl⟩
 rw [← hL] at hfc
 unfold oddOf at hr
 rw [← hL] at hr
 simp only [← hL] at HT
 obtain ⟨hL1, hL2⟩ := hfc
 replace hx := hx a ha
 replace hy := hy o ho
 obtain ⟨AB, hAB⟩ : ∃ AB : ByteArray, AB = ⟨a.toArray⟩ := ⟨_, rfl⟩
 rw [← hAB] at hx
 simp only [← hAB] at HT
 have hbW2 := Hd hbW
 have hi' : (i : Int) < 20 := by omega
 have HY : Hid (∀ y, Below W.heap.size W y → y.cell? ⟨w.heap.size + 1, i, none⟩ = some (.int .i64 (o : Int))) := Hd fun y h => kept_cell h hy
 have hsp' := Hd hsp
 have HT := Hd HT
 replace hr := Hd hr
 replace hL2 := Hd hL2
 clear hW ha ho hz hal hAB hL he' g hsp hbW hy
 go_wp2_with fail
 refine (HT.out _).mono ?_
 rintro e w1 ⟨vo, rfl, ho2, hb2⟩
 obtain ⟨a2, c2, rfl, hc2, _, hr2, _⟩ := ho2.rown (n := L.length) (by rw [List.length_map])
 have hWx := Hd hb2
 have hbx := Hd (hbW2.out.trans (hb2.mono hbW2.out.size))
 have HM := Hd (made21_any L a2 c2 L.length rfl (by omega) w1 hr2)
 clear HT hx ho2 hr2 hb2
 go_wp2_with fail
 refine HM.out.mono ?_
 rintro e w3 ⟨vm, rfl, ho3, hb3⟩
 replace hWx := Hd (hWx.out.trans (hb3.mono hWx.out.size))
 replace hbx := Hd (hbx.out.trans (hb3.mono hbx.out.size))
 obtain ⟨ta, tc, rfl, hta⟩ := tkAt_own ho3 hL1 hL2.out (hsp'.out.below hbx.out)
 replace hta := Hd hta
 clear HM hb3 ho3
 go_wp2_with fail
 refine (new_any _).mono ?_
 rintro e w4 ⟨⟨p, rfl, hev⟩, hb4⟩
 have HE := Hd (dStmt_any (nest := 0) (i := 0) (hta.out.below hb4) hev (by omega) (by omega) (by omega) hr.out)
 replace hWx := Hd (hWx.out.trans (hb4.mono hWx.out.size))
 replace hbx := Hd (hbx.out.trans (hb4.mono hbx.out.size))
 clear hb4 hev
 go_wp2_with fail
 refine HE.out.mono ?_
 rintro e w5 ⟨m, ma, mc, q4, rfl, hm, hnd, _, _, hb5⟩
 clear HE
 obtain rfl : m = zT := by rw [hm, hbad]; rfl
 have hv : ndV zT ma mc = .agg #[.string ⟨#[]⟩, .string ⟨#[]⟩, .int .i64 0, .int .i64 0, .slice ma 0 mc] := rfl
 rw [hv]
 clear hv hm
 replace hWx := Hd (hWx.out.trans (hb5.mono hWx.out.size))
 replace hbx := Hd (hbx.out.trans (hb5.mono hbx.out.size))
 go_upto_region 5 with fail
 refine wp_world fun V hV => ?_
 have hbV : Below w5.heap.size w5 V := by rw [hV]; exact ((Below.refl _ _).alloc (Nat.le_refl _) _).alloc (by simp) _
 have hB1 : V.heap[w5.heap.size]? = some (.cells #[.string ⟨#[]⟩, .string ⟨#[]⟩, .int .i64 0, .int .i64 0, .slice ma 0 mc] 50 (0,0)) := by rw [hV]; exact (heap_alloc_old _ _ (by simp)).trans (heap_alloc_new _ _)
 have hB2 : V.heap[w5.heap.size + 1]? = some (paO L ta tc (o : Int) p 0) := by rw [hV]; exact heap_alloc2_new _ _ _
 have HV : Hid (∀ y, Below V.heap.size V y → y.heap[w5.heap.size]? = some (.cells #[.string ⟨#[]⟩, .string ⟨#[]⟩, .int .i64 0, .int .i64 0, .slice ma 0 mc] 50 (0,0)) ∧ y.heap[w5.heap.size + 1]? = some (paO L ta tc (o : Int) p 0) ∧ y.cell? ⟨w.heap.size + 1, i, none⟩ = some (.int .i64 (o : Int)) ∧ Below w.heap.size w y ∧ Calls Tryz.prog 42 #[.agg #[.string ⟨#[]⟩, .string ⟨#[]⟩, .int .i64 0, .int .i64 0, .slice ma 0 mc], .agg #[.string ⟨#[]⟩, .string ⟨#[]⟩, .int .i64 0, .int .i64 0, .slice none 0 0]] y (fun e w' => e = .returned (.bool true) ∧ Below y.heap.size y w')) := Hd fun y hy => by
  have hy5 := hbV.trans (hy.mono hbV.size)
  refine ⟨(hy.block _ (lt_of_block hB1)).trans hB1, (hy.block _ (lt_of_block hB2)).trans hB2, HY.out _ (hWx.out.trans (hy5.mono hWx.out.size)), hbx.out.trans (hy5.mono hbx.out.size), ?_⟩
  exact tsame_any zT zT _ _ _ y (hnd.below hy5) (Rep.leaf eB eB 0 0)
 have hdV : Below V.heap.size V V.drew := (Below.refl _ V).drew
 obtain ⟨b1, b2, b3, hbw, HSm⟩ := HV.out _ hdV
 obtain ⟨n0, n1, n2, n3, n4, nf⟩ := nd_cells b1
 obtain ⟨p0, p1, p2, p3, pf⟩ := pa_cells b2
 have HSm := Hd HSm
 clear b1 b2 hV hB1 hB2 hnd hWx hbx hta HY hr hL2 hsp' hbV
 replace hbad := Hd hbad
 go_region_with (first
  | (go_at_call 42; (with_reducible refine HSm.out.mono ?_); rintro e w7 ⟨rfl, hb7⟩; have hV7 := Hd (hdV.trans (hb7.mono hdV.size)); have hbw7 := Hd (HV.out _ hV7.out).2.2.2.1)
  | (go_at_call 30; (with_reducible refine (hA.out _ hbw7.out).mono ?_); rintro e w8 ⟨rfl, hb8⟩; have hb9 := Hd (hbw7.out.trans (hb8.mono hbw7.out.size))))
 all_goals
  go_wp2_with fail
  go_ret
  exact ⟨rfl, hb9.out⟩
end Go.Proofs.YtllbbacnakoomaaGreatDoor
