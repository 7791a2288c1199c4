/- Trees: Same. -/
import Derived.Test.YtcafiaoinonpgaaTree2
namespace Go.Proofs.Ytcafiaoinonpgaa
open Go.RowKit
set_option linter.unusedVariables false

/-- the call of Same at two trees -/
def SamePays (x : T) : Prop := ∀ (y : T) (cx cy : List Value) (F : Nat → Prop) (w : World), Rep w F x cx → Rep w F y cy →
    Calls Try.prog 21 #[.agg cx.toArray, .agg cy.toArray] w fun e w' => e = .returned (.bool (T.same x y)) ∧ Below w.heap.size w w'

theorem sames_len : ∀ (xs ys : List T), xs.length ≠ ys.length → T.sames xs ys = false := by
  intro xs
  induction xs with
  | nil => intro ys h; cases ys with | nil => exact (h rfl).elim | cons => simp [T.sames]
  | cons a xs ih => intro ys h; cases ys with | nil => simp [T.sames] | cons b ys => simp [T.sames, ih ys (by simpa using h)]

theorem sames_drop {xs ys : List T} {j : Nat} {x y : T} (hx : xs[j]? = some x) (hy : ys[j]? = some y) : T.sames (xs.drop j) (ys.drop j) = (T.same x y && T.sames (xs.drop (j + 1)) (ys.drop (j + 1))) := by
  obtain ⟨h1, rfl⟩ := List.getElem?_eq_some_iff.1 hx
  obtain ⟨h2, rfl⟩ := List.getElem?_eq_some_iff.1 hy
  rw [List.drop_eq_getElem_cons h1, List.drop_eq_getElem_cons h2]
  simp [T.sames]

theorem two_new (w : World) (a b : Obj) : Below w.heap.size w ((w.alloc a).alloc b) := ((Below.refl _ w).alloc (Nat.le_refl _) _).alloc (by simp) _

set_option maxHeartbeats 2000000 in
set_option maxRecDepth 100000 in
theorem tequal_any (xs ys : List T) (IH : ∀ x ∈ xs, SamePays x) (F : Nat → Prop) (w : World) (ao bo : Option Addr) (ca cb : Nat) (css dss : List (List Value)) (ha : Reps w F xs css) (hra : RowF w F 5 ao css) (hb : Reps w F ys dss) (hrb : RowF w F 5 bo dss) (n m : Nat) (h1 : xs.length = n) (h2 : ys.length = m) (hn : n ≤ 1000000000) :
    Calls Try.prog 35 #[.slice ao n ca, .slice bo m cb, .func (.func 21) #[] #[]] w fun e w' => e = .returned (.bool (T.sames xs ys)) ∧ Below w.heap.size w w' := by
  have H1 := Lib.hid h1
  have H2 := Lib.hid h2
  clear h1 h2
  by_cases hl : n = m
  · subst hl
    go_enter Try.func35, Try.ntmps35
    go_wp2
    go_loopw [17] (fun i wr => ∃ j : Nat, j ≤ n ∧ i = .int .i64 j ∧ Hid (T.sames xs ys = T.sames (xs.drop j) (ys.drop j)) ∧ Below w.heap.size w wr) (fun i _ => n - (intOf i).toNat)
    case atStart => exact ⟨0, Nat.zero_le _, rfl, Lib.hid (by simp), Below.refl _ _⟩
    case round =>
      obtain ⟨j, hj, rfl, hs, hbw⟩ := hrel
      by_cases hlt : j < n
      · obtain ⟨x, hx⟩ : ∃ x, xs[j]? = some x := ⟨xs[j]'(by rw [H1.out]; exact hlt), by simp⟩
        obtain ⟨y, hy⟩ : ∃ y, ys[j]? = some y := ⟨ys[j]'(by rw [H2.out]; exact hlt), by simp⟩
        obtain ⟨xc, hxc, hxr⟩ := ha.at hx
        obtain ⟨yc, hyc, hyr⟩ := hb.at hy
        obtain ⟨kb, ko, rfl, _, hat⟩ := hra.later (KeptOn.of_below hbw) (by intro h0; have := ha.len; rw [h0, H1.out] at this; simp at this; omega)
        obtain ⟨lb, lo, rfl, _, hbt⟩ := hrb.later (KeptOn.of_below hbw) (by intro h0; have := hb.len; rw [h0, H2.out] at this; simp at this; omega)
        have hpay := IH x (List.mem_of_getElem? hx)
        have HD := Lib.hid (sames_drop hx hy)
        have hxr := hxr.later (KeptOn.of_below hbw)
        have hyr := hyr.later (KeptOn.of_below hbw)
        clear hx hy ha hb hra hrb IH
        have c := fun (i : Nat) (u : Value) (h : xc[i]? = some u) => hat.cell hxc h
        have d := fun (i : Nat) (u : Value) (h : yc[i]? = some u) => hbt.cell hyc h
        have hxr0 := hxr
        have hyr0 := hyr
        cases hxr0 with
        | @mk k1 t1 f1 o1 ks1 ao1 cap1 css1 hk1 hr1 hc1 =>
          cases hyr0 with
          | @mk k2 t2 f2 o2 ks2 ao2 cap2 css2 hk2 hr2 hc2 =>
            clear hk1 hr1 hc1 hk2 hr2 hc2 hat hbt hxc hyc
            have c0 := c 0 _ rfl
            have c1 := c 1 _ rfl
            have c2 := c 2 _ rfl
            have c3 := c 3 _ rfl
            have c4 := c 4 _ rfl
            have e := fun (i : Nat) (u : Value) (h : [Value.string k2, .string t2, .int .i64 f2, .int .i64 o2, .slice ao2 ks2.length cap2][i]? = some u) => kept_cell ((Below.refl _ wr).alloc (Nat.le_refl _) (.cells #[Value.string k1, .string t1, .int .i64 f1, .int .i64 o1, .slice ao1 ks1.length cap1] 40)) (d i u h)
            have d0 := e 0 _ rfl
            have d1 := e 1 _ rfl
            have d2 := e 2 _ rfl
            have d3 := e 3 _ rfl
            have d4 := e 4 _ rfl
            clear c d e
            simp only [Nat.add_zero] at c0 d0
            go_wp2_with fail
            refine (hpay _ _ _ F _ (hxr.later (KeptOn.of_below (two_new wr _ _))) (hyr.later (KeptOn.of_below (two_new wr _ _)))).mono ?_
            rintro e w3 ⟨rfl, hb3⟩
            have hb3' : Below w.heap.size w w3 := hbw.trans ((two_new wr _ _).trans (hb3.mono (by simp; omega)) |>.mono hbw.size)
            clear hb3 hxr hyr hpay c0 c1 c2 c3 c4 d0 d1 d2 d3 d4
            cases hsame : T.same (T.mk k1 t1 f1 o1 ks1) (T.mk k2 t2 f2 o2 ks2) with
            | true =>
              rw [hsame, Bool.true_and] at HD
              clear hsame
              go_wp2_with fail
              refine ⟨⟨j + 1, by omega, by go_num, Lib.hid (hs.out.trans HD.out), hb3'⟩, by simp [intOf]; omega⟩
            | false =>
              rw [hsame, Bool.false_and] at HD
              clear hsame
              go_wp2_with fail
              go_ret
              refine ⟨?_, hb3'⟩
              rw [hs.out, HD.out]
              rfl
      · go_wp2_with fail
        go_ret
        refine ⟨?_, hbw⟩
        rw [hs.out, List.drop_eq_nil_of_le (by rw [H1.out]; omega), List.drop_eq_nil_of_le (by rw [H2.out]; omega)]
        rfl
  · go_enter Try.func35, Try.ntmps35
    have hl2 : ((n : Int) == m) = false := by simp; omega
    go_wp2
    go_ret
    refine ⟨?_, Below.refl _ _⟩
    rw [sames_len xs ys (by rw [H1.out, H2.out]; exact hl)]
    rfl

set_option maxHeartbeats 2000000 in
set_option maxRecDepth 100000 in
theorem tsame_any : ∀ x, SamePays x := by
  intro x
  induction x using T.ind with
  | h k1 t1 f1 o1 ks1 ih =>
    intro y cx cy F w hx hy
    obtain ⟨k2, t2, f2, o2, ks2⟩ := y
    have two := fun a b => two_new w a b
    cases hx with
    | @mk _ _ _ _ _ ao1 cap1 css1 hk1 hr1 hc1 =>
      cases hy with
      | @mk _ _ _ _ _ ao2 cap2 css2 hk2 hr2 hc2 =>
        have HQ := Lib.hid (fun w' (hb : Below w.heap.size w w') => tequal_any ks1 ks2 ih F w' ao1 ao2 cap1 cap2 css1 css2 (hk1.later (KeptOn.of_below hb)) (hr1.later (KeptOn.of_below hb)) (hk2.later (KeptOn.of_below hb)) (hr2.later (KeptOn.of_below hb)) _ _ rfl rfl hc1.2)
        have HT := Lib.hid two
        clear hk1 hr1 hk2 hr2 ih two hc1 hc2
        by_cases h1 : k1 = k2
        · subst h1
          by_cases h2 : t1 = t2
          · subst h2
            by_cases h3 : f1 = f2
            · subst h3
              by_cases h4 : o1 = o2
              · subst h4
                go_enter Try.func21, Try.ntmps21
                go_wp2_with fail
                refine (HQ.out _ (HT.out _ _)).mono ?_
                rintro e w3 ⟨rfl, hb3⟩
                go_wp2
                go_ret
                refine ⟨by simp [T.same], (HT.out _ _).trans (hb3.mono (by simp; omega))⟩
              · have h4' : ((o1 : Int) == o2) = false := by simpa using h4
                go_enter Try.func21, Try.ntmps21
                go_wp2
                go_ret
                refine ⟨by simp [T.same, h4], HT.out _ _⟩
            · have h3' : ((f1 : Int) == f2) = false := by simpa using h3
              go_enter Try.func21, Try.ntmps21
              go_wp2
              go_ret
              refine ⟨by simp [T.same, h3], HT.out _ _⟩
          · have h2' : ¬ t1.toList = t2.toList := fun h => h2 (bl_inj h)
            go_enter Try.func21, Try.ntmps21
            go_wp2
            go_ret
            refine ⟨by simp [T.same, h2], HT.out _ _⟩
        · have h1' : ¬ k1.toList = k2.toList := fun h => h1 (bl_inj h)
          go_enter Try.func21, Try.ntmps21
          go_wp2
          go_ret
          refine ⟨by simp [T.same, h1], HT.out _ _⟩
end Go.Proofs.Ytcafiaoinonpgaa
