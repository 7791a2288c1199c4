/- macro's tables: New, Look, own. -/
import Derived.Test.YthbicbfdldpemaaMc8
import Derived.Test.YthbicbfdldpemaaMc6
import Derived.Deep.RegionLaw
import Derived.WalkSpells
import Derived.Deep.Cut
namespace Go.Proofs.Ythbicbfdldpemaa
open Go.RowKit
set_option linter.unusedVariables false

theorem mCloneStr_any (xs : List ByteArray) (ao : Option Addr) (cap : Nat) (hx : xs.length ≤ 1000000) (h0 : ao = none → xs = [] ∧ cap = 0) (w : World) (hr : Row w 1 ao (xs.map fun p => [.string p])) :
    Calls Try.prog 91 #[.slice ao xs.length cap] w fun e w' => ∃ v', e = .returned v' ∧ Own w' w.heap.size 9 1 v' (xs.map fun p => [.string p]) ∧ Below w.heap.size w w' := by
  have hfl : ∀ zs : List ByteArray, (zs.map fun p => [Value.string p]).flatten = zs.map Value.string := by intro zs; induction zs with | nil => rfl | cons z zs ih => simp [ih]
  cases ao with
  | none =>
    obtain ⟨rfl, rfl⟩ := h0 rfl
    refine (Try.slices_Clone_string_nil 0 0 w).mono ?_
    rintro e w' ⟨rfl, rfl⟩
    exact ⟨_, rfl, Own.nil _ _ _ _, Below.refl _ _⟩
  | some a =>
    cases xs with
    | nil =>
      refine (Try.slices_Clone_string_zero a cap w).mono ?_
      rintro e w' ⟨v', rfl, h1, _, h2⟩
      exact ⟨v', rfl, ⟨by simpa using h1, by simp⟩, h2⟩
    | cons x xs =>
      obtain ⟨b, o, e, hat⟩ := hr (by simp)
      injection e with e
      subst e
      refine (Try.slices_Clone_string b o (x :: xs).length cap (x :: xs) w (Nat.le_refl _) (by omega) (fun j hj => by
        have := hat.cell (i := j) (cs := [.string ((x :: xs).getD j ByteArray.empty)]) (by rw [List.getElem?_map, List.getElem?_eq_getElem hj]; simp [List.getD_eq_getElem?_getD, List.getElem?_eq_getElem hj]) (j := 0) (u := .string ((x :: xs).getD j ByteArray.empty)) rfl
        simpa using this)).mono ?_
      rintro e w' ⟨v', rfl, h1, _, h2⟩
      rw [List.take_length] at h1
      exact ⟨v', rfl, ⟨by rw [hfl, List.length_map]; exact h1, by simp⟩, h2⟩

/-- a definition's parts in memory of the call's own -/
structure MacOwn (w : World) (B : Nat) (m : Mac) (psv bov : Value) : Prop where
  ps : Own w B 9 1 psv (m.params.map fun p => [.string p])
  body : ∃ T : List (Tm × Value), Own w B 43 8 bov (T.map tvC) ∧ T.map (·.1) = m.body ∧ ∀ p ∈ T, p.2 = .slice none 0 0

theorem MacOwn.mono {w : World} {B B' : Nat} {m : Mac} {psv bov : Value} (h : MacOwn w B m psv bov) (hB : B' ≤ B) : MacOwn w B' m psv bov :=
  let ⟨h1, T, h2, h3⟩ := h; ⟨h1.mono hB, T, h2.mono hB, h3⟩
theorem MacOwn.rowBelow {w : World} {B b : Nat} {m : Mac} {psv bov : Value} (h : MacOwn w B m psv bov) (hb : b < B) (cs : Array Value) : MacOwn (w.setRow b cs) B m psv bov :=
  let ⟨h1, T, h2, h3⟩ := h; ⟨h1.rowBelow hb cs, T, h2.rowBelow hb cs, h3⟩
theorem MacOwn.below {w w' : World} {B : Nat} {m : Mac} {psv bov : Value} (h : MacOwn w B m psv bov) (hb : Below w.heap.size w w') : MacOwn w' B m psv bov :=
  let ⟨h1, T, h2, h3⟩ := h; ⟨h1.below hb, T, h2.below hb, h3⟩

theorem MacAt.of_own {w : World} {B C : Nat} {m : Mac} {psv bov : Value} {T : List (Tm × Value)} (h1 : Own w B 9 1 psv (m.params.map fun p => [.string p])) (h2 : Own w C 43 8 bov (T.map tvC)) (h3 : T.map (·.1) = m.body) (h4 : ∀ p ∈ T, p.2 = .slice none 0 0) (l1 : m.params.length ≤ 1000000) (l2 : m.body.length ≤ 1000000) : MacAt w m psv bov := by
  have hTl : T.length = m.body.length := by rw [← h3]; simp
  obtain ⟨ao, cap, rfl, _, _, hr, h0⟩ := h1.rown (n := m.params.length) (by simp)
  obtain ⟨bo, cb, rfl, hc, _, hrb, _⟩ := h2.rown (n := m.body.length) (by simp [hTl])
  exact ⟨⟨ao, cap, rfl, hr, l1, fun e => ⟨by simpa using (h0 e).1, (h0 e).2⟩⟩, ⟨bo, cb, T, rfl, hc, l2, h3, hrb, h4⟩⟩

theorem MacOwn.at {w : World} {B : Nat} {m : Mac} {psv bov : Value} (h : MacOwn w B m psv bov) (l1 : m.params.length ≤ 1000000) (l2 : m.body.length ≤ 1000000) : MacAt w m psv bov :=
  let ⟨h1, T, h2, h3, h4⟩ := h; MacAt.of_own h1 h2 h3 h4 l1 l2

set_option maxRecDepth 100000 in
theorem mOwnMac_any (m : Mac) (psv bov : Value) (w : World) (h : MacAt w m psv bov) :
    Calls Try.prog 63 #[.agg (mcC m.name m.fn m.va psv bov m.file m.f m.t).toArray] w fun e w' => ∃ psv' bov', e = .returned (.agg (mcC m.name m.fn m.va psv' bov' m.file m.f m.t).toArray) ∧ MacOwn w' w.heap.size m psv' bov' ∧ Below w.heap.size w w' := by
  obtain ⟨⟨pao, pcp, rfl, hpr, hpl, hp0⟩, ⟨bao, bcp, T, rfl, hbc, hbl, hbs, hbr, hbi⟩⟩ := h
  have hTl : T.length = m.body.length := by rw [← hbs]; simp
  have HC := fun w' (h : Below w.heap.size w w') => mCloneStr_any m.params pao pcp hpl hp0 w' (hpr.below h)
  have HO := fun w' (h : Below w.heap.size w w') => mOwn_any T bao bcp (by omega) (by omega) w' (hbr.below h) (fun p hp => ⟨[], by rw [hbi p hp]; exact SiteIn.nil _⟩)
  rw [hTl] at HO
  obtain ⟨np, hnp⟩ : ∃ n, n = m.params.length := ⟨_, rfl⟩
  obtain ⟨nb, hnb⟩ : ∃ n, n = m.body.length := ⟨_, rfl⟩
  rw [← hnp] at HC ⊢
  rw [← hnb] at HO ⊢
  replace HC := Lib.hid HC
  replace HO := Lib.hid HO
  replace hnp := Lib.hid hnp
  replace hnb := Lib.hid hnb
  unfold mcC
  go_enter Try.func63, Try.ntmps63
  obtain ⟨W0, hW0⟩ : ∃ W0, W0 = (w.alloc (.cells #[.string m.name, .bool m.fn, .bool m.va, .slice pao np pcp, .slice bao nb bcp, .string m.file, .int .i64 m.f, .int .i64 m.t] 29)).alloc (.cells #[.string ⟨#[]⟩, .bool false, .bool false, .slice none 0 0, .slice none 0 0, .string ⟨#[]⟩, .int .i64 0, .int .i64 0] 29) := ⟨_, rfl⟩
  have hB0 : Below w.heap.size w W0 := by rw [hW0]; exact ((Below.refl _ w).alloc (Nat.le_refl _) _).alloc (by simp) _
  have hm0 : W0.heap[w.heap.size]? = some (.cells #[.string m.name, .bool m.fn, .bool m.va, .slice pao np pcp, .slice bao nb bcp, .string m.file, .int .i64 m.f, .int .i64 m.t] 29 (0, 0)) := by rw [hW0]; exact (Lib.alloc_old _ _ _ (by simp)).trans (heap_alloc_new w _)
  have hr0 : W0.heap[w.heap.size + 1]? = some (.cells #[.string ⟨#[]⟩, .bool false, .bool false, .slice none 0 0, .slice none 0 0, .string ⟨#[]⟩, .int .i64 0, .int .i64 0] 29 (0, 0)) := by rw [hW0]; have := heap_alloc_new (w.alloc (.cells #[.string m.name, .bool m.fn, .bool m.va, .slice pao np pcp, .slice bao nb bcp, .string m.file, .int .i64 m.f, .int .i64 m.t] 29)) (.cells #[.string ⟨#[]⟩, .bool false, .bool false, .slice none 0 0, .slice none 0 0, .string ⟨#[]⟩, .int .i64 0, .int .i64 0] 29); simpa using this
  have hs0 : W0.heap.size = w.heap.size + 2 := by rw [hW0]; simp
  go_upto_region 1 with fail
  rw [← hW0]
  replace hW0 := Lib.hid hW0
  obtain ⟨m0, m1, m2, m3, m4, m5, m6, m7⟩ := cells8 hm0
  go_cut [] from 3 to 10 (fun wx => ∃ (pao' : Option Addr) (pcp' : Nat) (bao' : Option Addr) (bcp' : Nat), (Own wx (w.heap.size + 2) 9 1 (.slice pao' np pcp') (m.params.map fun p => [.string p]) ∧ ∃ T' : List (Tm × Value), Own wx (w.heap.size + 2) 43 8 (.slice bao' nb bcp') (T'.map tvC) ∧ T'.map (·.1) = m.body ∧ ∀ p ∈ T', p.2 = .slice none 0 0) ∧ Below w.heap.size w wx ∧ wx.heap[w.heap.size]? = some (.cells #[.string m.name, .bool m.fn, .bool m.va, .slice pao' np pcp', .slice bao' nb bcp', .string m.file, .int .i64 m.f, .int .i64 m.t] 29 (0, 0)) ∧ wx.heap[w.heap.size + 1]? = some (.cells #[.string ⟨#[]⟩, .bool false, .bool false, .slice none 0 0, .slice none 0 0, .string ⟨#[]⟩, .int .i64 0, .int .i64 0] 29 (0, 0)))
  case first =>
    go_region_law (first
      | (go_simp; go_at_call 91; refine (HC.out W0.drew hB0.drew).mono ?_; rintro e w1 ⟨v1, rfl, ho1, hb1⟩; obtain ⟨qao, qcp, rfl, _, _, _, _⟩ := ho1.rown (n := np) (by rw [hnp.out]; simp); have hm1 := (hb1.block w.heap.size (by simp; omega)).trans hm0; have hr1 := (hb1.block (w.heap.size + 1) (by simp; omega)).trans hr0; have hA1 := hB0.drew.trans (hb1.mono (by simp; omega)); have f1 := fun j => Lib.frozen_of_heap hm1 j; obtain ⟨n0, n1, n2, n3, n4, n5, n6, n7⟩ := cells8 hm1)
      | (go_simp; go_at_call 44; refine (HO.out w1 hA1).mono ?_; rintro e w2 ⟨bv, T', rfl, hJ, hTl', hb2⟩; obtain ⟨rao, rcp, rfl, hrc, _, _, _⟩ := hJ.own.rown (n := nb) (by rw [List.length_map, hTl']); have hm2 := (hb2.block w.heap.size (by have := hA1.size; have := lt_of_block hm1; omega)).trans hm1; have hr2 := (hb2.block (w.heap.size + 1) (by have := lt_of_block hr1; omega)).trans hr1; have hA2 := hA1.trans (hb2.mono hA1.size); have f2 := fun j => Lib.frozen_of_heap hm2 j; obtain ⟨x0, x1, x2, x3, x4, x5, x6, x7⟩ := cells8 hm2))
    all_goals
      go_wp2_with fail
      go_meet
      case rel =>
        have hl1 := lt_of_block hr1
        have hl2 := lt_of_block hr2
        have hb2' : Below w.heap.size w w2 := hA2
        refine ⟨qao, qcp, rao, rcp, ⟨?_, T', ?_, ?_, hJ.nils hbi⟩, (hA2.setCell (p := ⟨w.heap.size, 3, none⟩) (Nat.le_refl _) _).setCell (p := ⟨w.heap.size, 4, none⟩) (Nat.le_refl _) _, ?_, ?_⟩
        · exact (((ho1.below hb2).setBelow (b := w.heap.size) (j := 3) (by simp; omega) _).setBelow (b := w.heap.size) (j := 4) (by simp; omega) _).mono (by simp; omega)
        · exact ((hJ.own.setBelow (b := w.heap.size) (j := 3) (by omega) _).setBelow (b := w.heap.size) (j := 4) (by omega) _).mono (by omega)
        · have h2 := hJ.same
          rw [hTl', List.take_of_length_le (by rw [hTl, hnb.out]; exact Nat.le_refl _)] at h2
          exact h2.trans hbs
        · exact mc_set4 (mc_set3 hm2 _) _
        · exact (Below.heap_setCell _ ⟨w.heap.size, 4, none⟩ _ (w.heap.size + 1) (by simp)).trans ((Below.heap_setCell _ ⟨w.heap.size, 3, none⟩ _ (w.heap.size + 1) (by simp)).trans hr2)
  case rest =>
    obtain ⟨pao', pcp', bao', bcp', ⟨hP, T', hT1, hT2, hT3⟩, hbW, hmW, hrW⟩ := hcut
    clear m0 m1 m2 m3 m4 m5 m6 m7 hm0 hr0
    obtain ⟨m0, m1, m2, m3, m4, m5, m6, m7⟩ := cells8 hmW
    go_wp2_with (refine wpList_store_row rfl 29 (.tmp 2) (.tmp 11) rfl (w.heap.size + 1) _ rfl rfl 29 _ hrW info_mac rfl (by simp [Value.oneCell']) ?_)
    have hr3 := setRow_heap _ _ _ #[Value.string m.name, .bool m.fn, .bool m.va, .slice pao' np pcp', .slice bao' nb bcp', .string m.file, .int .i64 m.f, .int .i64 m.t] _ _ hrW
    clear m0 m1 m2 m3 m4 m5 m6 m7
    obtain ⟨m0, m1, m2, m3, m4, m5, m6, m7⟩ := cells8 hr3
    refine bodyPost_ret (v := .agg (mcC m.name m.fn m.va (.slice pao' np pcp') (.slice bao' nb bcp') m.file m.f m.t).toArray) (by simp [results, Try.results63, go_sem, m0, m1, m2, m3, m4, m5, m6, m7]; rfl) rfl ⟨_, _, rfl, ⟨(hP.rowBelow (by omega) _).mono (by omega), T', (hT1.rowBelow (by omega) _).mono (by omega), hT2, hT3⟩, Below.row hbW (by omega) _⟩
end Go.Proofs.Ythbicbfdldpemaa
