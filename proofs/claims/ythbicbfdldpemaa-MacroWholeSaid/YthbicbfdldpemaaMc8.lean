/- macro's Same: are two definitions alike? -/
import Derived.Test.YthbicbfdldpemaaMc4
import Derived.Deep.LoopGhost
namespace Go.Proofs.Ythbicbfdldpemaa
open Go.RowKit
set_option linter.unusedVariables false

def alikeP (a b : Tm) : Bool := decide (a.kind = b.kind) && decide (a.text = b.text) && (a.sp == b.sp)
def bodyEq : List Tm → List Tm → Bool
  | [], [] => true
  | a :: A, b :: B => alikeP a b && bodyEq A B
  | _, _ => false

set_option maxRecDepth 100000 in
theorem mAlike_any (a b : Tm) (v u : Value) (w : World) :
    Calls Try.prog 48 #[.agg (tmC a v).toArray, .agg (tmC b u).toArray] w fun e w' => e = .returned (.bool (alikeP a b)) ∧ Below w.heap.size w w' := by
  unfold alikeP
  rw [← beq_text2]
  unfold tmC
  go_enter Try.func48, Try.ntmps48
  have hB : ∀ o o', Below w.heap.size w ((w.alloc o).alloc o') := fun o o' => ((Below.refl _ w).alloc (Nat.le_refl _) o).alloc (by simp) o'
  by_cases hk : a.kind = b.kind
  · have hkb : (a.kind == b.kind) = true := by simpa using hk
    cases ht : (a.text.toList == b.text.toList) with
    | true =>
      have htb : decide (a.text = b.text) = true := by rw [← beq_text2]; exact ht
      replace hk := Lib.hid hk
      go_wp2
      go_ret
      exact ⟨by simp [hk.out], hB _ _⟩
    | false =>
      replace hk := Lib.hid hk
      go_wp2
      go_ret
      exact ⟨by simp, hB _ _⟩
  · have hkb : (a.kind == b.kind) = false := by simpa using hk
    go_wp2
    go_ret
    exact ⟨by simp [hk], hB _ _⟩

set_option maxRecDepth 100000 in
theorem mEqualFunc_any (A B : List (Tm × Value)) (a1 a2 : Option Addr) (c d : Nat) (hA : A.length ≤ 1000000) (hB : B.length ≤ 1000000) (hAc : A.length ≤ c) (hBd : B.length ≤ d) (w : World) (hrA : Row w 8 a1 (A.map tvC)) (hrB : Row w 8 a2 (B.map tvC))
    (hsA : ∀ p ∈ A, ∃ a n c, p.2 = .slice a n c) (hsB : ∀ p ∈ B, ∃ a n c, p.2 = .slice a n c) :
    Calls Try.prog 47 #[.slice a1 A.length c, .slice a2 B.length d, .func (.func 48) #[] #[]] w fun e w' => e = .returned (.bool (bodyEq (A.map (·.1)) (B.map (·.1)))) ∧ Below w.heap.size w w' := by
  obtain ⟨R, hR⟩ : ∃ R, R = bodyEq (A.map (·.1)) (B.map (·.1)) := ⟨_, rfl⟩
  rw [← hR]
  have HAL := fun (a b : Tm) (v u : Value) (w : World) => mAlike_any a b v u w
  unfold tmC at HAL
  replace HAL := Lib.hid HAL
  obtain ⟨n, hn⟩ : ∃ n, n = A.length := ⟨_, rfl⟩
  obtain ⟨m, hm⟩ : ∃ m, m = B.length := ⟨_, rfl⟩
  rw [← hn] at hA hAc ⊢
  rw [← hm] at hB hBd ⊢
  have HN : Hid (A.length = n) := Lib.hid hn.symm
  have HM : Hid (B.length = m) := Lib.hid hm.symm
  replace hsA := Lib.hid hsA
  replace hsB := Lib.hid hsB
  replace hR := Lib.hid hR
  clear hn hm
  by_cases hnm : n = m
  · subst hnm
    go_enter Try.func47, Try.ntmps47
    go_wp2
    go_loopg [17] n (fun u i wr => ∃ k : Nat, u = n - k ∧ k ≤ n ∧ i = .int .i64 k ∧ Below w.heap.size w wr ∧ Hid (R = bodyEq ((A.map (·.1)).drop k) ((B.map (·.1)).drop k)))
    case atStart => exact ⟨0, rfl, Nat.zero_le _, rfl, Below.refl _ _, hR⟩
    case round =>
      obtain ⟨k, rfl, hk, rfl, hb, HR⟩ := hrel
      by_cases hlt : k < n
      · obtain ⟨⟨t, v⟩, hp⟩ : ∃ p, A[k]? = some p := ⟨A[k]'(by rw [HN.out]; exact hlt), by simp⟩
        obtain ⟨⟨s, u⟩, hq⟩ : ∃ p, B[k]? = some p := ⟨B[k]'(by rw [HM.out]; exact hlt), by simp⟩
        obtain ⟨va, vn, vc, hv⟩ := hsA.out _ (List.mem_of_getElem? hp)
        obtain ⟨ua, un, uc, hu⟩ := hsB.out _ (List.mem_of_getElem? hq)
        simp only at hv hu
        subst hv hu
        obtain ⟨rb, o, rfl, hat⟩ := (hrA.below hb) (by intro h; simp at h; subst h; simp at hp)
        obtain ⟨rb2, o2, rfl, hat2⟩ := (hrB.below hb) (by intro h; simp at h; subst h; simp at hq)
        have hat2' := hat2.below ((Below.refl _ wr).alloc (Nat.le_refl _) (.cells #[.int .i64 t.kind, .string t.text, .bool t.sp, .string t.file, .int .i64 t.f, .int .i64 t.t, .bool t.made, .slice va vn vc] 43))
        obtain ⟨t0, t1, t2, t3, t4, t5, t6, t7⟩ := tok8 (tok_at hat hp)
        obtain ⟨s0, s1, s2, s3, s4, s5, s6, s7⟩ := tok8 (tok_at hat2' hq)
        have HR2 : Hid (R = (alikeP t s && bodyEq ((A.map (·.1)).drop (k + 1)) ((B.map (·.1)).drop (k + 1)))) := Lib.hid (by
          rw [HR.out]
          have h1 : (A.map (·.1))[k]? = some t := by simp [hp]
          have h2 : (B.map (·.1))[k]? = some s := by simp [hq]
          rw [List.drop_eq_getElem_cons (List.getElem?_eq_some_iff.1 h1).1, (List.getElem?_eq_some_iff.1 h1).2, List.drop_eq_getElem_cons (List.getElem?_eq_some_iff.1 h2).1, (List.getElem?_eq_some_iff.1 h2).2]
          rfl)
        obtain ⟨y, hy⟩ : ∃ y, y = alikeP t s := ⟨_, rfl⟩
        have HAL2 := fun v u w => HAL.out t s v u w
        rw [← hy] at HR2
        simp only [← hy] at HAL2
        replace HAL2 := Lib.hid HAL2
        replace hy := Lib.hid hy
        replace hp := Lib.hid hp
        replace hq := Lib.hid hq
        clear hat hat2 hat2' HR
        go_wp2_with fail
        refine (HAL2.out _ _ _).mono ?_
        rintro e w2 ⟨rfl, hb2⟩
        have hb3 := ((hb.alloc hb.size (.cells #[.int .i64 t.kind, .string t.text, .bool t.sp, .string t.file, .int .i64 t.f, .int .i64 t.t, .bool t.made, .slice va vn vc] 43)).alloc (by have := hb.size; simp; omega) (.cells #[.int .i64 s.kind, .string s.text, .bool s.sp, .string s.file, .int .i64 s.f, .int .i64 s.t, .bool s.made, .slice ua un uc] 43)).trans (hb2.mono (by have := hb.size; simp; omega))
        cases y with
        | true =>
          go_wp2_with fail
          go_roundg (n - (k + 1))
          case measure => omega
          case rel => exact ⟨k + 1, rfl, by omega, by go_num, hb3, Lib.hid (HR2.out.trans (by simp))⟩
        | false =>
          go_wp2
          go_ret
          exact ⟨by rw [HR2.out]; rfl, hb3⟩
      · have hRt : R = true := by rw [HR.out, List.drop_eq_nil_of_le (by rw [List.length_map, HN.out]; omega), List.drop_eq_nil_of_le (by rw [List.length_map, HM.out]; omega)]; rfl
        replace hRt := Lib.hid hRt
        go_wp2
        go_ret
        exact ⟨by rw [hRt.out]; rfl, hb⟩
  · have hne : ((n : Int) == m) = false := by simp; omega
    have hRf : R = false := by
      rw [hR.out]
      have : ∀ (X Y : List Tm), X.length ≠ Y.length → bodyEq X Y = false := by
        intro X
        induction X with
        | nil => intro Y h; cases Y with | nil => simp at h | cons => rfl
        | cons a X ih => intro Y h; cases Y with | nil => rfl | cons b Y => simp only [bodyEq, ih Y (by simpa using h), Bool.and_false]
      exact this _ _ (by simp [HN.out, HM.out, hnm])
    replace hRf := Lib.hid hRf
    go_enter Try.func47, Try.ntmps47
    go_wp2
    go_ret
    exact ⟨by rw [hRf.out]; rfl, Below.refl _ _⟩

theorem mEqStr_any (xs ys : List ByteArray) (a1 a2 : Option Addr) (c d : Nat) (hx : xs.length ≤ 1000000000) (hy : ys.length ≤ 1000000000) (w : World) (hrx : Row w 1 a1 (xs.map fun p => [.string p])) (hry : Row w 1 a2 (ys.map fun p => [.string p])) :
    Calls Try.prog 46 #[.slice a1 xs.length c, .slice a2 ys.length d] w fun e w' => e = .returned (.bool (decide (xs = ys))) ∧ Below w.heap.size w w' := by
  have hcells : ∀ (zs : List ByteArray) (b o : Nat), RowAt w 1 b o (zs.map fun p => [.string p]) → ∀ j, j < zs.length → w.cell? ⟨b, o + j, none⟩ = some (.string (zs.getD j ByteArray.empty)) := by
    intro zs b o hat j hj
    have := hat.cell (i := j) (cs := [.string (zs.getD j ByteArray.empty)]) (by rw [List.getElem?_map, List.getElem?_eq_getElem hj]; simp [List.getD_eq_getElem?_getD, List.getElem?_eq_getElem hj]) (j := 0) (u := .string (zs.getD j ByteArray.empty)) rfl
    simpa using this
  match xs, ys, hx, hy, hrx, hry with
  | [], ys, hx, hy, hrx, hry =>
    refine (Try.slices_Equal_string_empty a1 a2 c ys.length d w (by omega)).mono ?_
    rintro e w' ⟨rfl, rfl⟩
    refine ⟨?_, Below.refl _ _⟩
    cases ys <;> simp
  | x :: xs, [], hx, hy, hrx, hry =>
    refine (Try.slices_Equal_string_lens a1 a2 (x :: xs).length c 0 d w (by simp)).mono ?_
    rintro e w' ⟨rfl, rfl⟩
    exact ⟨by simp, Below.refl _ _⟩
  | x :: xs, y :: ys, hx, hy, hrx, hry =>
    obtain ⟨b1, o1, rfl, hat1⟩ := hrx (by simp)
    obtain ⟨b2, o2, rfl, hat2⟩ := hry (by simp)
    refine (Try.slices_Equal_string b1 o1 (x :: xs).length c b2 o2 (y :: ys).length d (x :: xs) (y :: ys) w (Nat.le_refl _) (Nat.le_refl _) (by omega) (by omega) (hcells _ _ _ hat1) (hcells _ _ _ hat2)).mono ?_
    rintro e w' ⟨rfl, q, rfl⟩
    rw [List.take_length, List.take_length]
    refine ⟨rfl, ?_⟩
    induction q with
    | zero => exact Below.refl _ _
    | succ q ih => exact ih.drew

/-- a definition's parts as they lie in memory (its tokens without sites) -/
structure MacAt (w : World) (m : Mac) (psv bov : Value) : Prop where
  ps : ∃ ao cap, psv = .slice ao m.params.length cap ∧ Row w 1 ao (m.params.map fun p => [.string p]) ∧ m.params.length ≤ 1000000 ∧ (ao = none → m.params = [] ∧ cap = 0)
  body : ∃ ao cap, ∃ T : List (Tm × Value), bov = .slice ao m.body.length cap ∧ m.body.length ≤ cap ∧ m.body.length ≤ 1000000 ∧ T.map (·.1) = m.body ∧ Row w 8 ao (T.map tvC) ∧ ∀ p ∈ T, p.2 = .slice none 0 0

theorem MacAt.below {w w' : World} {m : Mac} {psv bov : Value} (h : MacAt w m psv bov) (hb : Below w.heap.size w w') : MacAt w' m psv bov := by
  obtain ⟨⟨ao, cap, h1, h2, h3⟩, ⟨bo, cb, T, k1, k2, k3, k4, k5, k6⟩⟩ := h
  exact ⟨⟨ao, cap, h1, h2.below hb, h3⟩, ⟨bo, cb, T, k1, k2, k3, k4, k5.below hb, k6⟩⟩

def sameP (a b : Mac) : Bool := decide (a.name = b.name) && (a.fn == b.fn) && (a.va == b.va) && decide (a.params = b.params) && bodyEq a.body b.body

set_option maxRecDepth 100000 in
theorem mSame_any (a b : Mac) (pa ba pb bb : Value) (w : World) (ha : MacAt w a pa ba) (hb : MacAt w b pb bb) :
    Calls Try.prog 18 #[.agg (mcC a.name a.fn a.va pa ba a.file a.f a.t).toArray, .agg (mcC b.name b.fn b.va pb bb b.file b.f b.t).toArray] w fun e w' => e = .returned (.bool (sameP a b)) ∧ Below w.heap.size w w' := by
  have hR : Hid (sameP a b = ((a.name.toList == b.name.toList) && (a.fn == b.fn) && (a.va == b.va) && decide (a.params = b.params) && bodyEq a.body b.body)) := Lib.hid (by rw [beq_text2]; rfl)
  obtain ⟨⟨pao, pcp, rfl, hpr, hpl, _⟩, ⟨bao, bcp, T, rfl, hbc, hbl, hbs, hbr, hbi⟩⟩ := ha
  obtain ⟨⟨qao, qcp, rfl, hqr, hql, _⟩, ⟨cao, ccp, U, rfl, hcc, hcl, hcs, hcr, hci⟩⟩ := hb
  have HE := fun w' (h : Below w.heap.size w w') => mEqStr_any a.params b.params pao qao pcp qcp (by omega) (by omega) w' (hpr.below h) (hqr.below h)
  have hTl : T.length = a.body.length := by rw [← hbs]; simp
  have hUl : U.length = b.body.length := by rw [← hcs]; simp
  have HF := fun w' (h : Below w.heap.size w w') => mEqualFunc_any T U bao cao bcp ccp (by omega) (by omega) (by omega) (by omega) w' (hbr.below h) (hcr.below h) (fun p hp => ⟨_, _, _, hbi p hp⟩) (fun p hp => ⟨_, _, _, hci p hp⟩)
  rw [hTl, hUl, hbs, hcs] at HF
  clear hTl hUl hbs hcs hbi hci hpr hpl hbr hbc hbl hqr hql hcr hcc hcl
  have ho : ∀ o o', Below w.heap.size w ((w.alloc o).alloc o') := fun o o' => ((Below.refl _ w).alloc (Nat.le_refl _) o).alloc (by simp) o'
  obtain ⟨x4, hx4⟩ : ∃ x, x = decide (a.params = b.params) := ⟨_, rfl⟩
  obtain ⟨x5, hx5⟩ : ∃ x, x = bodyEq a.body b.body := ⟨_, rfl⟩
  rw [← hx4] at hR
  rw [← hx5] at hR
  rw [← hx5] at HF
  simp only [← hx4] at HE
  clear hx4 hx5
  obtain ⟨R, hRR⟩ : ∃ R, R = sameP a b := ⟨_, rfl⟩
  rw [← hRR] at hR ⊢
  clear hRR
  replace HE := Lib.hid HE
  replace HF := Lib.hid HF
  unfold mcC
  go_enter Try.func18, Try.ntmps18
  cases h1 : (a.name.toList == b.name.toList) with
  | false =>
    rw [h1] at hR
    go_wp2
    go_ret
    exact ⟨by rw [hR.out]; simp, ho _ _⟩
  | true =>
    rw [h1] at hR
    cases h2 : (a.fn == b.fn) with
    | false =>
      rw [h2] at hR
      go_wp2
      go_ret
      exact ⟨by rw [hR.out]; simp, ho _ _⟩
    | true =>
      rw [h2] at hR
      cases h3 : (a.va == b.va) with
      | false =>
        rw [h3] at hR
        go_wp2
        go_ret
        exact ⟨by rw [hR.out]; simp, ho _ _⟩
      | true =>
        rw [h3] at hR
        go_wp2_with fail
        refine (HE.out _ (ho _ _)).mono ?_
        rintro e w3 ⟨rfl, hb3⟩
        have hB3 := (ho (.cells #[.string a.name, .bool a.fn, .bool a.va, .slice pao a.params.length pcp, .slice bao a.body.length bcp, .string a.file, .int .i64 a.f, .int .i64 a.t] 29) (.cells #[.string b.name, .bool b.fn, .bool b.va, .slice qao b.params.length qcp, .slice cao b.body.length ccp, .string b.file, .int .i64 b.f, .int .i64 b.t] 29)).trans (hb3.mono (by simp; omega))
        cases x4 with
        | false =>
          go_wp2
          go_ret
          exact ⟨by rw [hR.out]; simp, hB3⟩
        | true =>
          obtain ⟨m0, m1, m2, m3, m4, m5, m6, m7⟩ := cells8 ((hb3.block w.heap.size (by simp; omega)).trans ((Lib.alloc_old _ _ _ (by simp)).trans (heap_alloc_new w _)))
          have hnew : ((w.alloc (.cells #[.string a.name, .bool a.fn, .bool a.va, .slice pao a.params.length pcp, .slice bao a.body.length bcp, .string a.file, .int .i64 a.f, .int .i64 a.t] 29)).alloc (.cells #[.string b.name, .bool b.fn, .bool b.va, .slice qao b.params.length qcp, .slice cao b.body.length ccp, .string b.file, .int .i64 b.f, .int .i64 b.t] 29)).heap[w.heap.size + 1]? = some (.cells #[.string b.name, .bool b.fn, .bool b.va, .slice qao b.params.length qcp, .slice cao b.body.length ccp, .string b.file, .int .i64 b.f, .int .i64 b.t] 29 (0, 0)) := by have := heap_alloc_new (w.alloc (.cells #[.string a.name, .bool a.fn, .bool a.va, .slice pao a.params.length pcp, .slice bao a.body.length bcp, .string a.file, .int .i64 a.f, .int .i64 a.t] 29)) (.cells #[.string b.name, .bool b.fn, .bool b.va, .slice qao b.params.length qcp, .slice cao b.body.length ccp, .string b.file, .int .i64 b.f, .int .i64 b.t] 29); simpa using this
          obtain ⟨n0, n1, n2, n3, n4, n5, n6, n7⟩ := cells8 ((hb3.block (w.heap.size + 1) (by simp)).trans hnew)
          go_wp2_with fail
          refine (HF.out _ hB3).mono ?_
          rintro e w4 ⟨rfl, hb4⟩
          go_wp2
          go_ret
          exact ⟨by rw [hR.out]; simp, hB3.trans (hb4.mono hB3.size)⟩
end Go.Proofs.Ythbicbfdldpemaa
