/- Texts of this seat's proofs, laid into one file. -/
import Derived.Test.YtfaoamdlknlgpaaGreatSubstHashDoneG30
import Derived.Test.YtfaoamdlknlgpaaGreatSubstHashDoneG12
/- The document's Parse of a macro with parameters. -/
namespace Go.Proofs.YtfaoamdlknlgpaaGreat
open Go.RowKit
set_option linter.unusedVariables false

/-- a definition of the call's own, its tokens without sites -/
structure MacO (w : World) (B : Nat) (m : Mac) (psv bov : Value) : Prop where
  ps : Own w B 9 1 psv (m.params.map fun p => [.string p])
  body : Own w B 34 8 bov ((m.body.map nilTv).map tvC)

theorem MacO.below {w w' : World} {B : Nat} {m : Mac} {psv bov : Value} (h : MacO w B m psv bov) (hb : Below w.heap.size w w') : MacO w' B m psv bov :=
  ⟨h.ps.below hb, h.body.below hb⟩

theorem own_unspN {w : World} {B g cap : Nat} {t : Tm} {v : Value} {R : List (Tm × Value)} (ho : Own w B 34 8 (.slice (some ⟨g, 0, none⟩) (R.length + 1) cap) (tvC (t, v) :: R.map tvC)) :
    w.cell? ⟨g, 2, none⟩ = some (.bool t.sp) ∧ w.frozen? ⟨g, 2, none⟩ = false ∧ Own (w.setCell ⟨g, 2, none⟩ (.bool false)) B 34 8 (.slice (some ⟨g, 0, none⟩) (R.length + 1) cap) (tvC ({ t with sp := false }, v) :: R.map tvC) ∧ B ≤ g := by
  have ho1 := ho.1
  rw [show (tvC (t, v) :: R.map tvC).length = R.length + 1 by simp] at ho1
  refine ⟨?_, ho1.frozenAt _, ⟨?_, ?_⟩, ho.ge g rfl⟩
  · have := ho1.cellAt 2 (by omega)
    rw [this]; rfl
  · have := (ho1.stored 2 (.bool false)).1
    rw [show (tvC ({ t with sp := false }, v) :: R.map tvC).length = R.length + 1 by simp]
    exact this
  · intro c hc
    rcases List.mem_cons.1 hc with hc | hc
    · subst hc; rfl
    · exact ho.2 c (List.mem_cons_of_mem _ hc)

theorem paramsL_lenN : ∀ (n : Nat) (l : List Tm) (va : Bool) (ps : List ByteArray) (r : List Tm) (va' : Bool) (ps' : List ByteArray), l.length ≤ n → paramsL l va ps = some (r, va', ps') → ps'.length ≤ ps.length + l.length := by
  intro n
  induction n with
  | zero => intro l va ps r va' ps' hl h; have := List.eq_nil_of_length_eq_zero (by omega : l.length = 0); subst this; simp [paramsL] at h
  | succ n ih =>
    intro l va ps r va' ps' hl h
    match l, hl, h with
    | [], _, h => simp [paramsL] at h
    | [_], _, h => simp [paramsL] at h
    | a :: b :: l, hl, h =>
      simp only [List.length_cons] at hl
      have ih' := fun va ps => ih l va ps r va' ps' (by omega)
      simp only [paramsL] at h
      repeat' split at h
      all_goals first
        | (simp only [reduceCtorEq] at h; done)
        | (simp only [Option.some.injEq, Prod.mk.injEq] at h; obtain ⟨_, _, rfl⟩ := h; simp only [List.length_append, List.length_cons, List.length_nil]; omega)
        | (have := ih' _ _ h; simp at this ⊢; omega)

theorem paramsTop_lenN {l r : List Tm} {va : Bool} {ps : List ByteArray} (h : paramsTop l = some (r, va, ps)) : ps.length ≤ l.length := by
  match l, h with
  | a :: l, h =>
    simp only [paramsTop] at h
    split at h
    · simp only [Option.some.injEq, Prod.mk.injEq] at h; obtain ⟨_, _, rfl⟩ := h; simp
    · have := paramsL_lenN _ _ _ _ _ _ _ (Nat.le_refl _) h
      simpa using this

theorem own_ne' {w : World} {B B' e e' sz sz' g n cap : Nat} {v : Value} {css css' : List (List Value)} (h : Own w B e sz v css) (h' : Own w B' e' sz' (.slice (some ⟨g, 0, none⟩) n cap) css') (he : e ≠ e') : v.ownBlock = none ∨ v.ownBlock ≠ some g :=
  own_apart h h' he

theorem info_rmac : (Tryz.prog.info? 47).map (·.size) = some 8 := by kernel_rfl

set_option maxHeartbeats 2000000 in
set_option maxRecDepth 100000 in
theorem rParse_any (tk p : Tm) (R : List Tm) (ao : Option Addr) (cap : Nat) (hn : R.length + 2 ≤ 1000000) (hcap : R.length + 2 ≤ cap) (w : World) (hrow : Row w 8 ao (((tk :: p :: R).map nilTv).map tvC)) (hk : tk.kind = 1) (hfx : fixedP tk.text = false) (hp : isP p (bs [40]) = true) (hps : p.sp = false) (r : List Tm) (ps : List ByteArray) (hP : paramsTop R = some (r, false, ps)) (hr : r ≠ []) (hok : ∀ (i : Nat) t, (unsp r)[i]? = some t → badAt true false ps (unsp r) i t = false) :
    Calls Tryz.prog 36 #[.slice ao (R.length + 2) cap] w fun e w' => (∃ psv bov, e = .returned (.tuple #[.agg (mcC tk.text true false psv bov tk.file tk.f tk.t).toArray, .slice none 0 0]) ∧ MacO w' w.heap.size ⟨tk.text, true, false, ps, unsp r, tk.file, tk.f, tk.t⟩ psv bov) ∧ Below w.heap.size w w' := by
  obtain ⟨n, hnn⟩ : ∃ n, n = R.length := ⟨_, rfl⟩
  have HN : Hid (R.length = n) := Lib.hid hnn.symm
  obtain ⟨rb, ro, rfl, hat⟩ := hrow (by simp)
  have HR : Hid (∀ x, Below w.heap.size w x → RowAt x 8 rb (ro + 16) ((R.map nilTv).map tvC)) := Lib.hid fun x hx => by
    have := (hat.below hx).drop 2
    simpa using this
  have HT0 : Hid (∀ x, Below w.heap.size w x → x.cell? ⟨rb, ro, none⟩ = some (.int .i64 tk.kind) ∧ x.cell? ⟨rb, ro + 1, none⟩ = some (.string tk.text) ∧ x.cell? ⟨rb, ro + 2, none⟩ = some (.bool tk.sp) ∧ x.cell? ⟨rb, ro + 3, none⟩ = some (.string tk.file) ∧ x.cell? ⟨rb, ro + 4, none⟩ = some (.int .i64 tk.f) ∧ x.cell? ⟨rb, ro + 5, none⟩ = some (.int .i64 tk.t) ∧ x.cell? ⟨rb, ro + 6, none⟩ = some (.bool tk.made) ∧ x.cell? ⟨rb, ro + 7, none⟩ = some (.slice none 0 0)) := Lib.hid fun x hx => by
    have := tok8 (tok_at (T := (tk :: p :: R).map nilTv) (hat.below hx) (i := 0) (p := nilTv tk) rfl)
    unfold nilTv at this
    simpa using this
  have HT1 : Hid (∀ x, Below w.heap.size w x → x.cell? ⟨rb, ro + 8, none⟩ = some (.int .i64 p.kind) ∧ x.cell? ⟨rb, ro + 8 + 1, none⟩ = some (.string p.text) ∧ x.cell? ⟨rb, ro + 8 + 2, none⟩ = some (.bool p.sp) ∧ x.cell? ⟨rb, ro + 8 + 3, none⟩ = some (.string p.file) ∧ x.cell? ⟨rb, ro + 8 + 4, none⟩ = some (.int .i64 p.f) ∧ x.cell? ⟨rb, ro + 8 + 5, none⟩ = some (.int .i64 p.t) ∧ x.cell? ⟨rb, ro + 8 + 6, none⟩ = some (.bool p.made) ∧ x.cell? ⟨rb, ro + 8 + 7, none⟩ = some (.slice none 0 0)) := Lib.hid fun x hx => by
    have := tok8 (tok_at (T := (tk :: p :: R).map nilTv) (hat.below hx) (i := 1) (p := nilTv p) rfl)
    unfold nilTv at this
    simpa using this
  have hn1 : 0 < n := by
    rw [hnn]
    cases R with
    | nil => simp [paramsTop] at hP
    | cons _ _ => simp
  rw [← hnn] at hn hcap ⊢
  have HPa : Hid (∀ x, Below w.heap.size w x → Calls Tryz.prog 62 #[.slice (some ⟨rb, ro + 8 + 8, none⟩) n (cap - 1 - 1)] x fun e w' => (∃ (v : Value) (k : Nat), e = .returned (.tuple #[v, .bool false, .int .i64 k, .bool true]) ∧ Hid (k < n ∧ r = R.drop k) ∧ Own w' x.heap.size 9 1 v (ps.map fun p => [.string p])) ∧ Below x.heap.size x w') := Lib.hid fun x hx => by
    have hl : (R.map nilTv).length = n := by rw [List.length_map, HN.out]
    have hm : (R.map nilTv).map (·.1) = R := by rw [List.map_map]; exact List.map_id _
    have := rParams_any (R.map nilTv) (some ⟨rb, ro + 8 + 8, none⟩) (cap - 1 - 1) (by rw [hl]; omega) (by rw [hl]; omega) x (fun _ => ⟨rb, ro + 8 + 8, rfl, HR.out x hx⟩) r ps (by rw [hm]; exact hP)
    rw [hl] at this
    refine this.mono ?_
    rintro e w' ⟨⟨v, k, rfl, hk, ho⟩, hb⟩
    have hk2 := hk.out
    rw [List.map_drop, hm] at hk2
    refine ⟨⟨v, k, rfl, Lib.hid ⟨?_, hk2.2⟩, ho⟩, hb⟩
    rcases Nat.lt_or_ge k n with h | h
    · exact h
    · exact absurd (by rw [hk2.2, List.drop_eq_nil_of_le (by rw [HN.out]; exact h)]) hr
  have HI := fun x => rIs_any p (.slice none 0 0) (bs [40]) x
  rw [hp] at HI
  unfold tmC at HI
  simp only [hps] at HI
  replace HI := Lib.hid HI
  have HK := fun x => rKept_any tk.text x
  rw [hfx] at HK
  replace HK := Lib.hid HK
  clear hat hrow hnn
  have hnb : ((n : Int) + 2 == 0) = false := by simp; omega
  have hn2 : (0 : Int) < (n : Int) + 2 := by omega
  have hn3 : (0 : Int) < (n : Int) + 1 := by omega
  replace hP := Lib.hid hP
  replace hok := Lib.hid hok
  replace hr := Lib.hid hr
  replace hp := Lib.hid hp
  replace hfx := Lib.hid hfx
  obtain ⟨W1, hW1⟩ : ∃ W1, W1 = w.alloc (.cells #[.string ⟨#[]⟩, .bool false, .bool false, .slice none 0 0, .slice none 0 0, .string ⟨#[]⟩, .int .i64 0, .int .i64 0] 47) := ⟨_, rfl⟩
  have b1 : Hid (Below w.heap.size w W1) := Lib.hid (by rw [hW1]; exact (Below.refl _ w).alloc (Nat.le_refl _) _)
  have hc1 : Hid (W1.heap[w.heap.size]? = some (.cells #[.string ⟨#[]⟩, .bool false, .bool false, .slice none 0 0, .slice none 0 0, .string ⟨#[]⟩, .int .i64 0, .int .i64 0] 47 (0, 0))) := Lib.hid (by rw [hW1]; exact heap_alloc_new w _)
  obtain ⟨t0, t1, t2, t3, t4, t5, t6, t7⟩ := HT0.out W1 b1.out
  rw [hk] at t0
  replace hk := Lib.hid hk
  go_enter Tryz.func36, Tryz.ntmps36
  go_upto_region 1 with fail
  rw [← hW1]
  replace hW1 := Lib.hid hW1
  go_wp2_with fail
  refine (HK.out _).mono ?_
  rintro e w0 ⟨rfl, hw0⟩
  replace hw0 := hw0.symm
  subst hw0
  have hs1 : Hid (W1.heap.size = w.heap.size + 1) := Lib.hid (by rw [hW1.out]; simp)
  obtain ⟨W2, hW2⟩ : ∃ W2, W2 = (W1.alloc (.cells #[.string tk.text, .bool false, .bool false, .slice none 0 0, .slice none 0 0, .string tk.file, .int .i64 tk.f, .int .i64 tk.t] 47)).drew := ⟨_, rfl⟩
  have b2 : Hid (Below w.heap.size w W2) := Lib.hid (by rw [hW2]; exact (b1.out.alloc b1.out.size _).drew)
  have hc2 : Hid (W2.heap[w.heap.size + 1]? = some (.cells #[.string tk.text, .bool false, .bool false, .slice none 0 0, .slice none 0 0, .string tk.file, .int .i64 tk.f, .int .i64 tk.t] 47 (0, 0))) := Lib.hid (by rw [hW2, ← hs1.out]; exact heap_alloc_new W1 _)
  have hs2 : Hid (W2.heap.size = w.heap.size + 2) := Lib.hid (by rw [hW2]; show (W1.alloc _).heap.size = _; rw [World.size_alloc, hs1.out])
  have z2 : Hid (Below (w.heap.size + 1) W1 W2) := Lib.hid (by rw [hW2]; exact ((Below.refl _ W1).alloc (Nat.le_of_eq hs1.out.symm) _).drew)
  have hcp1 : ¬ cap = 1 := by omega
  have hcp2 : ¬ cap = 2 := by omega
  have u0 := fun o => (HT0.out _ (b1.out.alloc b1.out.size o)).2.1
  have u1 := fun o => (HT0.out _ (b1.out.alloc b1.out.size o)).2.2.2.1
  have u2 := fun o => (HT0.out _ (b1.out.alloc b1.out.size o)).2.2.2.2.1
  have u3 := fun o => (HT0.out _ (b1.out.alloc b1.out.size o)).2.2.2.2.2.1
  go_wp2_with fail
  go_region
  rw [← hW2, hs1.out]
  replace hW2 := Lib.hid hW2
  clear t0 t1 t2 t3 t4 t5 t6 t7 u0 u1 u2 u3
  have hn4 : (1 : Int) ≤ (n : Int) + 2 := by omega
  have hn5 : (1 : Int) ≤ (cap : Int) := by omega
  go_upto_region 8 with fail
  go_cut [5] from 48 to 49 (fun s5 wx => s5 = .slice (some ⟨rb, ro + 8, none⟩) (n + 1) (cap - 1) ∧ wx = W2)
  case first =>
    go_wp2_with fail
    go_meet
    case rel => exact ⟨rfl, rfl⟩
  case rest =>
    obtain ⟨rfl, hwc⟩ := hcut
    replace hwc := hwc.symm
    subst hwc
    obtain ⟨t0, t1, t2, t3, t4, t5, t6, t7⟩ := HT1.out W2 b2.out
    rw [hps] at t2
    have hn6 : decide ((0 : Int) < (n : Int) + 1) = true := decide_eq_true hn3
    go_wp2_with fail
    refine (HI.out _).mono ?_
    rintro e w3 ⟨rfl, hb3⟩
    have b3 : Hid (Below w.heap.size w w3) := Lib.hid (b2.out.trans (hb3.mono b2.out.size))
    have hc3 : Hid (w3.heap[w.heap.size + 1]? = some (.cells #[.string tk.text, .bool false, .bool false, .slice none 0 0, .slice none 0 0, .string tk.file, .int .i64 tk.f, .int .i64 tk.t] 47 (0, 0))) := Lib.hid ((hb3.block _ (lt_of_block hc2.out)).trans hc2.out)
    clear t0 t1 t2 t3 t4 t5 t6 t7
    replace hb3 := Lib.hid hb3
    have t2 := (HT1.out w3 b3.out).2.2.1
    rw [hps] at t2
    have hn7 : (1 : Int) ≤ (n : Int) + 1 := by omega
    have hcp3 : ¬ cap - 1 = 1 := by omega
    go_wp2_with fail
    refine (HPa.out _ b3.out).mono ?_
    rintro e w4 ⟨⟨vp, k, rfl, hk4, hown4⟩, hb4⟩
    have z4 : Hid (Below (w.heap.size + 1) W1 w4) := Lib.hid ((z2.out.trans (hb3.out.mono (by rw [hs2.out]; omega))).trans (hb4.mono (by have := hb3.out.size; rw [hs2.out] at this; omega)))
    have b4 : Hid (Below w.heap.size w w4) := Lib.hid (b3.out.trans (hb4.mono b3.out.size))
    have hc4 : Hid (w4.heap[w.heap.size + 1]? = some (.cells #[.string tk.text, .bool false, .bool false, .slice none 0 0, .slice none 0 0, .string tk.file, .int .i64 tk.f, .int .i64 tk.t] 47 (0, 0))) := Lib.hid ((hb4.block _ (lt_of_block hc3.out)).trans hc3.out)
    have hs3 : Hid (w.heap.size + 2 ≤ w3.heap.size) := Lib.hid (by
      have := hb3.out.size
      rw [hs2.out] at this
      exact this)
    obtain ⟨pao, pcp, rfl, _, _, _, _⟩ := hown4.rown (n := ps.length) (by simp)
    replace hown4 := Lib.hid hown4
    obtain ⟨pn, hpn⟩ : ∃ pn, pn = ps.length := ⟨_, rfl⟩
    rw [← hpn] at hown4 ⊢
    replace hpn := Lib.hid hpn
    obtain ⟨m0, m1, m2, m3, m4, m5, m6, m7⟩ := cells8x hc4.out
    have fr := fun j => Lib.frozen_of_heap hc4.out j
    have hkn := hk4.out.1
    have g1 : IntKind.i64.wrap (1 + (k : Int)) = ((1 + k : Nat) : Int) := by rw [IntWalk.i64_in _ (by omega)]; omega
    have g2 : ((1 + k : Nat) : Int) ≤ (n : Int) + 1 := by omega
    have hcp4 : ¬ cap - 1 = 1 + k := by omega
    obtain ⟨W5, hW5⟩ : ∃ W5, W5 = (((w4.setCell ⟨w.heap.size + 1, 1, none⟩ (.bool true)).setCell ⟨w.heap.size + 1, 2, none⟩ (.bool false)).setCell ⟨w.heap.size + 1, 3, none⟩ (.slice pao pn pcp)) := ⟨_, rfl⟩
    have hlt3 : w.heap.size + 1 < w3.heap.size := hs3.out
    have hc5 : Hid (W5.heap[w.heap.size + 1]? = some (.cells #[.string tk.text, .bool true, .bool false, .slice pao pn pcp, .slice none 0 0, .string tk.file, .int .i64 tk.f, .int .i64 tk.t] 47 (0, 0))) := Lib.hid (by
      have := set_at (set_at (set_at hc4.out 1 (.bool true)) 2 (.bool false)) 3 (.slice pao pn pcp)
      rw [hW5]
      simpa using this)
    have b5 : Hid (Below w.heap.size w W5) := Lib.hid (by
      rw [hW5]
      exact ((b4.out.setCell (p := ⟨w.heap.size + 1, 1, none⟩) (Nat.le_add_right _ _) _).setCell (p := ⟨w.heap.size + 1, 2, none⟩) (Nat.le_add_right _ _) _).setCell (p := ⟨w.heap.size + 1, 3, none⟩) (Nat.le_add_right _ _) _)
    have z5 : Hid (Below (w.heap.size + 1) W1 W5) := Lib.hid (by
      rw [hW5]
      exact ((z4.out.setCell (p := ⟨w.heap.size + 1, 1, none⟩) (Nat.le_refl _) _).setCell (p := ⟨w.heap.size + 1, 2, none⟩) (Nat.le_refl _) _).setCell (p := ⟨w.heap.size + 1, 3, none⟩) (Nat.le_refl _) _)
    have hown5 : Hid (Own W5 (w.heap.size + 2) 9 1 (.slice pao pn pcp) (ps.map fun p => [.string p])) := Lib.hid (by
      rw [hW5]
      exact (((hown4.out.setBelow hlt3 _).setBelow hlt3 _).setBelow hlt3 _).mono hs3.out)
    have hs5 : Hid (w.heap.size + 2 ≤ W5.heap.size) := Lib.hid (by
      rw [hW5]
      simp only [World.size_setCell]
      exact Nat.le_trans hs3.out hb4.size)
    go_upto_region 16 with fail
    rw [← hW5]
    replace hW5 := Lib.hid hW5
    clear m0 m1 m2 m3 m4 m5 m6 m7 fr hlt3
    go_cut [5] from 85 to 88 (fun s5 wx => s5 = .slice (some ⟨rb, ro + 8 + (1 + k) * 8, none⟩) (n - k) (cap - 1 - (1 + k)) ∧ wx = W5)
    case first =>
      go_wp2_with fail
      go_meet
      case rel =>
        exact ⟨by rw [show n + 1 - (1 + k) = n - k by omega], rfl⟩
    case rest =>
      obtain ⟨rfl, hwc⟩ := hcut
      replace hwc := hwc.symm
      subst hwc
      obtain ⟨rt, r1, hrr⟩ : ∃ a l, r = a :: l := by cases r with | nil => exact absurd rfl hr.out | cons a l => exact ⟨a, l, rfl⟩
      subst hrr
      have hRk : Hid (∀ x, Below w.heap.size w x → Row x 8 (some ⟨rb, ro + 8 + (1 + k) * 8, none⟩) (((rt :: r1).map nilTv).map tvC)) := Lib.hid fun x hx _ => by
        have := (HR.out x hx).drop k
        rw [show ro + 16 + k * 8 = ro + 8 + (1 + k) * 8 by omega, ← List.map_drop, ← List.map_drop, ← hk4.out.2] at this
        exact ⟨rb, _, rfl, this⟩
      have hrl : (((rt :: r1).map nilTv).map tvC).length = n - k := by rw [List.length_map, List.length_map, hk4.out.2, List.length_drop, HN.out]
      have hr8 : ∀ cs ∈ ((rt :: r1).map nilTv).map tvC, cs.length = 8 := by
        intro cs hcs
        obtain ⟨q, _, rfl⟩ := List.mem_map.1 hcs
        rfl
      have hr1 : ∀ cs ∈ ((rt :: r1).map nilTv).map tvC, ∀ u ∈ cs, u.oneCell' = true := by
        intro cs hcs u hu
        obtain ⟨q, hq, rfl⟩ := List.mem_map.1 hcs
        obtain ⟨t, _, rfl⟩ := List.mem_map.1 hq
        simp only [tvC, tmC, nilTv, List.mem_cons, List.not_mem_nil, or_false] at hu
        rcases hu with rfl | rfl | rfl | rfl | rfl | rfl | rfl | rfl <;> rfl
      obtain ⟨q, hq⟩ : ∃ q, q = n - k := ⟨_, rfl⟩
      have hq0 : 0 < q := by omega
      have hqn : q ≤ 1000000 := by omega
      rw [← hq] at hrl ⊢
      have b6 : Hid (∀ o, Below w.heap.size w (W5.alloc o)) := Lib.hid fun o => b5.out.alloc b5.out.size o
      replace hq := Lib.hid hq
      replace hr8 := Lib.hid hr8
      replace hr1 := Lib.hid hr1
      replace hrl := Lib.hid hrl
      have hq1 : Hid (r1.length + 1 = q) := Lib.hid (by have := hrl.out; simpa using this)
      go_upto_region 18 with (at_builtin; go_must (refine wpList_appendN E34 rfl rfl (own_new0' (w := W5) _ 8 rfl) rfl rfl hrl.out (by simp) (hRk.out _ (b6.out _)) hr8.out hr1.out (by simp; omega) (by decide) (by simp) ?_); intro v6 w6 hown6 hg6; rw [List.nil_append] at hown6; obtain ⟨g6, c6, rfl, hcap6⟩ := hown6.cons_at (by simp); rw [hrl.out] at hown6 hcap6; have hc6 : w6.heap[w.heap.size + 1]? = some (.cells #[.string tk.text, .bool true, .bool false, .slice pao pn pcp, .slice none 0 0, .string tk.file, .int .i64 tk.f, .int .i64 tk.t] 47 (0, 0)) := (hg6.block _ (by simp; have := lt_of_block hc5.out; omega) (by simp [Value.ownBlock]; have := lt_of_block hc5.out; omega)).trans ((Lib.alloc_old _ _ _ (lt_of_block hc5.out)).trans hc5.out); obtain ⟨m0, m1, m2, m3, m4, m5, m6, m7⟩ := cells8x hc6; have fr := fun j => Lib.frozen_of_heap hc6 j; rw [hrl.out])
      have hm5 : w.heap.size + 1 < W5.heap.size := lt_of_block hc5.out
      obtain ⟨W7, hW7⟩ : ∃ W7, W7 = w6.setCell ⟨w.heap.size + 1, 4, none⟩ (.slice (some ⟨g6, 0, none⟩) q c6) := ⟨_, rfl⟩
      have hown7 : Own W7 W5.heap.size 34 8 (.slice (some ⟨g6, 0, none⟩) q c6) (((rt :: r1).map nilTv).map tvC) := by rw [hW7]; exact hown6.setBelow hm5 _
      have hc7 : Hid (W7.heap[w.heap.size + 1]? = some (.cells #[.string tk.text, .bool true, .bool false, .slice pao pn pcp, .slice (some ⟨g6, 0, none⟩) q c6, .string tk.file, .int .i64 tk.f, .int .i64 tk.t] 47 (0, 0))) := Lib.hid (by
        have := set_at hc6 4 (.slice (some ⟨g6, 0, none⟩) q c6)
        rw [hW7]
        simpa using this)
      have hg7 : W5.heap.size ≤ g6 := hown7.ge g6 rfl
      have hb6 : Below w.heap.size w w6 := by
        refine (b6.out _).grown hg6 (by simp; omega) ?_
        intro j hj
        simp [Value.ownBlock] at hj
        omega
      have z6 : Below (w.heap.size + 1) W1 w6 := by
        refine (z5.out.alloc (Nat.le_of_lt hm5) _).grown hg6 (by simp; omega) ?_
        intro j hj
        simp [Value.ownBlock] at hj
        omega
      have z7 : Hid (Below (w.heap.size + 1) W1 W7) := Lib.hid (by rw [hW7]; exact z6.setCell (p := ⟨w.heap.size + 1, 4, none⟩) (Nat.le_refl _) _)
      have b7 : Hid (Below w.heap.size w W7) := Lib.hid (by rw [hW7]; exact hb6.setCell (p := ⟨w.heap.size + 1, 4, none⟩) (Nat.le_add_right _ _) _)
      have hps7 : Hid (Own W7 (w.heap.size + 2) 9 1 (.slice pao pn pcp) (ps.map fun p => [.string p])) := Lib.hid (by
        rw [hW7]
        exact ((hown5.out.alloc _).kept hg6 (own_apart (hown5.out.alloc _) (own_new0' (w := W5) 34 8 rfl) (by decide))).setBelow (by omega) _)
      have hown7' : Own W7 W5.heap.size 34 8 (.slice (some ⟨g6, 0, none⟩) ((r1.map nilTv).length + 1) c6) (tvC (rt, .slice none 0 0) :: (r1.map nilTv).map tvC) := by
        rw [List.length_map, hq1.out]
        exact hown7
      obtain ⟨u0, u1, hown8, hge8⟩ := own_unspN hown7'
      rw [List.length_map] at hown8
      rw [hq1.out] at hown8
      clear m0 m1 m2 m3 m4 m5 m6 m7 fr
      obtain ⟨m0, m1, m2, m3, m4, m5, m6, m7⟩ := cells8x hc7.out
      rw [← hW7]
      replace hW7 := Lib.hid hW7
      have hq2 : (0 : Int) < q := by omega
      obtain ⟨W8, hW8⟩ : ∃ W8, W8 = W7.setCell ⟨g6, 2, none⟩ (.bool false) := ⟨_, rfl⟩
      have hc8 : Hid (W8.heap[w.heap.size + 1]? = some (.cells #[.string tk.text, .bool true, .bool false, .slice pao pn pcp, .slice (some ⟨g6, 0, none⟩) q c6, .string tk.file, .int .i64 tk.f, .int .i64 tk.t] 47 (0, 0))) := Lib.hid (by
        rw [hW8]
        exact (Below.heap_setCell _ _ _ _ (by simp; omega)).trans hc7.out)
      have b8 : Hid (Below w.heap.size w W8) := Lib.hid (by rw [hW8]; exact b7.out.setCell (p := ⟨g6, 2, none⟩) (by simp; omega) _)
      have z8 : Hid (Below (w.heap.size + 1) W1 W8) := Lib.hid (by rw [hW8]; exact z7.out.setCell (p := ⟨g6, 2, none⟩) (by simp; omega) _)
      go_upto_region 20 with fail
      rw [← hW8]
      rw [← hW8] at hown8
      replace hW8 := Lib.hid hW8
      have hpl : ps.length ≤ 1000000 := by have := paramsTop_lenN hP.out; rw [HN.out] at this; omega
      have hps8 : Hid (Own W8 (w.heap.size + 2) 9 1 (.slice pao pn pcp) (ps.map fun p => [.string p])) := Lib.hid (by
        rw [hW8.out]
        exact hps7.out.kept (set_grown _ _ _ _) (own_ne' hps7.out hown7 (by decide)))
      have HIll := rIll_any ⟨tk.text, true, false, ps, unsp (rt :: r1), tk.file, tk.f, tk.t⟩ ((unsp (rt :: r1)).map nilTv) pao pcp (some ⟨g6, 0, none⟩) c6 hpl (by simp [unsp]; have := hq1.out; omega) (by simp [unsp]; have := hq1.out; omega) W8 hps8.out.here (by have := hown8.here; exact this) (by intro p hp; obtain ⟨x, _, rfl⟩ := List.mem_map.1 hp; exact ⟨none, 0, 0, rfl⟩) (by rw [List.map_map]; exact List.map_id _) hok.out
      have hil : ((unsp (rt :: r1)).map nilTv).length = q := by simp [unsp]; have := hq1.out; omega
      unfold mcC at HIll
      simp only at HIll
      rw [hil, ← hpn.out] at HIll
      replace HIll := Lib.hid HIll
      clear m0 m1 m2 m3 m4 m5 m6 m7
      obtain ⟨m0, m1, m2, m3, m4, m5, m6, m7⟩ := cells8x hc8.out
      go_wp2_with fail
      refine HIll.out.mono ?_
      rintro e w9 ⟨rfl, hb9⟩
      have b9 : Hid (Below w.heap.size w w9) := Lib.hid (b8.out.trans (hb9.mono b8.out.size))
      have hc9 : Hid (w9.heap[w.heap.size + 1]? = some (.cells #[.string tk.text, .bool true, .bool false, .slice pao pn pcp, .slice (some ⟨g6, 0, none⟩) q c6, .string tk.file, .int .i64 tk.f, .int .i64 tk.t] 47 (0, 0))) := Lib.hid ((hb9.block _ (lt_of_block hc8.out)).trans hc8.out)
      have z9 : Below (w.heap.size + 1) W1 w9 := z8.out.trans (hb9.mono (Nat.le_trans (Nat.le_of_eq hs1.out.symm) z8.out.size))
      have hr9 := (z9.block w.heap.size (Nat.lt_succ_self _)).trans hc1.out
      have hf9 : Hid (Below w.heap.size w (w9.setRow w.heap.size #[.string tk.text, .bool true, .bool false, .slice pao pn pcp, .slice (some ⟨g6, 0, none⟩) q c6, .string tk.file, .int .i64 tk.f, .int .i64 tk.t])) := Lib.hid (Below.row b9.out (Nat.le_refl _) _)
      have hmac : Hid (MacO (w9.setRow w.heap.size #[.string tk.text, .bool true, .bool false, .slice pao pn pcp, .slice (some ⟨g6, 0, none⟩) q c6, .string tk.file, .int .i64 tk.f, .int .i64 tk.t]) w.heap.size ⟨tk.text, true, false, ps, unsp (rt :: r1), tk.file, tk.f, tk.t⟩ (.slice pao pn pcp) (.slice (some ⟨g6, 0, none⟩) q c6)) := Lib.hid (by
        refine ⟨((hps8.out.below hb9).rowBelow (by omega) _).mono (by omega), ?_⟩
        exact ((hown8.below hb9).rowBelow (by omega) _).mono (by omega))
      replace hmac := hmac
      clear m0 m1 m2 m3 m4 m5 m6 m7
      obtain ⟨m0, m1, m2, m3, m4, m5, m6, m7⟩ := cells8x hc9.out
      go_wp2_with (refine wpList_store_row rfl 47 (.tmp 2) (.tmp 113) rfl w.heap.size _ rfl rfl 47 _ hr9 info_rmac rfl (by simp [Value.oneCell']) ?_)
      have hr10 := setRow_heap _ _ _ #[Value.string tk.text, .bool true, .bool false, .slice pao pn pcp, .slice (some ⟨g6, 0, none⟩) q c6, .string tk.file, .int .i64 tk.f, .int .i64 tk.t] _ _ hr9
      clear m0 m1 m2 m3 m4 m5 m6 m7
      obtain ⟨m0, m1, m2, m3, m4, m5, m6, m7⟩ := cells8 hr10
      refine bodyPost_ret (v := .tuple #[.agg #[.string tk.text, .bool true, .bool false, .slice pao pn pcp, .slice (some ⟨g6, 0, none⟩) q c6, .string tk.file, .int .i64 tk.f, .int .i64 tk.t], .slice none 0 0]) (by simp [results, Tryz.results36, go_sem, m0, m1, m2, m3, m4, m5, m6, m7]) rfl ?_
      exact ⟨⟨_, _, rfl, hmac.out⟩, hf9.out⟩
end Go.Proofs.YtfaoamdlknlgpaaGreat
