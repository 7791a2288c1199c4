/- Texts of this seat's proofs, laid into one file. -/
import Derived.Test.YtfaoamdlknlgpaaGreatArgsCollectDoneG24
import Derived.Test.YtfaoamdlknlgpaaGreatArgsCollectDoneG9
/- args: Collect. -/
namespace Go.Proofs.YtfaoamdlknlgpaaGreat
open Go.RowKit
set_option linter.unusedVariables false

theorem El22 : EI Tryz.prog 40 22 (.slice none 0 0) 1 24 := ⟨Tryz.underlying40, by kernel_rfl, rfl, by decide⟩

theorem SiteIn.ok {w : World} {v : Value} {css : List (List Value)} (h : SiteIn w v css) : SitesOk css := by
  obtain ⟨ao, cap, _, h1, _, _, h2, h3⟩ := h
  exact ⟨h1, h2, h3⟩

/-- the arguments so far, and the commas -/
structure CoSt (X : List Tf) (w0 : World) (B : Nat) (XX : List (List Tf)) (CC : List Tf) (v2 v3 : Value) (wx : World) : Prop where
  ls : ∃ vs : List Value, Own wx B 22 1 v2 (vs.map fun u => [u]) ∧ vs.length = XX.length ∧ (∀ (i : Nat) u Y, vs[i]? = some u → XX[i]? = some Y → OwnT Y B u wx) ∧ ∀ u ∈ vs, ∀ k, u.ownBlock = some k → v3.ownBlock ≠ some k
  cm : ∃ Tc : List (Tm × Value), Own wx B 34 8 v3 (Tc.map tvC) ∧ Tc.length = CC.length ∧ ∀ (i : Nat) p x, Tc[i]? = some p → CC[i]? = some x → p.1 = x.1 ∧ SiteIn w0 p.2 x.2

theorem OwnT.grown {X : List Tf} {B : Nat} {u v : Value} {w w' : World} (h : OwnT X B u w) (hg : w.grownBy w' v.ownBlock) (hT : ∃ e sz B' css, Own w B' e sz v css ∧ e ≠ 66 ∧ (e ≠ 34 ∨ ∀ k, u.ownBlock = some k → v.ownBlock ≠ some k)) : OwnT X B u w' := by
  obtain ⟨T, h1, h2, h3⟩ := h
  obtain ⟨e, sz, B', css, ho, he, ht⟩ := hT
  refine ⟨T, h1.kept hg ?_, h2, fun i p x hp hx => ⟨(h3 i p x hp hx).1, (h3 i p x hp hx).2.kept hg (own_apart (h3 i p x hp hx).2 ho (Ne.symm he))⟩⟩
  rcases ht with ht | ht
  · exact own_apart h1 ho (Ne.symm ht)
  · cases hu : u.ownBlock with
    | none => exact .inl rfl
    | some k => exact .inr fun e => ht k hu e.symm

theorem CoSt.below {X : List Tf} {w0 w w' : World} {B : Nat} {XX : List (List Tf)} {CC : List Tf} {v2 v3 : Value} (h : CoSt X w0 B XX CC v2 v3 w) (hb : Below w.heap.size w w') : CoSt X w0 B XX CC v2 v3 w' := by
  obtain ⟨vs, h1, h2, h3, h4⟩ := h.ls
  obtain ⟨Tc, c1, c2, c3⟩ := h.cm
  exact ⟨⟨vs, h1.below hb, h2, fun i u Y hu hY => (h3 i u Y hu hY).below hb, h4⟩, ⟨Tc, c1.below hb, c2, c3⟩⟩

/-- a comma more -/
theorem CoSt.comma {X : List Tf} {w0 w w' : World} {B g' cap n : Nat} {XX : List (List Tf)} {CC : List Tf} {v2 v3 : Value} {t : Tm} {v : Value} {x : Tf} (h : CoSt X w0 B XX CC v2 v3 w) {Tc : List (Tm × Value)} (hc : Own w B 34 8 v3 (Tc.map tvC))
    (hcl : Tc.length = CC.length) (hcr : ∀ (i : Nat) p x, Tc[i]? = some p → CC[i]? = some x → p.1 = x.1 ∧ SiteIn w0 p.2 x.2)
    (ho : Own w' B 34 8 (.slice (some ⟨g', 0, none⟩) n cap) (Tc.map tvC ++ [tvC (t, v)])) (hg : w.grownBy w' v3.ownBlock) (hd : v3.ownBlock = some g' ∨ w.heap.size ≤ g') (hx : t = x.1 ∧ SiteIn w0 v x.2) :
    CoSt X w0 B XX (CC ++ [x]) v2 (.slice (some ⟨g', 0, none⟩) n cap) w' := by
  obtain ⟨vs, h1, h2, h3, h4⟩ := h.ls
  refine ⟨⟨vs, h1.kept hg (own_apart h1 hc (by decide)), h2, fun i u Y hu hY => (h3 i u Y hu hY).grown hg ⟨_, _, _, _, hc, by decide, .inr (h4 u (List.mem_of_getElem? hu))⟩, ?_⟩, ⟨Tc ++ [(t, v)], by rw [List.map_append]; exact ho, by simp [hcl], ?_⟩⟩
  · intro u hu k hk e
    have hgk : g' = k := by simpa [Value.ownBlock] using e
    subst hgk
    obtain ⟨i, hi⟩ := List.getElem?_of_mem hu
    obtain ⟨Y, hY⟩ : ∃ Y, XX[i]? = some Y := ⟨_, List.getElem?_eq_getElem (by rw [← h2]; exact (List.getElem?_eq_some_iff.1 hi).1)⟩
    rcases hd with hd | hd
    · exact h4 u hu g' hk hd
    · obtain ⟨T, o1, _⟩ := h3 i u Y hi hY
      obtain ⟨c, fz, hh⟩ := o1.size_lt g' hk
      have := lt_of_block hh
      omega
  · intro i p y hp hy
    by_cases hi : i < Tc.length
    · rw [List.getElem?_append_left hi] at hp
      rw [List.getElem?_append_left (by omega)] at hy
      exact hcr i p y hp hy
    · rw [List.getElem?_append_right (by omega)] at hp
      rw [List.getElem?_append_right (by omega)] at hy
      have h0 : i - Tc.length = 0 := by
        have := (List.getElem?_eq_some_iff.1 hp).1
        simp at this; omega
      have h0' : i - CC.length = 0 := by omega
      rw [h0] at hp
      rw [h0'] at hy
      simp at hp hy
      subst hp hy
      exact hx

/-- an argument more -/
theorem CoSt.arg {X : List Tf} {w0 w w' : World} {B S : Nat} {XX : List (List Tf)} {CC Y : List Tf} {v2 v3 v2' u : Value} (h : CoSt X w0 B XX CC v2 v3 w) {vs : List Value} (hv : Own w B 22 1 v2 (vs.map fun u => [u])) (hvl : vs.length = XX.length) (hvr : ∀ (i : Nat) u Y, vs[i]? = some u → XX[i]? = some Y → OwnT Y B u w) (hvs : ∀ u ∈ vs, ∀ k, u.ownBlock = some k → v3.ownBlock ≠ some k)
    (hu : OwnT Y S u w) (hBS : B ≤ S) (hS : ∀ k, v3.ownBlock = some k → k < S) (ho : Own w' B 22 1 v2' (vs.map (fun u => [u]) ++ [[u]])) (hg : w.grownBy w' v2.ownBlock) : CoSt X w0 B (XX ++ [Y]) CC v2' v3 w' := by
  obtain ⟨Tc, c1, c2, c3⟩ := h.cm
  refine ⟨⟨vs ++ [u], by rw [List.map_append]; exact ho, by simp [hvl], ?_, ?_⟩, ⟨Tc, c1.kept hg (own_apart c1 hv (by decide)), c2, c3⟩⟩
  · intro i u' Y' hu' hY'
    by_cases hi : i < vs.length
    · rw [List.getElem?_append_left hi] at hu'
      rw [List.getElem?_append_left (by omega)] at hY'
      exact (hvr i u' Y' hu' hY').grown hg ⟨_, _, _, _, hv, by decide, .inl (by decide)⟩
    · rw [List.getElem?_append_right (by omega)] at hu'
      rw [List.getElem?_append_right (by omega)] at hY'
      have h0 : i - vs.length = 0 := by
        have := (List.getElem?_eq_some_iff.1 hu').1
        simp at this; omega
      have h0' : i - XX.length = 0 := by omega
      rw [h0] at hu'
      rw [h0'] at hY'
      simp at hu' hY'
      subst hu' hY'
      exact (hu.mono hBS).grown hg ⟨_, _, _, _, hv, by decide, .inl (by decide)⟩
  · intro u' hu' k hk
    rcases List.mem_append.1 hu' with hu' | hu'
    · exact hvs u' hu' k hk
    · simp at hu'
      subst hu'
      intro e
      have h1 := hS k e
      obtain ⟨T, o1, _⟩ := hu
      have := o1.ge k hk
      omega
end Go.Proofs.YtfaoamdlknlgpaaGreat

/- args: Collect, walked. -/
namespace Go.Proofs.YtfaoamdlknlgpaaGreat
open Go.RowKit
set_option linter.unusedVariables false

/-- what stands between brackets; nothing where there are none -/
def colP (X : List Tf) : List (List Tf) × List Tf × Nat := (colL X).getD ([], [], 0)

def CollPost (r : List (List Tf) × List Tf × Nat) (B : Nat) (e : Ending) (w' : World) : Prop :=
  ∃ v2 v3, e = .returned (.tuple #[v2, v3, .int .i64 r.2.2, .bool (decide (0 < r.2.2))]) ∧ OwnLs r.1 B v2 w' ∧ OwnT r.2.1 B v3 w'

theorem partsR_cnt : ∀ (X : List Tm) (i dep fr : Nat) (out : List (Nat × Nat)) (r : List (Nat × Nat) × Nat), partsR X i dep fr out = some r → r.1.length ≤ out.length + X.length
  | [], _, _, _, _, _, h => by simp [partsR] at h
  | t :: X, i, dep, fr, out, r, h => by
    unfold partsR at h
    simp only [List.length_cons]
    split at h
    · have := partsR_cnt X _ _ _ _ r h; omega
    · split at h
      · split at h
        · simp only [Option.some.injEq] at h
          subst h
          simp
        · have := partsR_cnt X _ _ _ _ r h; omega
      · split at h
        · have := partsR_cnt X _ _ _ _ r h
          simp only [List.length_append, List.length_singleton] at this
          omega
        · have := partsR_cnt X _ _ _ _ r h; omega

theorem partsL_cnt {X : List Tm} {r : List (Nat × Nat) × Nat} (h : partsL X = some r) : r.1.length ≤ X.length := by
  cases X with
  | nil => simp [partsL] at h
  | cons t X =>
    by_cases ho : pOpen t = true
    · rw [show partsL (t :: X) = partsR X 1 1 1 [] from if_pos ho] at h
      have := partsR_cnt X _ _ _ _ r h
      simp only [List.length_nil, List.length_cons] at this ⊢
      omega
    · rw [show partsL (t :: X) = none from if_neg ho] at h
      cases h

/-- the places, in one word -/
theorem parts_post {X : List Tf} {B : Nat} {e : Ending} {w' : World} (h : PartsPost (partsL (X.map (·.1))) B e w') :
    ∃ (ps : List (Nat × Nat)) (u : Nat) (v : Value), e = .returned (.tuple #[v, .int .i64 u]) ∧ Own w' B 95 2 v (ps.map paC) ∧ PartOk X.length X.length X.length ps ∧ colP X = (argsOf X ps, commasOf X ps, u) ∧ u ≤ X.length ∧ ps.length ≤ X.length := by
  unfold PartsPost at h
  unfold colP colL
  cases hr : partsL (X.map (·.1)) with
  | none =>
    rw [hr] at h
    exact ⟨[], 0, .slice none 0 0, h, Own.nil _ _ _ _, ⟨by simp, by simp⟩, rfl, Nat.zero_le _, Nat.zero_le _⟩
  | some r =>
    obtain ⟨ps, u⟩ := r
    rw [hr] at h
    obtain ⟨v, h1, h2⟩ := h
    have hok := partsL_ok hr
    have hct := partsL_cnt hr
    rw [List.length_map] at hok hct
    exact ⟨ps, u, v, h1, h2, hok.1, rfl, hok.2.2.2, hct⟩

theorem cells2' {w : World} {b : Nat} {a0 a1 : Value} {e : TypeId} {fz : Nat × Nat} (h : w.heap[b]? = some (.cells #[a0, a1] e fz)) : w.cell? ⟨b, 0, none⟩ = some a0 ∧ w.cell? ⟨b, 1, none⟩ = some a1 :=
  ⟨by simpa using Lib.cell_of_heap h 0, by simpa using Lib.cell_of_heap h 1⟩

theorem results_tmp4 {fn : Func} {t u v x : Tmp} (h : fn.results = #[.tmp t, .tmp u, .tmp v, .tmp x]) (tmps : Array Value) (P : Program) (w : World) :
    (results fn tmps).run P w = .ok (.tuple #[tmps.getD t undef, tmps.getD u undef, tmps.getD v undef, tmps.getD x undef]) w := by
  simp [results, h]

theorem argsOf_snoc (X : List Tf) {ps : List (Nat × Nat)} {k f t : Nat} (h : ps[k]? = some (f, t)) : argsOf X (ps.take (k + 1)) = argsOf X (ps.take k) ++ [(X.drop f).take (t - f)] := by
  unfold argsOf
  rw [List.take_add_one, h]
  simp

theorem commasOf_snoc (X : List Tf) {ps : List (Nat × Nat)} {k f t : Nat} (h : ps[k]? = some (f, t)) {x : Tf} (hk : 0 < k) (hx : X[f - 1]? = some x) : commasOf X (ps.take (k + 1)) = commasOf X (ps.take k) ++ [x] := by
  unfold commasOf
  have hkl := (List.getElem?_eq_some_iff.1 h).1
  rw [List.take_add_one, h, List.drop_append_of_le_length (by rw [List.length_take]; omega)]
  simp [hx]

theorem commasOf_zero (X : List Tf) (ps : List (Nat × Nat)) : commasOf X (ps.take 0) = [] ∧ commasOf X (ps.take 1) = [] := by
  refine ⟨by simp [commasOf], ?_⟩
  unfold commasOf
  rw [List.drop_eq_nil_of_le (by rw [List.length_take]; omega)]
  rfl

set_option maxRecDepth 100000 in
set_option maxHeartbeats 4000000 in
theorem collect_any (X : List Tf) (T : List (Tm × Value)) (ao : Option Addr) (cap : Nat) (hn : T.length ≤ 1000000) (hcap : T.length ≤ cap) (w : World) (hrow : Row w 8 ao (T.map tvC)) (hTX : T.length = X.length) (hs : ∀ (i : Nat) p x, T[i]? = some p → X[i]? = some x → p.1 = x.1 ∧ SiteIn w p.2 x.2) :
    Calls Tryz.prog 22 #[.slice ao T.length cap] w fun e w' => CollPost (colP X) w.heap.size e w' ∧ Below w.heap.size w w' := by
  obtain ⟨n, hnn⟩ : ∃ n, n = T.length := ⟨_, rfl⟩
  have HN : Hid (T.length = n) := Lib.hid hnn.symm
  rw [← hnn] at hn hcap ⊢
  clear hnn
  have HX : Hid (X.length = n) := Lib.hid (hTX.symm.trans HN.out)
  have hTXm : T.map (·.1) = X.map (·.1) := by
    apply List.ext_getElem? 
    intro i
    rw [List.getElem?_map, List.getElem?_map]
    cases hi : T[i]? with
    | none =>
      rw [List.getElem?_eq_none_iff, hTX, ← List.getElem?_eq_none_iff] at hi
      rw [hi]; rfl
    | some p =>
      obtain ⟨x, hx⟩ : ∃ x, X[i]? = some x := ⟨_, List.getElem?_eq_getElem (by rw [← hTX]; exact (List.getElem?_eq_some_iff.1 hi).1)⟩
      rw [hx]
      simp [(hs i p x hi hx).1]
  have hSl : ∀ p ∈ T, SlV p.2 := by
    intro p hp
    obtain ⟨i, hi⟩ := List.getElem?_of_mem hp
    obtain ⟨x, hx⟩ : ∃ x, X[i]? = some x := ⟨_, List.getElem?_eq_getElem (by rw [← hTX]; exact (List.getElem?_eq_some_iff.1 hi).1)⟩
    obtain ⟨sa, sc, hv, _⟩ := (hs i p x hi hx).2
    exact ⟨sa, _, sc, hv⟩
  obtain ⟨W1, hW1⟩ : ∃ W1, W1 = w.alloc (.cells #[.slice ao n cap] 22) := ⟨_, rfl⟩
  have b1 : Below w.heap.size w W1 := by rw [hW1]; exact (Below.refl _ w).alloc (Nat.le_refl _) _
  have hbox : W1.cell? ⟨w.heap.size, 0, none⟩ = some (.slice ao n cap) := by rw [hW1]; exact cell_new w [.slice ao n cap] _ rfl
  have HP := parts_any T (by rw [HN.out]; exact hn) w.heap.size W1 hSl (fun W hW i t v hi => collectAt_any T ao cap (by rw [HN.out]; exact hcap) w.heap.size W ((hrow.below b1).below hW) (by rw [HN.out]; exact kept_cell hW hbox) hSl i t v hi)
  rw [HN.out, hTXm] at HP
  replace HP := Lib.hid HP
  have hs' := Lib.hid hs
  have hrow' := Lib.hid hrow
  have hSl' := Lib.hid hSl
  have b1' := Lib.hid b1
  have hbox' := Lib.hid hbox
  have HTX := Lib.hid hTX
  clear hs hrow hSl b1 hbox hTXm hTX
  go_enter Tryz.func22, Tryz.ntmps22
  go_wp2_with fail
  rw [← hW1]
  refine HP.out.mono ?_
  rintro e w2 ⟨hp, b2⟩
  obtain ⟨ps, u, v, rfl, hown, hok, hcol, hu, hcnt⟩ := parts_post hp
  rw [HX.out] at hu hcnt
  obtain ⟨np, hnp⟩ : ∃ np, np = ps.length := ⟨_, rfl⟩
  have HNP : Hid (ps.length = np) := Lib.hid hnp.symm
  rw [← hnp] at hcnt
  clear hnp
  obtain ⟨pao, pcap, rfl, hp1, hp2, hprow, hpnil⟩ := hown.rown (n := np) (by rw [List.length_map, HNP.out])
  have hb2 : Hid (Below w.heap.size w w2) := Lib.hid (b1'.out.trans (b2.mono b1'.out.size))
  have hbox2 : Hid (w2.cell? ⟨w.heap.size, 0, none⟩ = some (.slice ao n cap)) := Lib.hid (kept_cell b2 hbox'.out)
  replace hcol := Lib.hid hcol
  have hw2 : w.heap.size < w2.heap.size := by have := cell_lt hbox2.out; exact this
  replace hw2 := Lib.hid hw2
  replace hprow := Lib.hid hprow
  replace hok := Lib.hid hok
  clear hown hp hpnil b2 HP hbox' b1' hSl'
  replace hW1 := Lib.hid hW1
  go_wp2_with fail
  go_loopg [2, 3, 7, 8, 18] np (fun q v2 v3 v7 v8 v18 wx => ∃ k, q = np - k ∧ k ≤ np ∧ v18 = .int .i64 k ∧ Hid (CoSt X w w2.heap.size (argsOf X (ps.take k)) (commasOf X (ps.take k)) v2 v3 wx) ∧ Hid (Below w2.heap.size w2 wx))
  case atStart => exact ⟨0, rfl, Nat.zero_le _, rfl, Lib.hid ⟨⟨[], Own.nil _ _ _ _, by simp [argsOf], by simp, by simp⟩, ⟨[], Own.nil _ _ _ _, by simp [commasOf], by simp⟩⟩, Lib.hid (Below.refl _ _)⟩
  case round =>
    obtain ⟨k, hq, hk, rfl, hco, hb⟩ := hrel
    replace hq := hq.symm
    subst hq
    by_cases hkn : k < np
    · have hkn' : (k : Int) < np := by omega
      have f4 : Hid (np - (k + 1) < np - k) := Lib.hid (by omega)
      have g1 : IntKind.i64.wrap ((k : Int) + 1) = (k : Int) + 1 := IntWalk.i64_in _ (by omega)
      obtain ⟨⟨f, t⟩, hpk⟩ : ∃ p, ps[k]? = some p := ⟨_, List.getElem?_eq_getElem (by rw [HNP.out]; exact hkn)⟩
      obtain ⟨hf1, hft, htn⟩ := hok.out.all _ (List.mem_of_getElem? hpk)
      simp only at hf1 hft htn
      rw [HX.out] at htn
      obtain ⟨prb, po, rfl, hpat⟩ := (hprow.out.below hb.out) (by intro h; simp at h; rw [h] at hpk; simp at hpk)
      have hpm : (ps.map paC)[k]? = some (paC (f, t)) := by rw [List.getElem?_map, hpk]; rfl
      have c0 := hpat.cell hpm (j := 0) (u := .int .i64 f) rfl
      have c1 := hpat.cell hpm (j := 1) (u := .int .i64 t) rfl
      simp only [Nat.add_zero] at c0
      have hf4 : (f : Int) ≤ t := by omega
      have hf5 : (t : Int) ≤ n := by omega
      have hf6 : (t : Int) ≤ cap := by omega
      have hcf : ¬ cap = f := by omega
      obtain ⟨tb, tq, rfl, hat⟩ := (hrow'.out) (by intro h; have h2 := HN.out; simp at h; rw [h] at h2; simp at h2; omega)
      obtain ⟨W4, hW4⟩ : ∃ W4, W4 = wr.alloc (.cells #[.int .i64 f, .int .i64 t] 95) := ⟨_, rfl⟩
      have hr4 : Hid (Below wr.heap.size wr W4) := Lib.hid (by rw [hW4]; exact (Below.refl _ wr).alloc (Nat.le_refl _) _)
      have hb4 : Hid (Below w2.heap.size w2 W4) := Lib.hid (hb.out.trans (hr4.out.mono hb.out.size))
      have hc4 : W4.heap[wr.heap.size]? = some (.cells #[.int .i64 f, .int .i64 t] 95 (0, 0)) := by rw [hW4]; exact heap_alloc_new wr _
      have hx4 := kept_cell hb4.out hbox2.out
      have hco4 : Hid (CoSt X w w2.heap.size (argsOf X (ps.take k)) (commasOf X (ps.take k)) u2 u3 W4) := Lib.hid (hco.out.below hr4.out)
      have HO := fun W (hW : Below w2.heap.size w2 W) => mOwnF_any ((X.drop f).take (t - f)) ((T.drop f).take (t - f)) (some ⟨tb, tq + f * 8, none⟩) (cap - f) (by rw [List.length_take]; omega) (by rw [List.length_take, List.length_drop, HN.out]; omega) W
        (by
          have h1 := (hat.drop f)
          rw [← List.map_drop] at h1
          have h2 : Row W 8 (some ⟨tb, tq + f * 8, none⟩) ((T.drop f).map tvC) := fun _ => ⟨tb, _, rfl, (h1.below hb2.out).below hW⟩
          rw [List.map_take]
          exact h2.take _)
        (by rw [List.length_take, List.length_take, List.length_drop, List.length_drop, HN.out, HX.out])
        (fun i p x hp hx => by
          rw [List.getElem?_take] at hp hx
          split at hp
          · rename_i hi
            rw [if_pos hi] at hx
            rw [List.getElem?_drop] at hp hx
            obtain ⟨z1, z2⟩ := hs'.out _ p x hp hx
            exact ⟨z1, (z2.below hb2.out).below hW⟩
          · cases hp)
      rw [List.length_take, List.length_drop, HN.out, Nat.min_eq_left (by omega)] at HO
      replace HO := Lib.hid HO
      replace hpk := Lib.hid hpk
      clear hpat hpm
      by_cases hk0 : k = 0
      · have hk1 : ¬ (0 : Int) < k := by omega
        have hcz : Hid (commasOf X (ps.take (k + 1)) = commasOf X (ps.take k)) := Lib.hid (by rw [hk0]; exact (commasOf_zero X ps).2.trans (commasOf_zero X ps).1.symm)
        have hcoA := hco4
        have hbA : Hid (Below w2.heap.size w2 W4) := hb4
        obtain ⟨q0, q1⟩ := cells2' hc4
        replace hk0 := Lib.hid hk0
        have hx5 := hx4
        rw [hW4] at hx5
        go_wp2_with fail
        rw [← hW4]
        replace hW4 := Lib.hid hW4
        refine (HO.out _ hbA.out).mono ?_
        rintro e w3 ⟨v7, rfl, hOT, b3⟩
        obtain ⟨T5, o5, l5, r5⟩ := hOT
        obtain ⟨xa, xc, rfl, _, _, _, _⟩ := o5.rown (n := t - f) (by rw [List.length_map, l5, List.length_take, List.length_drop, HX.out]; omega)
        have hOT := Lib.hid (show OwnT ((X.drop f).take (t - f)) W4.heap.size (.slice xa (t - f) xc) w3 from ⟨T5, o5, l5, r5⟩)
        clear o5 l5 r5
        have hco3 := hcoA.out.below b3
        obtain ⟨vs, l1, l2, l3, l4⟩ := hco3.ls
        have hb3 := Lib.hid (hbA.out.trans (b3.mono hbA.out.size))
        have hSc : Hid (∀ kk, u3.ownBlock = some kk → kk < W4.heap.size) := Lib.hid (fun kk hkk => by
          obtain ⟨Tc, c1, _, _⟩ := hcoA.out.cm
          obtain ⟨_, _, hh⟩ := c1.size_lt kk hkk
          exact lt_of_block hh)
        have hlen : (vs.map fun u => [u]).length + 1 ≤ 1000000000 := by rw [List.length_map, l2]; simp only [argsOf, List.length_map, List.length_take]; omega
        replace l2 := Lib.hid l2
        replace l3 := Lib.hid l3
        replace l4 := Lib.hid l4
        replace hco3 := Lib.hid hco3
        replace b3 := Lib.hid b3
        clear q0 q1
        go_wp2_with (at_builtin; go_must (refine wpList_append1 El22 rfl rfl l1 rfl rfl (news := [.slice xa (t - f) xc]) (by simp) rfl (by simp [Value.oneCell']) hlen (by decide) hb3.out.size ?_); intro v6 w6 hown6 hg6)
        go_roundg (np - (k + 1))
        case measure => exact f4.out
        case rel =>
          refine ⟨k + 1, rfl, hkn, by simp, Lib.hid ?_, Lib.hid (bapp hb3.out l1 hg6 hb3.out.size)⟩
          rw [argsOf_snoc X hpk.out, hcz.out]
          have h9 := hco3.out.arg l1 l2.out l3.out l4.out hOT.out hbA.out.size hSc.out hown6 hg6
          simpa only [List.length_map] using h9
      · have hk1 : (0 : Int) < k := by omega
        have hf2 : 2 ≤ f := hok.out.hd k _ (by omega) hpk.out
        have g2 : IntKind.i64.wrap ((f : Int) - 1) = ((f - 1 : Nat) : Int) := by rw [IntWalk.i64_in _ (by omega)]; omega
        have hfn : ((f - 1 : Nat) : Int) < n := by omega
        obtain ⟨⟨tt, tv⟩, hpT⟩ : ∃ p, T[f - 1]? = some p := ⟨_, List.getElem?_eq_getElem (by rw [HN.out]; omega)⟩
        obtain ⟨x, hxX⟩ : ∃ x, X[f - 1]? = some x := ⟨_, List.getElem?_eq_getElem (by rw [HX.out]; omega)⟩
        have hpx := hs'.out _ _ _ hpT hxX
        obtain ⟨sa, sc, hv, _⟩ := id hpx.2
        simp only at hv
        subst hv
        have hcz : Hid (commasOf X (ps.take (k + 1)) = commasOf X (ps.take k) ++ [x]) := Lib.hid (commasOf_snoc X hpk.out (by omega) hxX)
        obtain ⟨sn, hsn⟩ : ∃ sn, sn = x.2.length := ⟨_, rfl⟩
        rw [← hsn] at hpx hpT
        replace hsn := Lib.hid hsn
        have hat4 : RowAt (wr.alloc (.cells #[.int .i64 f, .int .i64 t] 95)) 8 tb tq (T.map tvC) := by rw [← hW4]; exact (hat.below hb2.out).below hb4.out
        obtain ⟨t0, t1, t2, t3, t4, t5, t6, t7⟩ := tok8 (tok_at hat4 hpT)
        obtain ⟨Tc, c1o, c2o, c3o⟩ := hco4.out.cm
        have hlc : (Tc.map tvC).length + 1 ≤ 1000000000 := by
          rw [List.length_map, c2o]
          have h1 : (commasOf X (ps.take k)).length ≤ ((ps.take k).drop 1).length := List.length_filterMap_le _ _
          rw [List.length_drop, List.length_take] at h1
          omega
        have hx5 := hx4
        have hb5 := hb4
        have hco5 := hco4
        rw [hW4] at hx5 hb5 hco5 c1o
        have hc5 : (wr.alloc (.cells #[.int .i64 f, .int .i64 t] 95)).heap[wr.heap.size]? = some (.cells #[.int .i64 f, .int .i64 t] 95 (0, 0)) := heap_alloc_new wr _
        have hu3 : Hid (∀ kk, u3.ownBlock = some kk → kk ≠ wr.heap.size) := Lib.hid (fun kk hkk e => by
          obtain ⟨Tc', c1', _, _⟩ := hco.out.cm
          obtain ⟨_, _, hh⟩ := c1'.size_lt kk hkk
          have := lt_of_block hh
          omega)
        replace hc5 := Lib.hid hc5
        replace c2o := Lib.hid c2o
        replace c3o := Lib.hid c3o
        replace hpx := Lib.hid hpx
        replace hpT := Lib.hid hpT
        replace hW4 := Lib.hid hW4
        replace hx4 := Lib.hid hx4
        clear hat4 hc4 hat
        go_wp2_with (at_builtin; go_loud (refine wpList_append1X E34 rfl rfl c1o rfl rfl (news := [.int .i64 tt.kind, .string tt.text, .bool tt.sp, .string tt.file, .int .i64 tt.f, .int .i64 tt.t, .bool tt.made, .slice sa sn sc]) (by simp) rfl (by simp [Value.oneCell']) hlc (by decide) hb5.out.size ?_; intro g5 cp5 w5 hown5 hg5 hd5 hs5; have hbA := Lib.hid (bapp hb5.out c1o hg5 hb5.out.size); have hcoA := Lib.hid (hco5.out.comma c1o c2o.out c3o.out hown5 hg5 hd5 hpx.out); have hx6 := kept_cell hbA.out hbox2.out; have hc6 := (hg5.block wr.heap.size (by simp) (by intro e; exact hu3.out _ e.symm rfl)).trans hc5.out; obtain ⟨q0, q1⟩ := cells2' hc6; clear hx5 t0 t1 t2 t3 t4 t5 t6 t7))
        refine (HO.out _ hbA.out).mono ?_
        rintro e w3 ⟨v7, rfl, hOT, b3⟩
        obtain ⟨T5, o5, l5, r5⟩ := hOT
        obtain ⟨xa, xc, rfl, _, _, _, _⟩ := o5.rown (n := t - f) (by rw [List.length_map, l5, List.length_take, List.length_drop, HX.out]; omega)
        have hOT := Lib.hid (show OwnT ((X.drop f).take (t - f)) w5.heap.size (.slice xa (t - f) xc) w3 from ⟨T5, o5, l5, r5⟩)
        clear o5 l5 r5
        have hco3 := hcoA.out.below b3
        obtain ⟨vs, l1, l2, l3, l4⟩ := hco3.ls
        have hb3 := Lib.hid (hbA.out.trans (b3.mono hbA.out.size))
        have hSc : Hid (∀ kk, (Value.slice (some ⟨g5, 0, none⟩) ((Tc.map tvC).length + 1) cp5).ownBlock = some kk → kk < w5.heap.size) := Lib.hid (fun kk hkk => by
          obtain ⟨Tc, c1, _, _⟩ := hcoA.out.cm
          obtain ⟨_, _, hh⟩ := c1.size_lt kk hkk
          exact lt_of_block hh)
        have hlen : (vs.map fun u => [u]).length + 1 ≤ 1000000000 := by rw [List.length_map, l2]; simp only [argsOf, List.length_map, List.length_take]; omega
        replace l2 := Lib.hid l2
        replace l3 := Lib.hid l3
        replace l4 := Lib.hid l4
        replace hco3 := Lib.hid hco3
        replace b3 := Lib.hid b3
        clear q0 q1
        go_wp2_with (at_builtin; go_must (refine wpList_append1 El22 rfl rfl l1 rfl rfl (news := [.slice xa (t - f) xc]) (by simp) rfl (by simp [Value.oneCell']) hlen (by decide) hb3.out.size ?_); intro v6 w6 hown6 hg6)
        go_roundg (np - (k + 1))
        case measure => exact f4.out
        case rel =>
          refine ⟨k + 1, rfl, hkn, by simp, Lib.hid ?_, Lib.hid (bapp hb3.out l1 hg6 hb3.out.size)⟩
          rw [argsOf_snoc X hpk.out, hcz.out]
          have h9 := hco3.out.arg l1 l2.out l3.out l4.out hOT.out hbA.out.size hSc.out hown6 hg6
          simpa only [List.length_map] using h9
    · have hkn2 : k = np := by omega
      have hknf : ¬ (k : Int) < np := by omega
      have htk : ps.take k = ps := by rw [hkn2, ← HNP.out]; exact List.take_length
      rw [htk] at hco
      obtain ⟨Tc, c1, c2, c3⟩ := hco.out.cm
      obtain ⟨ca, cc, rfl, hcc, _, hcr, _⟩ := c1.rown (n := Tc.length) (by simp)
      have hbw : Hid (Below w.heap.size w wr) := Lib.hid (hb2.out.trans (hb.out.mono hb2.out.size))
      have HOc := mOwnF_any (commasOf X ps) Tc ca cc (by
        have h1 : (commasOf X ps).length ≤ (ps.drop 1).length := List.length_filterMap_le _ _
        rw [List.length_drop, HNP.out] at h1
        omega) hcc wr hcr c2 (fun i p x hp hx => ⟨(c3 i p x hp hx).1, (c3 i p x hp hx).2.below hbw.out⟩)
      generalize Tc.length = nc at HOc
      replace HOc := Lib.hid HOc
      clear c1 c2 c3 hcc hcr
      go_wp2_with fail
      refine HOc.out.mono ?_
      rintro e w3 ⟨v3, rfl, hOT, b3⟩
      have b4 := hbw.out.trans (b3.mono hbw.out.size)
      replace b3 := Lib.hid b3
      replace hOT := Lib.hid hOT
      replace b4 := Lib.hid b4
      go_wp2
      (try simp only [Exit.inBlock, Exit.then])
      refine bodyPost_ret (results_tmp4 rfl _ _ _) rfl ?_
      rw [hcol.out]
      refine ⟨⟨u2, v3, by simp, ?_, hOT.out.mono hbw.out.size⟩, b4.out⟩
      obtain ⟨vs, l1, l2, l3, _⟩ := (hco.out.below b3.out).ls
      exact ⟨vs, l1.mono hb2.out.size, l2, fun i u X hu hX => (l3 i u X hu hX).mono hb2.out.size⟩
end Go.Proofs.YtfaoamdlknlgpaaGreat
