/- Texts of this seat's proofs, laid into one file. -/
import Derived.Test.YtfaoamdlknlgpaaGreatSubstHashDoneG13
import Derived.Test.YtfaoamdlknlgpaaGreatSubstHashDoneG8
import Derived.Test.YtfaoamdlknlgpaaGreatSubstHashDoneG12
import Derived.Test.YtfaoamdlknlgpaaGreatSubstHashDoneG10
import Derived.Test.YtfaoamdlknlgpaaGreatSubstHashDoneG11
/- args: Collect, walked. -/
namespace Go.Proofs.YtfaoamdlknlgpaaGreat
open Go.RowKit
set_option linter.unusedVariables false

/-- what stands between brackets; nothing where there are none -/
def colP (X : List Tf) : List (List Tf) × List Tf × Nat := (colL X).getD ([], [], 0)

def CollPost (r : List (List Tf) × List Tf × Nat) (B : Nat) (e : Ending) (w' : World) : Prop :=
  ∃ v2 v3, e = .returned (.tuple #[v2, v3, .int .i64 r.2.2, .bool (decide (0 < r.2.2))]) ∧ OwnLs r.1 B v2 w' ∧ OwnT r.2.1 B v3 w'

theorem partsR_cnt : ∀ (X : List Tm) (i dep fr : Nat) (out : List (Nat × Nat)) (r : List (Nat × Nat) × Nat), partsR X i dep fr out = some r → r.1.length ≤ out.length + X.length
  | [], _, _, _, _, _, h => by simp [partsR] at h
  | t :: X, i, dep, fr, out, r, h => by
    unfold partsR at h
    simp only [List.length_cons]
    split at h
    · have := partsR_cnt X _ _ _ _ r h; omega
    · split at h
      · split at h
        · simp only [Option.some.injEq] at h
          subst h
          simp
        · have := partsR_cnt X _ _ _ _ r h; omega
      · split at h
        · have := partsR_cnt X _ _ _ _ r h
          simp only [List.length_append, List.length_singleton] at this
          omega
        · have := partsR_cnt X _ _ _ _ r h; omega

theorem partsL_cnt {X : List Tm} {r : List (Nat × Nat) × Nat} (h : partsL X = some r) : r.1.length ≤ X.length := by
  cases X with
  | nil => simp [partsL] at h
  | cons t X =>
    by_cases ho : pOpen t = true
    · rw [show partsL (t :: X) = partsR X 1 1 1 [] from if_pos ho] at h
      have := partsR_cnt X _ _ _ _ r h
      simp only [List.length_nil, List.length_cons] at this ⊢
      omega
    · rw [show partsL (t :: X) = none from if_neg ho] at h
      cases h

/-- the places, in one word -/
theorem parts_post {X : List Tf} {B : Nat} {e : Ending} {w' : World} (h : PartsPost (partsL (X.map (·.1))) B e w') :
    ∃ (ps : List (Nat × Nat)) (u : Nat) (v : Value), e = .returned (.tuple #[v, .int .i64 u]) ∧ Own w' B 95 2 v (ps.map paC) ∧ PartOk X.length X.length X.length ps ∧ colP X = (argsOf X ps, commasOf X ps, u) ∧ u ≤ X.length ∧ ps.length ≤ X.length := by
  unfold PartsPost at h
  unfold colP colL
  cases hr : partsL (X.map (·.1)) with
  | none =>
    rw [hr] at h
    exact ⟨[], 0, .slice none 0 0, h, Own.nil _ _ _ _, ⟨by simp, by simp⟩, rfl, Nat.zero_le _, Nat.zero_le _⟩
  | some r =>
    obtain ⟨ps, u⟩ := r
    rw [hr] at h
    obtain ⟨v, h1, h2⟩ := h
    have hok := partsL_ok hr
    have hct := partsL_cnt hr
    rw [List.length_map] at hok hct
    exact ⟨ps, u, v, h1, h2, hok.1, rfl, hok.2.2.2, hct⟩

theorem cells2' {w : World} {b : Nat} {a0 a1 : Value} {e : TypeId} {fz : Nat × Nat} (h : w.heap[b]? = some (.cells #[a0, a1] e fz)) : w.cell? ⟨b, 0, none⟩ = some a0 ∧ w.cell? ⟨b, 1, none⟩ = some a1 :=
  ⟨by simpa using Lib.cell_of_heap h 0, by simpa using Lib.cell_of_heap h 1⟩

theorem results_tmp4 {fn : Func} {t u v x : Tmp} (h : fn.results = #[.tmp t, .tmp u, .tmp v, .tmp x]) (tmps : Array Value) (P : Program) (w : World) :
    (results fn tmps).run P w = .ok (.tuple #[tmps.getD t undef, tmps.getD u undef, tmps.getD v undef, tmps.getD x undef]) w := by
  simp [results, h]

theorem argsOf_snoc (X : List Tf) {ps : List (Nat × Nat)} {k f t : Nat} (h : ps[k]? = some (f, t)) : argsOf X (ps.take (k + 1)) = argsOf X (ps.take k) ++ [(X.drop f).take (t - f)] := by
  unfold argsOf
  rw [List.take_add_one, h]
  simp

theorem commasOf_snoc (X : List Tf) {ps : List (Nat × Nat)} {k f t : Nat} (h : ps[k]? = some (f, t)) {x : Tf} (hk : 0 < k) (hx : X[f - 1]? = some x) : commasOf X (ps.take (k + 1)) = commasOf X (ps.take k) ++ [x] := by
  unfold commasOf
  have hkl := (List.getElem?_eq_some_iff.1 h).1
  rw [List.take_add_one, h, List.drop_append_of_le_length (by rw [List.length_take]; omega)]
  simp [hx]

theorem commasOf_zero (X : List Tf) (ps : List (Nat × Nat)) : commasOf X (ps.take 0) = [] ∧ commasOf X (ps.take 1) = [] := by
  refine ⟨by simp [commasOf], ?_⟩
  unfold commasOf
  rw [List.drop_eq_nil_of_le (by rw [List.length_take]; omega)]
  rfl

set_option maxRecDepth 100000 in
set_option maxHeartbeats 4000000 in
theorem collect_any (X : List Tf) (T : List (Tm × Value)) (ao : Option Addr) (cap : Nat) (hn : T.length ≤ 1000000) (hcap : T.length ≤ cap) (w : World) (hrow : Row w 8 ao (T.map tvC)) (hTX : T.length = X.length) (hs : ∀ (i : Nat) p x, T[i]? = some p → X[i]? = some x → p.1 = x.1 ∧ SiteIn w p.2 x.2) :
    Calls Tryz.prog 22 #[.slice ao T.length cap] w fun e w' => CollPost (colP X) w.heap.size e w' ∧ Below w.heap.size w w' := by
  obtain ⟨n, hnn⟩ : ∃ n, n = T.length := ⟨_, rfl⟩
  have HN : Hid (T.length = n) := Lib.hid hnn.symm
  rw [← hnn] at hn hcap ⊢
  clear hnn
  have HX : Hid (X.length = n) := Lib.hid (hTX.symm.trans HN.out)
  have hTXm : T.map (·.1) = X.map (·.1) := by
    apply List.ext_getElem? 
    intro i
    rw [List.getElem?_map, List.getElem?_map]
    cases hi : T[i]? with
    | none =>
      rw [List.getElem?_eq_none_iff, hTX, ← List.getElem?_eq_none_iff] at hi
      rw [hi]; rfl
    | some p =>
      obtain ⟨x, hx⟩ : ∃ x, X[i]? = some x := ⟨_, List.getElem?_eq_getElem (by rw [← hTX]; exact (List.getElem?_eq_some_iff.1 hi).1)⟩
      rw [hx]
      simp [(hs i p x hi hx).1]
  have hSl : ∀ p ∈ T, SlV p.2 := by
    intro p hp
    obtain ⟨i, hi⟩ := List.getElem?_of_mem hp
    obtain ⟨x, hx⟩ : ∃ x, X[i]? = some x := ⟨_, List.getElem?_eq_getElem (by rw [← hTX]; exact (List.getElem?_eq_some_iff.1 hi).1)⟩
    obtain ⟨sa, sc, hv, _⟩ := (hs i p x hi hx).2
    exact ⟨sa, _, sc, hv⟩
  obtain ⟨W1, hW1⟩ : ∃ W1, W1 = w.alloc (.cells #[.slice ao n cap] 22) := ⟨_, rfl⟩
  have b1 : Below w.heap.size w W1 := by rw [hW1]; exact (Below.refl _ w).alloc (Nat.le_refl _) _
  have hbox : W1.cell? ⟨w.heap.size, 0, none⟩ = some (.slice ao n cap) := by rw [hW1]; exact cell_new w [.slice ao n cap] _ rfl
  have HP := parts_any T (by rw [HN.out]; exact hn) w.heap.size W1 hSl (fun W hW i t v hi => collectAt_any T ao cap (by rw [HN.out]; exact hcap) w.heap.size W ((hrow.below b1).below hW) (by rw [HN.out]; exact kept_cell hW hbox) hSl i t v hi)
  rw [HN.out, hTXm] at HP
  replace HP := Lib.hid HP
  have hs' := Lib.hid hs
  have hrow' := Lib.hid hrow
  have hSl' := Lib.hid hSl
  have b1' := Lib.hid b1
  have hbox' := Lib.hid hbox
  have HTX := Lib.hid hTX
  clear hs hrow hSl b1 hbox hTXm hTX
  go_enter Tryz.func22, Tryz.ntmps22
  go_wp2_with fail
  rw [← hW1]
  refine HP.out.mono ?_
  rintro e w2 ⟨hp, b2⟩
  obtain ⟨ps, u, v, rfl, hown, hok, hcol, hu, hcnt⟩ := parts_post hp
  rw [HX.out] at hu hcnt
  obtain ⟨np, hnp⟩ : ∃ np, np = ps.length := ⟨_, rfl⟩
  have HNP : Hid (ps.length = np) := Lib.hid hnp.symm
  rw [← hnp] at hcnt
  clear hnp
  obtain ⟨pao, pcap, rfl, hp1, hp2, hprow, hpnil⟩ := hown.rown (n := np) (by rw [List.length_map, HNP.out])
  have hb2 : Hid (Below w.heap.size w w2) := Lib.hid (b1'.out.trans (b2.mono b1'.out.size))
  have hbox2 : Hid (w2.cell? ⟨w.heap.size, 0, none⟩ = some (.slice ao n cap)) := Lib.hid (kept_cell b2 hbox'.out)
  replace hcol := Lib.hid hcol
  have hw2 : w.heap.size < w2.heap.size := by have := cell_lt hbox2.out; exact this
  replace hw2 := Lib.hid hw2
  replace hprow := Lib.hid hprow
  replace hok := Lib.hid hok
  clear hown hp hpnil b2 HP hbox' b1' hSl'
  replace hW1 := Lib.hid hW1
  go_wp2_with fail
  go_loopg [2, 3, 7, 8, 18] np (fun q v2 v3 v7 v8 v18 wx => ∃ k, q = np - k ∧ k ≤ np ∧ v18 = .int .i64 k ∧ Hid (CoSt X w w2.heap.size (argsOf X (ps.take k)) (commasOf X (ps.take k)) v2 v3 wx) ∧ Hid (Below w2.heap.size w2 wx))
  case atStart => exact ⟨0, rfl, Nat.zero_le _, rfl, Lib.hid ⟨⟨[], Own.nil _ _ _ _, by simp [argsOf], by simp, by simp⟩, ⟨[], Own.nil _ _ _ _, by simp [commasOf], by simp⟩⟩, Lib.hid (Below.refl _ _)⟩
  case round =>
    obtain ⟨k, hq, hk, rfl, hco, hb⟩ := hrel
    replace hq := hq.symm
    subst hq
    by_cases hkn : k < np
    · have hkn' : (k : Int) < np := by omega
      have f4 : Hid (np - (k + 1) < np - k) := Lib.hid (by omega)
      have g1 : IntKind.i64.wrap ((k : Int) + 1) = (k : Int) + 1 := IntWalk.i64_in _ (by omega)
      obtain ⟨⟨f, t⟩, hpk⟩ : ∃ p, ps[k]? = some p := ⟨_, List.getElem?_eq_getElem (by rw [HNP.out]; exact hkn)⟩
      obtain ⟨hf1, hft, htn⟩ := hok.out.all _ (List.mem_of_getElem? hpk)
      simp only at hf1 hft htn
      rw [HX.out] at htn
      obtain ⟨prb, po, rfl, hpat⟩ := (hprow.out.below hb.out) (by intro h; simp at h; rw [h] at hpk; simp at hpk)
      have hpm : (ps.map paC)[k]? = some (paC (f, t)) := by rw [List.getElem?_map, hpk]; rfl
      have c0 := hpat.cell hpm (j := 0) (u := .int .i64 f) rfl
      have c1 := hpat.cell hpm (j := 1) (u := .int .i64 t) rfl
      simp only [Nat.add_zero] at c0
      have hf4 : (f : Int) ≤ t := by omega
      have hf5 : (t : Int) ≤ n := by omega
      have hf6 : (t : Int) ≤ cap := by omega
      have hcf : ¬ cap = f := by omega
      obtain ⟨tb, tq, rfl, hat⟩ := (hrow'.out) (by intro h; have h2 := HN.out; simp at h; rw [h] at h2; simp at h2; omega)
      obtain ⟨W4, hW4⟩ : ∃ W4, W4 = wr.alloc (.cells #[.int .i64 f, .int .i64 t] 95) := ⟨_, rfl⟩
      have hr4 : Hid (Below wr.heap.size wr W4) := Lib.hid (by rw [hW4]; exact (Below.refl _ wr).alloc (Nat.le_refl _) _)
      have hb4 : Hid (Below w2.heap.size w2 W4) := Lib.hid (hb.out.trans (hr4.out.mono hb.out.size))
      have hc4 : W4.heap[wr.heap.size]? = some (.cells #[.int .i64 f, .int .i64 t] 95 (0, 0)) := by rw [hW4]; exact heap_alloc_new wr _
      have hx4 := kept_cell hb4.out hbox2.out
      have hco4 : Hid (CoSt X w w2.heap.size (argsOf X (ps.take k)) (commasOf X (ps.take k)) u2 u3 W4) := Lib.hid (hco.out.below hr4.out)
      have HO := fun W (hW : Below w2.heap.size w2 W) => mOwnF_any ((X.drop f).take (t - f)) ((T.drop f).take (t - f)) (some ⟨tb, tq + f * 8, none⟩) (cap - f) (by rw [List.length_take]; omega) (by rw [List.length_take, List.length_drop, HN.out]; omega) W
        (by
          have h1 := (hat.drop f)
          rw [← List.map_drop] at h1
          have h2 : Row W 8 (some ⟨tb, tq + f * 8, none⟩) ((T.drop f).map tvC) := fun _ => ⟨tb, _, rfl, (h1.below hb2.out).below hW⟩
          rw [List.map_take]
          exact h2.take _)
        (by rw [List.length_take, List.length_take, List.length_drop, List.length_drop, HN.out, HX.out])
        (fun i p x hp hx => by
          rw [List.getElem?_take] at hp hx
          split at hp
          · rename_i hi
            rw [if_pos hi] at hx
            rw [List.getElem?_drop] at hp hx
            obtain ⟨z1, z2⟩ := hs'.out _ p x hp hx
            exact ⟨z1, (z2.below hb2.out).below hW⟩
          · cases hp)
      rw [List.length_take, List.length_drop, HN.out, Nat.min_eq_left (by omega)] at HO
      replace HO := Lib.hid HO
      replace hpk := Lib.hid hpk
      clear hpat hpm
      by_cases hk0 : k = 0
      · have hk1 : ¬ (0 : Int) < k := by omega
        have hcz : Hid (commasOf X (ps.take (k + 1)) = commasOf X (ps.take k)) := Lib.hid (by rw [hk0]; exact (commasOf_zero X ps).2.trans (commasOf_zero X ps).1.symm)
        have hcoA := hco4
        have hbA : Hid (Below w2.heap.size w2 W4) := hb4
        obtain ⟨q0, q1⟩ := cells2' hc4
        replace hk0 := Lib.hid hk0
        have hx5 := hx4
        rw [hW4] at hx5
        go_wp2_with fail
        rw [← hW4]
        replace hW4 := Lib.hid hW4
        refine (HO.out _ hbA.out).mono ?_
        rintro e w3 ⟨v7, rfl, hOT, b3⟩
        obtain ⟨T5, o5, l5, r5⟩ := hOT
        obtain ⟨xa, xc, rfl, _, _, _, _⟩ := o5.rown (n := t - f) (by rw [List.length_map, l5, List.length_take, List.length_drop, HX.out]; omega)
        have hOT := Lib.hid (show OwnT ((X.drop f).take (t - f)) W4.heap.size (.slice xa (t - f) xc) w3 from ⟨T5, o5, l5, r5⟩)
        clear o5 l5 r5
        have hco3 := hcoA.out.below b3
        obtain ⟨vs, l1, l2, l3, l4⟩ := hco3.ls
        have hb3 := Lib.hid (hbA.out.trans (b3.mono hbA.out.size))
        have hSc : Hid (∀ kk, u3.ownBlock = some kk → kk < W4.heap.size) := Lib.hid (fun kk hkk => by
          obtain ⟨Tc, c1, _, _⟩ := hcoA.out.cm
          obtain ⟨_, _, hh⟩ := c1.size_lt kk hkk
          exact lt_of_block hh)
        have hlen : (vs.map fun u => [u]).length + 1 ≤ 1000000000 := by rw [List.length_map, l2]; simp only [argsOf, List.length_map, List.length_take]; omega
        replace l2 := Lib.hid l2
        replace l3 := Lib.hid l3
        replace l4 := Lib.hid l4
        replace hco3 := Lib.hid hco3
        replace b3 := Lib.hid b3
        clear q0 q1
        go_wp2_with (at_builtin; go_must (refine wpList_append1 El22 rfl rfl l1 rfl rfl (news := [.slice xa (t - f) xc]) (by simp) rfl (by simp [Value.oneCell']) hlen (by decide) hb3.out.size ?_); intro v6 w6 hown6 hg6)
        go_roundg (np - (k + 1))
        case measure => exact f4.out
        case rel =>
          refine ⟨k + 1, rfl, hkn, by simp, Lib.hid ?_, Lib.hid (bapp hb3.out l1 hg6 hb3.out.size)⟩
          rw [argsOf_snoc X hpk.out, hcz.out]
          have h9 := hco3.out.arg l1 l2.out l3.out l4.out hOT.out hbA.out.size hSc.out hown6 hg6
          simpa only [List.length_map] using h9
      · have hk1 : (0 : Int) < k := by omega
        have hf2 : 2 ≤ f := hok.out.hd k _ (by omega) hpk.out
        have g2 : IntKind.i64.wrap ((f : Int) - 1) = ((f - 1 : Nat) : Int) := by rw [IntWalk.i64_in _ (by omega)]; omega
        have hfn : ((f - 1 : Nat) : Int) < n := by omega
        obtain ⟨⟨tt, tv⟩, hpT⟩ : ∃ p, T[f - 1]? = some p := ⟨_, List.getElem?_eq_getElem (by rw [HN.out]; omega)⟩
        obtain ⟨x, hxX⟩ : ∃ x, X[f - 1]? = some x := ⟨_, List.getElem?_eq_getElem (by rw [HX.out]; omega)⟩
        have hpx := hs'.out _ _ _ hpT hxX
        obtain ⟨sa, sc, hv, _⟩ := id hpx.2
        simp only at hv
        subst hv
        have hcz : Hid (commasOf X (ps.take (k + 1)) = commasOf X (ps.take k) ++ [x]) := Lib.hid (commasOf_snoc X hpk.out (by omega) hxX)
        obtain ⟨sn, hsn⟩ : ∃ sn, sn = x.2.length := ⟨_, rfl⟩
        rw [← hsn] at hpx hpT
        replace hsn := Lib.hid hsn
        have hat4 : RowAt (wr.alloc (.cells #[.int .i64 f, .int .i64 t] 95)) 8 tb tq (T.map tvC) := by rw [← hW4]; exact (hat.below hb2.out).below hb4.out
        obtain ⟨t0, t1, t2, t3, t4, t5, t6, t7⟩ := tok8 (tok_at hat4 hpT)
        obtain ⟨Tc, c1o, c2o, c3o⟩ := hco4.out.cm
        have hlc : (Tc.map tvC).length + 1 ≤ 1000000000 := by
          rw [List.length_map, c2o]
          have h1 : (commasOf X (ps.take k)).length ≤ ((ps.take k).drop 1).length := List.length_filterMap_le _ _
          rw [List.length_drop, List.length_take] at h1
          omega
        have hx5 := hx4
        have hb5 := hb4
        have hco5 := hco4
        rw [hW4] at hx5 hb5 hco5 c1o
        have hc5 : (wr.alloc (.cells #[.int .i64 f, .int .i64 t] 95)).heap[wr.heap.size]? = some (.cells #[.int .i64 f, .int .i64 t] 95 (0, 0)) := heap_alloc_new wr _
        have hu3 : Hid (∀ kk, u3.ownBlock = some kk → kk ≠ wr.heap.size) := Lib.hid (fun kk hkk e => by
          obtain ⟨Tc', c1', _, _⟩ := hco.out.cm
          obtain ⟨_, _, hh⟩ := c1'.size_lt kk hkk
          have := lt_of_block hh
          omega)
        replace hc5 := Lib.hid hc5
        replace c2o := Lib.hid c2o
        replace c3o := Lib.hid c3o
        replace hpx := Lib.hid hpx
        replace hpT := Lib.hid hpT
        replace hW4 := Lib.hid hW4
        replace hx4 := Lib.hid hx4
        clear hat4 hc4 hat
        go_wp2_with (at_builtin; go_loud (refine wpList_append1X E34 rfl rfl c1o rfl rfl (news := [.int .i64 tt.kind, .string tt.text, .bool tt.sp, .string tt.file, .int .i64 tt.f, .int .i64 tt.t, .bool tt.made, .slice sa sn sc]) (by simp) rfl (by simp [Value.oneCell']) hlc (by decide) hb5.out.size ?_; intro g5 cp5 w5 hown5 hg5 hd5 hs5; have hbA := Lib.hid (bapp hb5.out c1o hg5 hb5.out.size); have hcoA := Lib.hid (hco5.out.comma c1o c2o.out c3o.out hown5 hg5 hd5 hpx.out); have hx6 := kept_cell hbA.out hbox2.out; have hc6 := (hg5.block wr.heap.size (by simp) (by intro e; exact hu3.out _ e.symm rfl)).trans hc5.out; obtain ⟨q0, q1⟩ := cells2' hc6; clear hx5 t0 t1 t2 t3 t4 t5 t6 t7))
        refine (HO.out _ hbA.out).mono ?_
        rintro e w3 ⟨v7, rfl, hOT, b3⟩
        obtain ⟨T5, o5, l5, r5⟩ := hOT
        obtain ⟨xa, xc, rfl, _, _, _, _⟩ := o5.rown (n := t - f) (by rw [List.length_map, l5, List.length_take, List.length_drop, HX.out]; omega)
        have hOT := Lib.hid (show OwnT ((X.drop f).take (t - f)) w5.heap.size (.slice xa (t - f) xc) w3 from ⟨T5, o5, l5, r5⟩)
        clear o5 l5 r5
        have hco3 := hcoA.out.below b3
        obtain ⟨vs, l1, l2, l3, l4⟩ := hco3.ls
        have hb3 := Lib.hid (hbA.out.trans (b3.mono hbA.out.size))
        have hSc : Hid (∀ kk, (Value.slice (some ⟨g5, 0, none⟩) ((Tc.map tvC).length + 1) cp5).ownBlock = some kk → kk < w5.heap.size) := Lib.hid (fun kk hkk => by
          obtain ⟨Tc, c1, _, _⟩ := hcoA.out.cm
          obtain ⟨_, _, hh⟩ := c1.size_lt kk hkk
          exact lt_of_block hh)
        have hlen : (vs.map fun u => [u]).length + 1 ≤ 1000000000 := by rw [List.length_map, l2]; simp only [argsOf, List.length_map, List.length_take]; omega
        replace l2 := Lib.hid l2
        replace l3 := Lib.hid l3
        replace l4 := Lib.hid l4
        replace hco3 := Lib.hid hco3
        replace b3 := Lib.hid b3
        clear q0 q1
        go_wp2_with (at_builtin; go_must (refine wpList_append1 El22 rfl rfl l1 rfl rfl (news := [.slice xa (t - f) xc]) (by simp) rfl (by simp [Value.oneCell']) hlen (by decide) hb3.out.size ?_); intro v6 w6 hown6 hg6)
        go_roundg (np - (k + 1))
        case measure => exact f4.out
        case rel =>
          refine ⟨k + 1, rfl, hkn, by simp, Lib.hid ?_, Lib.hid (bapp hb3.out l1 hg6 hb3.out.size)⟩
          rw [argsOf_snoc X hpk.out, hcz.out]
          have h9 := hco3.out.arg l1 l2.out l3.out l4.out hOT.out hbA.out.size hSc.out hown6 hg6
          simpa only [List.length_map] using h9
    · have hkn2 : k = np := by omega
      have hknf : ¬ (k : Int) < np := by omega
      have htk : ps.take k = ps := by rw [hkn2, ← HNP.out]; exact List.take_length
      rw [htk] at hco
      obtain ⟨Tc, c1, c2, c3⟩ := hco.out.cm
      obtain ⟨ca, cc, rfl, hcc, _, hcr, _⟩ := c1.rown (n := Tc.length) (by simp)
      have hbw : Hid (Below w.heap.size w wr) := Lib.hid (hb2.out.trans (hb.out.mono hb2.out.size))
      have HOc := mOwnF_any (commasOf X ps) Tc ca cc (by
        have h1 : (commasOf X ps).length ≤ (ps.drop 1).length := List.length_filterMap_le _ _
        rw [List.length_drop, HNP.out] at h1
        omega) hcc wr hcr c2 (fun i p x hp hx => ⟨(c3 i p x hp hx).1, (c3 i p x hp hx).2.below hbw.out⟩)
      generalize Tc.length = nc at HOc
      replace HOc := Lib.hid HOc
      clear c1 c2 c3 hcc hcr
      go_wp2_with fail
      refine HOc.out.mono ?_
      rintro e w3 ⟨v3, rfl, hOT, b3⟩
      have b4 := hbw.out.trans (b3.mono hbw.out.size)
      replace b3 := Lib.hid b3
      replace hOT := Lib.hid hOT
      replace b4 := Lib.hid b4
      go_wp2
      (try simp only [Exit.inBlock, Exit.then])
      refine bodyPost_ret (results_tmp4 rfl _ _ _) rfl ?_
      rw [hcol.out]
      refine ⟨⟨u2, v3, by simp, ?_, hOT.out.mono hbw.out.size⟩, b4.out⟩
      obtain ⟨vs, l1, l2, l3, _⟩ := (hco.out.below b3.out).ls
      exact ⟨vs, l1.mono hb2.out.size, l2, fun i u X hu hX => (l3 i u X hu hX).mono hb2.out.size⟩
end Go.Proofs.YtfaoamdlknlgpaaGreat

/- args: Shape: how many arguments are parameters. -/
namespace Go.Proofs.YtfaoamdlknlgpaaGreat
open Go.RowKit
set_option linter.unusedVariables false

def shapeL (np : Nat) (va : Bool) (hv : Nat) (em : Bool) : Nat × Bool :=
  if np = 0 then (0, decide (hv = 1) && em) else if va then (np - 1, decide (np - 1 ≤ hv)) else (np, decide (hv = np))

set_option maxRecDepth 100000 in
theorem shape_any (name : ByteArray) (fn va : Bool) (pao : Option Addr) (np pcap : Nat) (bo : Value) (file : ByteArray) (f t : Int) (hv : Nat) (em : Bool) (hn : np ≤ 1000000) (hh : hv ≤ 1000000) (w : World) :
    Calls Tryz.prog 55 #[.agg #[.string name, .bool fn, .bool va, .slice pao np pcap, bo, .string file, .int .i64 f, .int .i64 t], .int .i64 hv, .bool em] w fun e w' => e = .returned (.tuple #[.int .i64 (shapeL np va hv em).1, .bool (shapeL np va hv em).2]) ∧ Below w.heap.size w w' := by
  have hb : ∀ o, Below w.heap.size w (w.alloc o) := fun o => (Below.refl _ w).alloc (Nat.le_refl _) o
  unfold shapeL
  go_enter Tryz.func55, Tryz.ntmps55
  by_cases h0 : np = 0
  · have h0' : ((np : Int) == 0) = true := by rw [h0]; rfl
    rw [if_pos h0]
    by_cases h1 : hv = 1
    · have h1' : ((hv : Int) == 1) = true := by rw [h1]; rfl
      have h1d : decide (hv = 1) = true := decide_eq_true h1
      rw [h1d]
      replace h1 := Lib.hid h1
      replace h0 := Lib.hid h0
      go_wp2
      go_ret2
      exact ⟨by simp, hb _⟩
    · have h1' : ((hv : Int) == 1) = false := beq_false_of_ne (by omega)
      have h1d : decide (hv = 1) = false := decide_eq_false h1
      rw [h1d]
      replace h0 := Lib.hid h0
      go_wp2
      go_ret2
      exact ⟨by simp, hb _⟩
  · have h0' : ((np : Int) == 0) = false := beq_false_of_ne (by omega)
    rw [if_neg h0]
    cases va with
    | true =>
      have g1 : IntKind.i64.wrap ((np : Int) - 1) = ((np - 1 : Nat) : Int) := by rw [IntWalk.i64_in _ (by omega)]; omega
      go_wp2
      go_ret2
      exact ⟨by simp, hb _⟩
    | false =>
      by_cases h1 : hv = np
      · have h1' : ((hv : Int) == np) = true := by rw [h1]; simp
        have h1d : decide (hv = np) = true := decide_eq_true h1
        simp only [h1d]
        replace h1 := Lib.hid h1
        go_wp2
        go_ret2
        exact ⟨by simp, hb _⟩
      · have h1' : ((hv : Int) == np) = false := beq_false_of_ne (by omega)
        have h1d : decide (hv = np) = false := decide_eq_false h1
        simp only [h1d]
        go_wp2
        go_ret2
        exact ⟨by simp, hb _⟩
end Go.Proofs.YtfaoamdlknlgpaaGreat

/- oxbowlaw9's toks. -/
namespace Go.Proofs.YtfaoamdlknlgpaaGreat
open Go.RowKit
set_option linter.unusedVariables false

/-! ## how many tokens a line has -/

def TokInv (n : Nat) (s : LS) : Prop := s.toks.length ≤ s.i ∧ ∀ l ∈ s.out, l.toks.length ≤ n

theorem finL_toks {n m : Nat} : ∀ {ls : List Ln}, (∀ l ∈ ls, l.toks.length ≤ n) → ∀ l ∈ finL m ls, l.toks.length ≤ n
  | [], h, l, hl => by simp [finL] at hl
  | [a], h, l, hl => by simp only [finL, List.mem_singleton] at hl; subst hl; exact h a (by simp)
  | a :: b :: r, h, l, hl => by
    simp only [finL, List.mem_cons] at hl
    rcases hl with rfl | hl
    · exact h l (by simp)
    · exact finL_toks (ls := b :: r) (fun l h' => h l (by simp at h' ⊢; exact .inr h')) l hl

theorem lineStep_toks {R : List Rn} {n : Nat} {s : LS} (hi : s.i < R.length) (h : TokInv R.length s) : match lineStep R n s with | .inl s' => TokInv R.length s' | .inr r => ∀ l ∈ r.1, l.toks.length ≤ R.length := by
  have hs := fun s' => lineStep_i (R := R) (n := n) (s := s) (s' := s') hi
  revert hs
  unfold lineStep
  obtain ⟨h1, h2⟩ := h
  have h3 := fun (l : Ln) (hl : l.toks = s.toks) => show l.toks.length ≤ R.length by rw [hl]; omega
  split
  · intro hs
    refine ⟨by simp, fun l hl => ?_⟩
    simp only [List.mem_append, List.mem_singleton] at hl
    rcases hl with hl | rfl
    · exact h2 l hl
    · exact h3 _ rfl
  · split
    · intro hs
      exact ⟨by simp; omega, h2⟩
    · split
      · split
        · intro hs l hl
          simp only [List.mem_append, List.mem_singleton] at hl
          rcases hl with hl | rfl
          · exact h2 l hl
          · exact h3 _ rfl
        · intro hs
          have := (hs _ rfl).1
          exact ⟨by simp only at this ⊢; omega, h2⟩
      · intro hs
        have := (hs _ rfl).1
        exact ⟨by simp only [List.length_append, List.length_singleton] at this ⊢; omega, h2⟩

theorem linesRun_toks {R : List Rn} {n : Nat} : ∀ (k : Nat) (s : LS), TokInv R.length s → ∀ l ∈ (linesRun R n k s).1, l.toks.length ≤ R.length
  | 0, s, h, l, hl => finL_toks h.2 l hl
  | k + 1, s, h, l, hl => by
    unfold linesRun at hl
    split at hl
    · rename_i hi
      have hstep := lineStep_toks (n := n) hi h
      split at hl
      · rename_i s' he
        rw [he] at hstep
        exact linesRun_toks k s' hstep l hl
      · rename_i r he
        rw [he] at hstep
        exact hstep l hl
    · exact finL_toks h.2 l hl

theorem linesL_toks {text : List UInt8} {l : Ln} (hl : l ∈ (linesL text).1) : l.toks.length ≤ text.length + 1 :=
  Nat.le_trans (linesRun_toks _ _ ⟨by simp, by simp⟩ l hl) (charsL_len text)

def toksOf (ls : List Ln) : List Tm := match ls with | [] => [] | l :: _ => l.toks.map (Tk.tm (bs [102]))
def toksL (s : List UInt8) : List Tm := toksOf (linesL s).1

theorem toksL_len (s : List UInt8) : (toksL s).length ≤ s.length + 1 := by
  unfold toksL toksOf
  cases h : (linesL s).1 with
  | nil => simp
  | cons l r => simp only [List.length_map]; exact linesL_toks (by rw [h]; simp)

def nilTv (t : Tm) : Tm × Value := (t, .slice none 0 0)

end Go.Proofs.YtfaoamdlknlgpaaGreat

/- oxbowlaw10's and oxbowlaw11's toks. -/
namespace Go.Proofs.YtfaoamdlknlgpaaGreat
open Go.RowKit
set_option linter.unusedVariables false

set_option maxRecDepth 100000 in
theorem rToks10_any (s : ByteArray) (hs : s.size ≤ 1000000) (w : World) :
    Calls Tryz.prog 23 #[.string s] w fun e w' => ∃ ao cap, e = .returned (.slice ao (toksL s.data.toList).length cap) ∧ (toksL s.data.toList).length ≤ cap ∧ Row w' 8 ao (((toksL s.data.toList).map nilTv).map tvC) ∧ Below w.heap.size w w' := by
  have HLi := rLines_any (bs [102]) s hs w
  unfold toksL
  obtain ⟨ls, hls⟩ : ∃ ls, ls = (linesL s.data.toList).1 := ⟨_, rfl⟩
  rw [← hls] at HLi ⊢
  clear hls
  replace HLi := Lib.hid HLi
  go_enter Tryz.func23, Tryz.ntmps23
  go_wp2_with fail
  refine HLi.out.mono ?_
  rintro e w1 ⟨vo, vd, lcs, rfl, hown, hlns, hd, hb⟩
  cases hlns with
  | nil =>
    obtain ⟨ao, cap, rfl, _, _, _, _⟩ := hown.rown (n := 0) rfl
    obtain ⟨M, hM⟩ : ∃ M, M = (linesL s.data.toList).2 := ⟨_, rfl⟩
    rw [← hM] at hd
    obtain ⟨ad, cd, rfl, _, _, _, _⟩ := hd.rown (n := M.length) (by simp)
    replace hd := Lib.hid hd
    replace hM := Lib.hid hM
    go_wp2
    go_ret
    exact ⟨none, 0, rfl, Nat.le_refl _, Row.nil _ _ _, hb⟩
  | @cons l c ls css h r =>
    obtain ⟨n, hn⟩ : ∃ n, n = css.length := ⟨_, rfl⟩
    obtain ⟨g, cap, rfl, hcap⟩ := hown.cons_at (by simp)
    have hown' := hown
    rw [List.length_cons, ← hn] at hown' ⊢
    obtain ⟨M, hM⟩ : ∃ M, M = (linesL s.data.toList).2 := ⟨_, rfl⟩
    rw [← hM] at hd
    obtain ⟨ad, cd, rfl, _, _, _, _⟩ := hd.rown (n := M.length) (by simp)
    obtain ⟨ao, tc, rfl, htc, hrow⟩ := h
    obtain ⟨b', o', e', hat⟩ := hown.here (by simp)
    simp at e'
    obtain ⟨rfl, rfl⟩ := e'
    have c0 := hat.cell (i := 0) rfl (j := 0) (u := .slice ao l.toks.length tc) rfl
    simp only [Nat.zero_mul, Nat.add_zero] at c0
    have hn0 : (0 : Int) < ((n + 1 : Nat) : Int) := by omega
    have hne : (((n + 1 : Nat) : Int) == 0) = false := by simp; omega
    have HR : Hid (Row w1 8 ao (((l.toks.map (Tk.tm (bs [102]))).map nilTv).map tvC)) := Lib.hid (fun hne => by
      obtain ⟨b, o, x, fz, rfl, _, _, h⟩ := hrow (by intro e; rw [e] at hne; simp at hne)
      refine ⟨b, o, rfl, ?_⟩
      rw [List.map_map, List.map_map]
      exact h)
    replace hd := Lib.hid hd
    replace hM := Lib.hid hM
    replace hat := Lib.hid hat
    replace hown := Lib.hid hown
    replace hown' := Lib.hid hown'
    replace hn := Lib.hid hn
    replace hrow := Lib.hid hrow
    clear hcap r
    go_wp2
    go_ret
    refine ⟨ao, tc, by simp [toksOf], by simp [toksOf]; exact htc, HR.out, hb⟩
set_option maxRecDepth 100000 in
theorem rToks11_any (s : ByteArray) (hs : s.size ≤ 1000000) (w : World) :
    Calls Tryz.prog 35 #[.string s] w fun e w' => ∃ ao cap, e = .returned (.slice ao (toksL s.data.toList).length cap) ∧ (toksL s.data.toList).length ≤ cap ∧ Row w' 8 ao (((toksL s.data.toList).map nilTv).map tvC) ∧ Below w.heap.size w w' := by
  have HLi := rLines_any (bs [102]) s hs w
  unfold toksL
  obtain ⟨ls, hls⟩ : ∃ ls, ls = (linesL s.data.toList).1 := ⟨_, rfl⟩
  rw [← hls] at HLi ⊢
  clear hls
  replace HLi := Lib.hid HLi
  go_enter Tryz.func35, Tryz.ntmps35
  go_wp2_with fail
  refine HLi.out.mono ?_
  rintro e w1 ⟨vo, vd, lcs, rfl, hown, hlns, hd, hb⟩
  cases hlns with
  | nil =>
    obtain ⟨ao, cap, rfl, _, _, _, _⟩ := hown.rown (n := 0) rfl
    obtain ⟨M, hM⟩ : ∃ M, M = (linesL s.data.toList).2 := ⟨_, rfl⟩
    rw [← hM] at hd
    obtain ⟨ad, cd, rfl, _, _, _, _⟩ := hd.rown (n := M.length) (by simp)
    replace hd := Lib.hid hd
    replace hM := Lib.hid hM
    go_wp2
    go_ret
    exact ⟨none, 0, rfl, Nat.le_refl _, Row.nil _ _ _, hb⟩
  | @cons l c ls css h r =>
    obtain ⟨n, hn⟩ : ∃ n, n = css.length := ⟨_, rfl⟩
    obtain ⟨g, cap, rfl, hcap⟩ := hown.cons_at (by simp)
    have hown' := hown
    rw [List.length_cons, ← hn] at hown' ⊢
    obtain ⟨M, hM⟩ : ∃ M, M = (linesL s.data.toList).2 := ⟨_, rfl⟩
    rw [← hM] at hd
    obtain ⟨ad, cd, rfl, _, _, _, _⟩ := hd.rown (n := M.length) (by simp)
    obtain ⟨ao, tc, rfl, htc, hrow⟩ := h
    obtain ⟨b', o', e', hat⟩ := hown.here (by simp)
    simp at e'
    obtain ⟨rfl, rfl⟩ := e'
    have c0 := hat.cell (i := 0) rfl (j := 0) (u := .slice ao l.toks.length tc) rfl
    simp only [Nat.zero_mul, Nat.add_zero] at c0
    have hn0 : (0 : Int) < ((n + 1 : Nat) : Int) := by omega
    have hne : (((n + 1 : Nat) : Int) == 0) = false := by simp; omega
    have HR : Hid (Row w1 8 ao (((l.toks.map (Tk.tm (bs [102]))).map nilTv).map tvC)) := Lib.hid (fun hne => by
      obtain ⟨b, o, x, fz, rfl, _, _, h⟩ := hrow (by intro e; rw [e] at hne; simp at hne)
      refine ⟨b, o, rfl, ?_⟩
      rw [List.map_map, List.map_map]
      exact h)
    replace hd := Lib.hid hd
    replace hM := Lib.hid hM
    replace hat := Lib.hid hat
    replace hown := Lib.hid hown
    replace hown' := Lib.hid hown'
    replace hn := Lib.hid hn
    replace hrow := Lib.hid hrow
    clear hcap r
    go_wp2
    go_ret
    refine ⟨ao, tc, by simp [toksOf], by simp [toksOf]; exact htc, HR.out, hb⟩
end Go.Proofs.YtfaoamdlknlgpaaGreat

/- args: Collect on a text's tokens; what comes of it, as a walk wants it. -/
namespace Go.Proofs.YtfaoamdlknlgpaaGreat
open Go.RowKit
set_option linter.unusedVariables false

/-- tokens without sites -/
def nilTf (t : Tm) : Tf := (t, [])

theorem nil_slots {w : World} {l : List Tm} {i : Nat} {p : Tm × Value} {x : Tf} (hp : (l.map nilTv)[i]? = some p) (hx : (l.map nilTf)[i]? = some x) : p.1 = x.1 ∧ SiteIn w p.2 x.2 := by
  rw [List.getElem?_map] at hp hx
  cases h : l[i]? with
  | none => rw [h] at hp; cases hp
  | some t =>
    rw [h] at hp hx
    simp only [Option.map_some, Option.some.injEq] at hp hx
    subst hp hx
    exact ⟨rfl, SiteIn.nil _⟩

theorem collectN_any (l : List Tm) (ao : Option Addr) (cap : Nat) (hn : l.length ≤ 1000000) (hcap : l.length ≤ cap) (w : World) (hrow : Row w 8 ao ((l.map nilTv).map tvC)) :
    Calls Tryz.prog 22 #[.slice ao l.length cap] w fun e w' => CollPost (colP (l.map nilTf)) w.heap.size e w' ∧ Below w.heap.size w w' := by
  have hl : (l.map nilTv).length = l.length := by simp
  have h := collect_any (l.map nilTf) (l.map nilTv) ao cap (by rw [hl]; exact hn) (by rw [hl]; exact hcap) w hrow (by simp) (fun i p x hp hx => nil_slots hp hx)
  rwa [hl] at h

/-- a text's tokens: the row, and what it holds -/
theorem toks10_row (s : ByteArray) (hs : s.size ≤ 100000) (w : World) :
    Calls Tryz.prog 23 #[.string s] w fun e w' => ∃ (l : List Tm) (n : Nat) (ao : Option Addr) (cap : Nat), e = .returned (.slice ao n cap) ∧ Below w.heap.size w w' ∧ Hid (l = toksL s.data.toList) ∧ Hid (l.length = n ∧ n ≤ s.size + 1 ∧ n ≤ cap ∧ Row w' 8 ao ((l.map nilTv).map tvC)) := by
  refine (rToks10_any s (by omega) w).mono ?_
  rintro e w' ⟨ao, cap, rfl, hcap, hrow, hb⟩
  have hl := toksL_len s.data.toList
  rw [← Lib.size_eq] at hl
  exact ⟨toksL s.data.toList, _, ao, cap, rfl, hb, Lib.hid rfl, Lib.hid ⟨rfl, hl, hcap, hrow⟩⟩
/-- a text's tokens: the row, and what it holds -/
theorem toks11_row (s : ByteArray) (hs : s.size ≤ 100000) (w : World) :
    Calls Tryz.prog 35 #[.string s] w fun e w' => ∃ (l : List Tm) (n : Nat) (ao : Option Addr) (cap : Nat), e = .returned (.slice ao n cap) ∧ Below w.heap.size w w' ∧ Hid (l = toksL s.data.toList) ∧ Hid (l.length = n ∧ n ≤ s.size + 1 ∧ n ≤ cap ∧ Row w' 8 ao ((l.map nilTv).map tvC)) := by
  refine (rToks11_any s (by omega) w).mono ?_
  rintro e w' ⟨ao, cap, rfl, hcap, hrow, hb⟩
  have hl := toksL_len s.data.toList
  rw [← Lib.size_eq] at hl
  exact ⟨toksL s.data.toList, _, ao, cap, rfl, hb, Lib.hid rfl, Lib.hid ⟨rfl, hl, hcap, hrow⟩⟩

theorem OwnT.slice {X : List Tf} {B n : Nat} {v : Value} {w : World} (h : OwnT X B v w) (hn : X.length = n) : ∃ ao cap, v = .slice ao n cap := by
  obtain ⟨T, h1, h2, h3⟩ := h
  obtain ⟨ao, cap, rfl, _⟩ := h1.rown (n := n) (by rw [List.length_map, h2, hn])
  exact ⟨ao, cap, rfl⟩

theorem OwnLs.slice {XX : List (List Tf)} {B n : Nat} {v : Value} {w : World} (h : OwnLs XX B v w) (hn : XX.length = n) : ∃ ao cap, v = .slice ao n cap := by
  obtain ⟨vs, h1, h2, h3⟩ := h
  obtain ⟨ao, cap, rfl, _⟩ := h1.rown (n := n) (by rw [List.length_map, h2, hn])
  exact ⟨ao, cap, rfl⟩

/-- a list among them: its cell -/
theorem OwnLs.cell {XX : List (List Tf)} {X : List Tf} {B n k : Nat} {ao : Option Addr} {cap : Nat} {w : World} (h : OwnLs XX B (.slice ao n cap) w) (hk : XX[k]? = some X) :
    ∃ b o la lc, ao = some ⟨b, o, none⟩ ∧ w.cell? ⟨b, o + k, none⟩ = some (.slice la X.length lc) ∧ OwnT X B (.slice la X.length lc) w := by
  obtain ⟨vs, h1, h2, h3⟩ := h
  obtain ⟨u, hu⟩ : ∃ u, vs[k]? = some u := ⟨_, List.getElem?_eq_getElem (by rw [h2]; exact (List.getElem?_eq_some_iff.1 hk).1)⟩
  have hT := h3 k u X hu hk
  obtain ⟨la, lc, rfl⟩ := hT.slice rfl
  obtain ⟨b, o, rfl, hat⟩ := h1.here (by intro e; simp at e; rw [e] at hu; simp at hu)
  have hc := hat.cell (i := k) (cs := [.slice la X.length lc]) (by rw [List.getElem?_map, hu]; rfl) (j := 0) rfl
  simp only [Nat.mul_one, Nat.add_zero] at hc
  exact ⟨b, o, la, lc, rfl, hc, hT⟩
end Go.Proofs.YtfaoamdlknlgpaaGreat

/- args: Fit: arguments by parameters: plain, how lists are read, and an append of owned tokens. -/
namespace Go.Proofs.YtfaoamdlknlgpaaGreat
open Go.RowKit
set_option linter.unusedVariables false

def emptyB (XX : List (List Tf)) : Bool := match XX with | X :: _ => X.isEmpty | [] => false

/-- what more there is, with the commas between -/
def restF (plain : Nat) (CC : List Tf) : Nat → List (List Tf) → List Tf
  | _, [] => []
  | i, X :: r => (if 0 < i then (CC[plain + i - 1]?).toList else []) ++ X ++ restF plain CC (i + 1) r

def fitP (np : Nat) (va : Bool) (XX : List (List Tf)) (CC : List Tf) : List (List Tf) × Bool :=
  if (shapeL np va XX.length (emptyB XX)).2 = false ∨ np = 0 then ([], (shapeL np va XX.length (emptyB XX)).2)
  else (XX.take (shapeL np va XX.length (emptyB XX)).1 ++ (if va then [restF (shapeL np va XX.length (emptyB XX)).1 CC 0 (XX.drop (shapeL np va XX.length (emptyB XX)).1)] else []), true)

theorem restF_snoc (plain : Nat) (CC : List Tf) : ∀ (XX : List (List Tf)) (i : Nat) (X : List Tf), restF plain CC i (XX ++ [X]) = restF plain CC i XX ++ (if 0 < i + XX.length then (CC[plain + (i + XX.length) - 1]?).toList else []) ++ X
  | [], i, X => by simp [restF]
  | Y :: XX, i, X => by
    rw [List.cons_append, restF, restF_snoc plain CC XX (i + 1) X, restF, List.length_cons, show i + 1 + XX.length = i + (XX.length + 1) by omega]
    simp

theorem restF_len (plain : Nat) (CC : List Tf) {m : Nat} : ∀ (XX : List (List Tf)) (i : Nat), (∀ X ∈ XX, X.length ≤ m) → (restF plain CC i XX).length ≤ XX.length * (m + 1)
  | [], i, _ => by simp [restF]
  | X :: r, i, h => by
    rw [restF, List.length_append, List.length_append]
    have h1 := restF_len plain CC r (i + 1) (fun Y hY => h Y (by simp [hY]))
    have h2 := h X (by simp)
    have h3 : (if 0 < i then (CC[plain + i - 1]?).toList else []).length ≤ 1 := by
      split
      · cases CC[plain + i - 1]? <;> simp
      · simp
    rw [List.length_cons, Nat.add_mul]
    omega

/-- lists of tokens that can be read -/
def LsIn (w : World) (v : Value) (XX : List (List Tf)) : Prop :=
  ∃ (ao : Option Addr) (cap : Nat) (vs : List Value), v = .slice ao XX.length cap ∧ XX.length ≤ cap ∧ cap ≤ maxLen ∧ Row w 1 ao (vs.map fun u => [u]) ∧ vs.length = XX.length ∧ (∀ (i : Nat) u X, vs[i]? = some u → XX[i]? = some X → ToksIn w u X) ∧ (ao = none → cap = 0)

theorem LsIn.below {w w' : World} {v : Value} {XX : List (List Tf)} (h : LsIn w v XX) (hb : Below w.heap.size w w') : LsIn w' v XX := by
  obtain ⟨ao, cap, vs, h1, h2, h3, h4, h5, h6, h7⟩ := h
  exact ⟨ao, cap, vs, h1, h2, h3, h4.below hb, h5, fun i u X hu hX => (h6 i u X hu hX).below hb, h7⟩

theorem OwnLs.inn {w : World} {B : Nat} {v : Value} {XX : List (List Tf)} (h : OwnLs XX B v w) (hk : ∀ X ∈ XX, ∀ x ∈ X, SitesOk x.2) : LsIn w v XX := by
  obtain ⟨vs, h1, h2, h3⟩ := h
  obtain ⟨ao, cap, rfl, a1, a2, a3, a4⟩ := h1.rown (n := XX.length) (by rw [List.length_map, h2])
  exact ⟨ao, cap, vs, rfl, a1, a2, a3, h2, fun i u X hu hX => (h3 i u X hu hX).toks (hk X (List.mem_of_getElem? hX)), fun e => (a4 e).2⟩

theorem ownIn_any {X : List Tf} {v : Value} {w : World} (h : ToksIn w v X) (hn : X.length ≤ 1000000) :
    Calls Tryz.prog 52 #[v] w fun e w' => ∃ v, e = .returned v ∧ OwnT X w.heap.size v w' ∧ Below w.heap.size w w' := by
  obtain ⟨ao, cap, T, rfl, h2, h3, h4, h5, h6, h7⟩ := h
  have := mOwnF_any X T ao cap (by omega) (by omega) w h5 h6 h7
  rwa [h6] at this

/-- one of them, by itself -/
theorem ToksIn.one {X : List Tf} {w : World} {ao : Option Addr} {n cap k : Nat} {x : Tf} (h : ToksIn w (.slice ao n cap) X) (hk : X[k]? = some x) : n = X.length ∧ ∃ b o, ao = some ⟨b, o, none⟩ ∧ ToksIn w (.slice (some ⟨b, o + k * 8, none⟩) 1 (cap - k)) [x] := by
  obtain ⟨ao', cap', T, hv, h2, h3, h4, h5, h6, h7⟩ := h
  simp only [Value.slice.injEq] at hv
  obtain ⟨rfl, rfl, rfl⟩ := hv
  have hkl := (List.getElem?_eq_some_iff.1 hk).1
  obtain ⟨p, hp⟩ : ∃ p, T[k]? = some p := ⟨_, List.getElem?_eq_getElem (by omega)⟩
  obtain ⟨b, o, rfl, hat⟩ := h5 (by intro e; simp at e; rw [e] at h6; simp at h6; omega)
  refine ⟨rfl, b, o, rfl, some ⟨b, o + k * 8, none⟩, cap - k, [p], rfl, by simp; omega, by omega, by simp, fun _ => ⟨b, _, rfl, ?_⟩, rfl, ?_⟩
  · have h1 := hat.drop k
    rw [← List.map_drop, List.drop_eq_getElem_cons (by omega : k < T.length), (List.getElem?_eq_some_iff.1 hp).2] at h1
    intro i cs hi j u hj
    cases i with
    | zero => exact h1 0 cs (by simpa using hi) j u hj
    | succ i => simp at hi
  · intro i q y hq hy
    cases i with
    | zero =>
      simp only [List.getElem?_cons_zero, Option.some.injEq] at hq hy
      subst hq hy
      exact h7 k _ _ hp hk
    | succ i => simp at hq

/-- an append of tokens that the call owns -/
theorem wpList_appendT {w : World} {ops : Array Oper} {rest : List Oper} {o : Oper} {a : Act} {Q : Exit → Act → World → Prop}
    (hgd : o.guard = none) {s x : Operand} (ho : o.op = .call { callee := .builtin .append, args := #[s, x], argTypes := #[22, 22] })
    {R X : List Tf} {B S : Nat} {v u : Value} (hR : OwnT R B v w) (hs : a.eval s = v) (hX : OwnT X S u w) (hx : a.eval x = u) (hBS : B ≤ S)
    (hn : R.length + X.length ≤ 1000000000) (hbase : B ≤ w.heap.size)
    (h : ∀ v' w', OwnT (R ++ X) B v' w' → w.grownBy w' v.ownBlock → wpList Tryz.prog ops Q rest (a.put o.dst v') w') : wpList Tryz.prog ops Q (o :: rest) a w := by
  obtain ⟨T, o1, l1, r1⟩ := hR
  obtain ⟨T2, o2, l2, r2⟩ := hX
  obtain ⟨ao, c, rfl, _, _, hrow, hnil⟩ := o2.rown (n := T2.length) (by simp)
  have hsl : ∀ p ∈ T2, ∃ sa sn sc, p.2 = .slice sa sn sc := by
    intro p hp
    obtain ⟨i, hi⟩ := List.getElem?_of_mem hp
    obtain ⟨y, hy⟩ : ∃ y, X[i]? = some y := ⟨_, List.getElem?_eq_getElem (by rw [← l2]; exact (List.getElem?_eq_some_iff.1 hi).1)⟩
    obtain ⟨sa, sc, hv, _⟩ := (r2 i p y hi hy).2.row
    exact ⟨sa, _, sc, hv⟩
  refine wpList_appendN E34 hgd ho o1 hs hx (by simp) (fun e => (hnil e).2) hrow o2.2 ?_ (by rw [List.length_map]; omega) (by decide) hbase ?_
  · intro cs hcs y hy
    obtain ⟨p, hp, rfl⟩ := List.mem_map.1 hcs
    obtain ⟨sa, sn, sc, hv⟩ := hsl p hp
    simp only [tvC, tmC, hv, List.mem_cons, List.not_mem_nil, or_false] at hy
    rcases hy with rfl | rfl | rfl | rfl | rfl | rfl | rfl | rfl <;> rfl
  · intro v' w' hown hg
    refine h v' w' ⟨T ++ T2, by rw [List.map_append]; exact hown, by simp [l1, l2], ?_⟩ hg
    intro i p y hp hy
    by_cases hi : i < T.length
    · rw [List.getElem?_append_left hi] at hp
      rw [List.getElem?_append_left (by omega)] at hy
      exact ⟨(r1 i p y hp hy).1, (r1 i p y hp hy).2.kept hg (own_apart (r1 i p y hp hy).2 o1 (by decide))⟩
    · rw [List.getElem?_append_right (by omega)] at hp
      rw [List.getElem?_append_right (by omega)] at hy
      rw [← l1] at hy
      obtain ⟨z1, z2⟩ := r2 _ p y hp hy
      exact ⟨z1, (z2.kept hg (own_apart z2 o1 (by decide))).mono hBS⟩
end Go.Proofs.YtfaoamdlknlgpaaGreat

/- oxbowalike's Few; a token's sites as an argument has them. -/
namespace Go.Proofs.YtfaoamdlknlgpaaGreat
open Go.RowKit
set_option linter.unusedVariables false

/-- a site's cells -/
def siC (m file : ByteArray) (f t : Int) (made : Bool) : List Value := [.string m, .string file, .int .i64 f, .int .i64 t, .bool made]

/-- a token's sites as an argument has them -/
def SiteRd (w : World) (v : Value) : Prop :=
  ∃ ao cap css, v = .slice ao css.length cap ∧ (ao = none → css = [] ∧ cap = 0) ∧ Row w 5 ao css ∧ (∀ c ∈ css, c.length = 5) ∧ (∀ u ∈ css.flatten, u.oneCell' = true) ∧ ∀ c ∈ css, ∃ m file f t made, c = siC m file f t made

def siteLen : Value → Nat
  | .slice _ n _ => n
  | _ => 0

def FewPost (T : List (Tm × Value)) (most : Nat) (w : World) (e : Ending) (w' : World) : Prop := ∃ b, e = .returned (.bool b) ∧ w' = w ∧ (b = true → T.length ≤ most ∧ ∀ p ∈ T, siteLen p.2 ≤ 20 ∧ p.1.text.size ≤ 300)

set_option maxRecDepth 100000 in
theorem mFew_any (T : List (Tm × Value)) (ao : Option Addr) (cap most : Nat) (hm : most ≤ 1000) (hcap : T.length ≤ cap) (w : World) (hrow : Row w 8 ao (T.map tvC)) (hs : ∀ p ∈ T, SiteRd w p.2) :
    Calls Tryz.prog 12 #[.slice ao T.length cap, .int .i64 most] w fun e w' => FewPost T most w e w' := by
  obtain ⟨n, hn⟩ : ∃ n, n = T.length := ⟨_, rfl⟩
  have HN : Hid (T.length = n) := Lib.hid hn.symm
  rw [← hn] at hcap ⊢
  clear hn
  have HS := Lib.hid hs
  clear hs
  go_enter Tryz.func12, Tryz.ntmps12
  by_cases hnm : most < n
  · have h1 : (most : Int) < n := by omega
    go_wp2
    go_ret
    exact ⟨false, rfl, rfl, by simp⟩
  · have h1 : ¬ (most : Int) < n := by omega
    go_wp2
    go_loopg [5] n (fun u i wr => ∃ k : Nat, u = n - k ∧ k ≤ n ∧ i = .int .i64 k ∧ wr = w ∧ Hid (∀ j, j < k → ∀ p, T[j]? = some p → siteLen p.2 ≤ 20 ∧ p.1.text.size ≤ 300))
    case atStart => exact ⟨0, rfl, Nat.zero_le _, rfl, rfl, Lib.hid (fun j hj => absurd hj (Nat.not_lt_zero _))⟩
    case round =>
      obtain ⟨k, rfl, hk, rfl, hw, HJ⟩ := hrel
      replace hw := hw.symm
      subst hw
      by_cases hlt : k < n
      · obtain ⟨⟨t, v⟩, hp⟩ : ∃ p, T[k]? = some p := ⟨T[k]'(by rw [HN.out]; exact hlt), by simp⟩
        obtain ⟨sa, sc, css, hv, _⟩ := HS.out _ (List.mem_of_getElem? hp)
        simp only at hv
        subst hv
        obtain ⟨rb, o, rfl, hat⟩ := hrow (by intro h; simp at h; subst h; simp at hp)
        obtain ⟨t0, t1, t2, t3, t4, t5, t6, t7⟩ := tok8 (tok_at hat hp)
        obtain ⟨sn, hsn⟩ : ∃ sn, sn = css.length := ⟨_, rfl⟩
        rw [← hsn] at t7 hp
        clear hat hsn
        replace hp := Lib.hid hp
        by_cases h3 : 300 < t.text.size
        · have e3 : (300 : Int) < t.text.size := by omega
          go_wp2
          go_ret
          exact ⟨false, rfl, rfl, by simp⟩
        · have e3 : ¬ (300 : Int) < t.text.size := by omega
          by_cases h20 : 20 < sn
          · have e4 : (20 : Int) < sn := by omega
            go_wp2
            go_ret
            exact ⟨false, rfl, rfl, by simp⟩
          · have e4 : ¬ (20 : Int) < sn := by omega
            have HJ2 : Hid (∀ j, j < k + 1 → ∀ p, T[j]? = some p → siteLen p.2 ≤ 20 ∧ p.1.text.size ≤ 300) := Lib.hid (by
              intro j hj p hjp
              by_cases hjk : j = k
              · subst hjk
                rw [hp.out] at hjp
                injection hjp with hjp
                subst hjp
                exact ⟨by show sn ≤ 20; omega, by show t.text.size ≤ 300; omega⟩
              · exact HJ.out j (by omega) p hjp)
            go_wp2_with fail
            go_roundg (n - (k + 1))
            case measure => omega
            case rel => exact ⟨k + 1, rfl, by omega, by go_num, rfl, HJ2⟩
      · have hkn : k = n := by omega
        go_wp2
        go_ret
        refine ⟨true, rfl, rfl, fun _ => ⟨by have := HN.out; omega, fun p hp => ?_⟩⟩
        obtain ⟨j, hj, e⟩ := List.mem_iff_getElem.1 hp
        exact HJ.out j (by rw [HN.out] at hj; omega) p (by rw [List.getElem?_eq_getElem hj, e])

theorem SiteRd.inn {w : World} {v : Value} (h : SiteRd w v) (hl : siteLen v ≤ 20) : ∃ css, SiteIn w v css := by
  obtain ⟨ao, cap, css, rfl, h1, h2, h3, h4, _⟩ := h
  exact ⟨css, ao, cap, rfl, by simp only [siteLen] at hl; omega, h1, h2, h3, h4⟩

theorem two_new (w : World) (x y : Array Value) (e f : TypeId) : ((w.alloc (.cells x e)).alloc (.cells y f)).heap[w.heap.size]? = some (.cells x e (0, 0)) ∧ ((w.alloc (.cells x e)).alloc (.cells y f)).heap[w.heap.size + 1]? = some (.cells y f (0, 0)) :=
  ⟨(Lib.alloc_old _ _ _ (by simp)).trans (heap_alloc_new w _), by have := heap_alloc_new (w.alloc (.cells x e)) (.cells y f); simpa using this⟩
end Go.Proofs.YtfaoamdlknlgpaaGreat
