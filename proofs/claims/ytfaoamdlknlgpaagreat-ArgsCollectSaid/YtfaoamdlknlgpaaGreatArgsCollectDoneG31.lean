/- Texts of this seat's proofs, laid into one file. -/
import Derived.Test.YtfaoamdlknlgpaaGreatArgsCollectDoneG30
/- The document's Fit, walked. -/
namespace Go.Proofs.YtfaoamdlknlgpaaGreat
open Go.RowKit
set_option linter.unusedVariables false

theorem LsIn.parts {w : World} {v : Value} {XX : List (List Tf)} (h : LsIn w v XX) : ∃ (ao : Option Addr) (cap : Nat) (vs : List Value), v = .slice ao XX.length cap ∧ XX.length ≤ cap ∧ Row w 1 ao (vs.map fun u => [u]) ∧ vs.length = XX.length ∧ (∀ (i : Nat) u X, vs[i]? = some u → XX[i]? = some X → ToksIn w u X) ∧ (∀ u ∈ vs, u.oneCell' = true) ∧ (ao = none → cap = 0) := by
  obtain ⟨ao, cap, vs, h1, h2, h3, h4, h5, h6, h7⟩ := h
  refine ⟨ao, cap, vs, h1, h2, h4, h5, h6, fun u hu => ?_, h7⟩
  obtain ⟨i, hi⟩ := List.getElem?_of_mem hu
  obtain ⟨X, hX⟩ : ∃ X, XX[i]? = some X := ⟨_, List.getElem?_eq_getElem (by rw [← h5]; exact (List.getElem?_eq_some_iff.1 hi).1)⟩
  obtain ⟨a, c, T, hv, _⟩ := h6 i u X hi hX
  rw [hv]
  rfl

theorem fitP_zero {XX : List (List Tf)} {CC : List Tf} {va : Bool} : fitP 0 va XX CC = ([], decide (XX.length = 1) && emptyB XX) := by
  unfold fitP shapeL
  rw [if_pos rfl]
  simp
theorem fitP_plain {XX : List (List Tf)} {CC : List Tf} {np : Nat} (h : ¬ np = 0) : fitP np false XX CC = if XX.length = np then (XX, true) else ([], false) := by
  unfold fitP shapeL
  rw [if_neg h]
  by_cases hl : XX.length = np
  · simp only [hl, Bool.false_eq_true, if_false, decide_true, if_true]
    rw [if_neg (by simp [h]), ← hl, List.take_length]
    simp
  · simp only [hl, Bool.false_eq_true, if_false, decide_false]
    rw [if_pos (.inl trivial)]
theorem fitP_dots {XX : List (List Tf)} {CC : List Tf} {P : Nat} : fitP (P + 1) true XX CC = if P ≤ XX.length then (XX.take P ++ [restF P CC 0 (XX.drop P)], true) else ([], false) := by
  have hs : shapeL (P + 1) true XX.length (emptyB XX) = (P, decide (P ≤ XX.length)) := by
    unfold shapeL
    rw [if_neg (by omega)]
    simp
  unfold fitP
  rw [hs]
  by_cases hl : P ≤ XX.length
  · simp only [decide_eq_true hl]
    rw [if_neg (by simp), if_pos hl]
    simp
  · simp only [decide_eq_false hl]
    rw [if_pos (.inl trivial), if_neg hl]

set_option maxRecDepth 100000 in
set_option maxHeartbeats 4000000 in
theorem rFit_any (XX : List (List Tf)) (CC : List Tf) (name : ByteArray) (fn va : Bool) (pao : Option Addr) (np pcap : Nat) (bo : Value) (file : ByteArray) (f t : Int) (v1 v2 : Value) (hn : np ≤ 1000000) (hh : XX.length ≤ 1000) (hc : CC.length ≤ 1000000) (hX : ∀ X ∈ XX, X.length ≤ 1000) (w : World) (hL : LsIn w v1 XX) (hC : ToksIn w v2 CC) :
    Calls Tryz.prog 30 #[.agg #[.string name, .bool fn, .bool va, .slice pao np pcap, bo, .string file, .int .i64 f, .int .i64 t], v1, v2] w fun e w' => (∃ v, e = .returned (.tuple #[v, .bool (fitP np va XX CC).2]) ∧ LsIn w' v (fitP np va XX CC).1) ∧ Below w.heap.size w w' := by
  have hL0 := Lib.hid hL
  obtain ⟨lao, lcap, vs, rfl, hlc, hlrow, hvl, hvs, hv1, hlz⟩ := hL.parts
  obtain ⟨cao, ccap, Tc, rfl, hcc, _, hcrow, hcrel⟩ := hC.rel
  obtain ⟨m, hm⟩ : ∃ m, m = XX.length := ⟨_, rfl⟩
  have HM : Hid (XX.length = m) := Lib.hid hm.symm
  obtain ⟨cn, hcn⟩ : ∃ cn, cn = CC.length := ⟨_, rfl⟩
  have HCn : Hid (CC.length = cn) := Lib.hid hcn.symm
  rw [← hm] at hh hlc hvl ⊢
  rw [← hcn] at hc hcc ⊢
  clear hm hcn hL hC
  obtain ⟨W1, hW1⟩ : ∃ W1, W1 = w.alloc (.cells #[.string name, .bool fn, .bool va, .slice pao np pcap, bo, .string file, .int .i64 f, .int .i64 t] 47) := ⟨_, rfl⟩
  have b1 : Hid (Below w.heap.size w W1) := Lib.hid (by rw [hW1]; exact (Below.refl _ w).alloc (Nat.le_refl _) _)
  have hbx : W1.heap[w.heap.size]? = some (.cells #[.string name, .bool fn, .bool va, .slice pao np pcap, bo, .string file, .int .i64 f, .int .i64 t] 47 (0, 0)) := by rw [hW1]; exact heap_alloc_new w _
  replace hbx := Lib.hid hbx
  replace hlrow := Lib.hid hlrow
  replace hvs := Lib.hid hvs
  replace hv1 := Lib.hid hv1
  replace hlz := Lib.hid hlz
  replace hvl := Lib.hid hvl
  replace hcrow := Lib.hid hcrow
  replace hcrel := Lib.hid hcrel
  replace hX := Lib.hid hX
  go_enter Tryz.func30, Tryz.ntmps30
  by_cases hnp : np = 0
  · subst hnp
    rw [fitP_zero, HM.out]
    obtain ⟨x0, x1, x2, x3, x4, x5, x6, x7⟩ := cells8 hbx.out
    by_cases hm1 : m = 1
    · have hm1' : ((m : Int) == 1) = true := by rw [hm1]; rfl
      have hm2 : decide (m = 1) = true := decide_eq_true hm1
      obtain ⟨X0, r, hXr⟩ : ∃ X r, XX = X :: r := by
        cases XX with
        | nil => have := HM.out; simp at this; omega
        | cons X r => exact ⟨X, r, rfl⟩
      have hL1 := hL0.out
      rw [hXr] at hL1
      obtain ⟨hb', ho', hcp', la, lc, hv, hcell⟩ := hL1.head
      simp only [Value.slice.injEq] at hv
      obtain ⟨rfl, _, rfl⟩ := hv
      have hc1 := kept_cell b1.out hcell
      rw [hW1] at hc1
      have hem : emptyB XX = decide (X0.length = 0) := by rw [hXr]; cases X0 <;> rfl
      have hm0 : (0 : Int) < m := by omega
      have hm3 : 0 < m := by omega
      rw [hm2, hem]
      replace hm1 := Lib.hid hm1
      replace hXr := Lib.hid hXr
      clear hcell hL1 hem
      by_cases hq : X0.length = 0
      · have hq' : ((X0.length : Int) == 0) = true := by rw [hq]; rfl
        rw [decide_eq_true hq]
        replace hq := Lib.hid hq
        go_wp2_with fail
        go_region
        all_goals
          go_wp2_with fail
          go_ret2
          exact ⟨⟨_, by simp, LsIn.nil _⟩, by have := b1.out.drew; rw [hW1] at this; exact this⟩
      · have hq' : ((X0.length : Int) == 0) = false := beq_false_of_ne (by omega)
        rw [decide_eq_false hq]
        go_wp2_with fail
        go_region
        all_goals
          go_wp2_with fail
          go_ret2
          exact ⟨⟨_, by simp, LsIn.nil _⟩, by have := b1.out.drew; rw [hW1] at this; exact this⟩
    · have hm1' : ((m : Int) == 1) = false := beq_false_of_ne (by omega)
      have hm2 : decide (m = 1) = false := decide_eq_false hm1
      rw [hm2]
      go_wp2_with fail
      go_region
      all_goals
        go_wp2_with fail
        go_ret2
        exact ⟨⟨_, by simp, LsIn.nil _⟩, by have := b1.out.drew; rw [hW1] at this; exact this⟩
  · have hnp' : ((np : Int) == 0) = false := beq_false_of_ne (by omega)
    cases va with
    | false =>
      rw [fitP_plain hnp, HM.out]
      by_cases hmn : m = np
      · have hmn' : ((m : Int) == np) = true := by rw [hmn]; simp
        rw [if_pos hmn]
        replace hmn := Lib.hid hmn
        go_wp2
        go_ret2
        rw [← hW1]
        exact ⟨⟨_, rfl, by have := hL0.out.below b1.out; rw [HM.out] at this; exact this⟩, b1.out⟩
      · have hmn' : ((m : Int) == np) = false := beq_false_of_ne (by omega)
        rw [if_neg hmn]
        go_wp2
        go_ret2
        rw [← hW1]
        exact ⟨⟨_, rfl, LsIn.nil _⟩, b1.out⟩
    | true =>
      obtain ⟨P, hP⟩ : ∃ P, np = P + 1 := ⟨np - 1, by omega⟩
      have hfd : fitP np true XX CC = if P ≤ m then (XX.take P ++ [restF P CC 0 (XX.drop P)], true) else ([], false) := by rw [hP, fitP_dots, HM.out]
      rw [hfd]
      have gP : IntKind.i64.wrap ((np : Int) - 1) = (P : Int) := by rw [IntWalk.i64_in _ (by omega)]; omega
      replace hP := Lib.hid hP
      by_cases hPm : P ≤ m
      · rw [if_pos hPm]
        have hPm' : ¬ (m : Int) < P := by omega
        have hPl : (P : Int) ≤ lcap := by omega
        have hP0 : (0 : Int) ≤ P := by omega
        have hlt : Hid (((vs.take P).map fun u => [u]).length = P) := Lib.hid (by rw [List.length_map, List.length_take, hvl.out]; omega)
        have hlcs : Hid (∀ cs ∈ (vs.take P).map (fun u => [u]), cs.length = 1) := Lib.hid (by intro cs hcs; obtain ⟨u, _, rfl⟩ := List.mem_map.1 hcs; rfl)
        have hlc1 : Hid (∀ cs ∈ (vs.take P).map (fun u => [u]), ∀ u ∈ cs, u.oneCell' = true) := Lib.hid (by
          intro cs hcs u hu
          obtain ⟨y, hy, rfl⟩ := List.mem_map.1 hcs
          simp at hu
          subst hu
          exact hv1.out _ (List.mem_of_mem_take hy))
        have hon := own_new0 W1 22 1
        have hr1 : Row (W1.alloc (.cells #[] 22)) 1 lao ((vs.take P).map fun u => [u]) := by
          rw [List.map_take]
          exact ((hlrow.out.below b1.out).below ((Below.refl _ W1).alloc (Nat.le_refl _) _)).take P
        have hlz' : lao = none → lcap = 0 := hlz.out
        go_upto_region 10 with fail
        rw [← hW1]
        replace hW1 := Lib.hid hW1
        go_wp2_with (at_builtin; go_must (refine wpList_appendN El22 rfl rfl hon rfl rfl hlt.out hlz' hr1 hlcs.out hlc1.out (by simp; omega) (by decide) (by simp) ?_); intro vE wE hownE hgE)
        have hbE1 : Hid (Below W1.heap.size W1 wE) := Lib.hid (((Below.refl _ W1).alloc (Nat.le_refl _) _).grown hgE (by simp) (by intro q hq; simp [Value.ownBlock] at hq; omega))
        have hbEw : Hid (Below w.heap.size w wE) := Lib.hid (b1.out.trans (hbE1.out.mono b1.out.size))
        replace hownE := Lib.hid hownE
        clear hon hr1 hgE
        go_loopg [10, 11] (m - P) (fun q v10 v11 wx => ∃ (j a : Nat) (Tr : List (Tm × Value)), q = m - P - j ∧ j ≤ m - P ∧ v11 = .int .i64 a ∧ Hid (P + j = a) ∧ Hid (Own wx wE.heap.size 34 8 v10 (Tr.map tvC)) ∧ Hid (RelT w Tr (restF P CC 0 ((XX.drop P).take j))) ∧ Hid (Below wE.heap.size wE wx))
        case atStart => exact ⟨0, P, [], rfl, Nat.zero_le _, rfl, Lib.hid rfl, Lib.hid (Own.nil _ _ _ _), Lib.hid ⟨rfl, by simp⟩, Lib.hid (Below.refl _ _)⟩
        case round =>
          obtain ⟨j, a, Tr, hq, hj, rfl, hja, hown, hrel, hbR⟩ := hrel
          replace hq := hq.symm
          subst hq
          have hja' := hja.out
          by_cases hjn : j < m - P
          · have ham : (a : Int) < m := by omega
            have ham' : a < m := by omega
            have f4 : Hid (m - P - (j + 1) < m - P - j) := Lib.hid (by omega)
            have g1 : IntKind.i64.wrap ((a : Int) + 1) = (a : Int) + 1 := IntWalk.i64_in _ (by omega)
            obtain ⟨Y, hY⟩ : ∃ Y, XX[a]? = some Y := ⟨_, List.getElem?_eq_getElem (by rw [HM.out]; exact ham')⟩
            obtain ⟨u, hu⟩ : ∃ u, vs[a]? = some u := ⟨_, List.getElem?_eq_getElem (by rw [hvl.out]; exact ham')⟩
            obtain ⟨ua, uc, Tu, hue, huc, huz, hurow, hurel⟩ := (hvs.out a u Y hu hY).rel
            obtain ⟨un, hun⟩ : ∃ un, un = Y.length := ⟨_, rfl⟩
            rw [← hun] at hue
            subst hue
            have hunl : un ≤ 1000 := by rw [hun]; exact hX.out Y (List.mem_of_getElem? hY)
            obtain ⟨lb, lo, hla, hlat⟩ := hlrow.out (by intro e; simp at e; rw [e] at hu; simp at hu)
            subst hla
            have hcell : Hid (∀ x, Below w.heap.size w x → x.cell? ⟨lb, lo + a, none⟩ = some (.slice ua un uc)) := Lib.hid fun x hx => by
              have hc := hlat.cell (i := a) (cs := [.slice ua un uc]) (by rw [List.getElem?_map, hu]; rfl) (j := 0) rfl
              simp only [Nat.mul_one, Nat.add_zero] at hc
              exact kept_cell hx hc
            have hl2 : Hid ((Tu.map tvC).length = un) := Lib.hid (by rw [List.length_map, hurel.1, hun])
            have hd8 := Lib.hid hurel.sl.1
            have hd1 := Lib.hid hurel.sl.2
            have hz2 := huz
            have hstep : Hid (restF P CC 0 ((XX.drop P).take (j + 1)) = restF P CC 0 ((XX.drop P).take j) ++ (if 0 < j then (CC[a - 1]?).toList else []) ++ Y) := Lib.hid (by
              have hYd : (XX.drop P)[j]? = some Y := by rw [List.getElem?_drop, hja']; exact hY
              rw [List.take_add_one, hYd]
              show restF P CC 0 (List.take j (XX.drop P) ++ [Y]) = _
              rw [restF_snoc]
              have hl : (List.take j (XX.drop P)).length = j := by rw [List.length_take, List.length_drop, HM.out]; omega
              rw [hl, Nat.zero_add, hja'])
            have hrl : (restF P CC 0 ((XX.drop P).take j)).length ≤ 1001000 := by
              have h1 := restF_len P CC (m := 1000) ((XX.drop P).take j) 0 (fun X hX' => hX.out X (List.mem_of_mem_drop (List.mem_of_mem_take hX')))
              have h2 : ((XX.drop P).take j).length ≤ 1000 := by rw [List.length_take, List.length_drop, HM.out]; omega
              have h3 : ((XX.drop P).take j).length * (1000 + 1) ≤ 1000 * (1000 + 1) := Nat.mul_le_mul_right _ h2
              omega
            replace hurel := Lib.hid hurel
            replace hurow := Lib.hid hurow
            replace hun := Lib.hid hun
            clear hlat hY hu
            by_cases hk : 0 < j ∧ a - 1 < cn
            · obtain ⟨k, hkk⟩ : ∃ k, k = a - 1 := ⟨_, rfl⟩
              have hkn : k < cn := by omega
              have hkn' : (k : Int) < cn := by omega
              have hka : (np : Int) ≤ a := by have := hP.out; omega
              have g3 : IntKind.i64.wrap ((a : Int) - 1) = (k : Int) := by rw [IntWalk.i64_in _ (by omega)]; omega
              obtain ⟨y, hy⟩ : ∃ y, CC[k]? = some y := ⟨_, List.getElem?_eq_getElem (by rw [HCn.out]; exact hkn)⟩
              obtain ⟨⟨t, v⟩, hpk⟩ : ∃ p, Tc[k]? = some p := ⟨_, List.getElem?_eq_getElem (by rw [hcrel.out.1, HCn.out]; exact hkn)⟩
              obtain ⟨hty, hsy⟩ := hcrel.out.2 k _ _ hpk hy
              obtain ⟨sa, sc, hv, _⟩ := id hsy
              obtain ⟨sn, hsn⟩ : ∃ sn, sn = y.2.length := ⟨_, rfl⟩
              simp only at hv hty
              rw [← hsn] at hv
              subst hv
              obtain ⟨cb, co, hca, hcat⟩ := hcrow.out (by intro e; simp at e; rw [e] at hpk; simp at hpk)
              subst hca
              have hcom : Hid (∀ x, Below w.heap.size w x → x.cell? ⟨cb, co + k * 8, none⟩ = some (.int .i64 t.kind) ∧ x.cell? ⟨cb, co + k * 8 + 1, none⟩ = some (.string t.text) ∧ x.cell? ⟨cb, co + k * 8 + 2, none⟩ = some (.bool t.sp) ∧ x.cell? ⟨cb, co + k * 8 + 3, none⟩ = some (.string t.file) ∧ x.cell? ⟨cb, co + k * 8 + 4, none⟩ = some (.int .i64 t.f) ∧ x.cell? ⟨cb, co + k * 8 + 5, none⟩ = some (.int .i64 t.t) ∧ x.cell? ⟨cb, co + k * 8 + 6, none⟩ = some (.bool t.made) ∧ x.cell? ⟨cb, co + k * 8 + 7, none⟩ = some (.slice sa sn sc)) := Lib.hid fun x hx => tok8 (tok_at (hcat.below hx) hpk)
              have hrc : Hid (RelT w (Tr ++ [(t, .slice sa sn sc)]) (restF P CC 0 ((XX.drop P).take j) ++ [y])) := Lib.hid (hrel.out.app ⟨rfl, fun i p x hp hx => by
                cases i with
                | zero =>
                  simp at hp hx
                  subst hp hx
                  exact ⟨hty, hsy⟩
                | succ i => simp at hp⟩)
              obtain ⟨TrC, hTrC⟩ : ∃ TrC : List (Tm × Value), TrC = Tr ++ [(t, Value.slice sa sn sc)] := ⟨_, rfl⟩
              rw [← hTrC] at hrc
              replace hTrC := Lib.hid hTrC
              have hst2 : Hid (restF P CC 0 ((XX.drop P).take (j + 1)) = (restF P CC 0 ((XX.drop P).take j) ++ [y]) ++ Y) := Lib.hid (by rw [hstep.out, if_pos hk.1, ← hkk, hy]; rfl)
              have hRlC : (restF P CC 0 ((XX.drop P).take j) ++ [y]).length ≤ 1002000 := by rw [List.length_append, List.length_singleton]; omega
              replace hkk := Lib.hid hkk
              replace hsn := Lib.hid hsn
              clear hcat hpk hy hty hsy hk hja'
              obtain ⟨nac, ncc, hv8c, _, _, hnrowc, hnnilc⟩ := hown.out.rown (n := Tr.length) (by simp)
              have hnlc : Tr.length ≤ 1002000 := by rw [hrel.out.1]; omega
              obtain ⟨nnc, hnnc⟩ : ∃ nnc, nnc = Tr.length := ⟨_, rfl⟩
              rw [← hnnc] at hv8c hnlc
              subst hv8c
              have hltkc : Hid ((Tr.map tvC).length = nnc) := Lib.hid (by rw [List.length_map, hnnc])
              have hznc : nac = none → ncc = 0 := fun h => (hnnilc h).2
              have hcs8c := Lib.hid hrel.out.sl.1
              have hcs1c := Lib.hid hrel.out.sl.2
              have hlen2c : ([] ++ Tr.map tvC).length + 1 ≤ 1000000000 := by rw [List.nil_append, hltkc.out]; omega
              have HFc : Hid (∀ x, Below wr.heap.size wr x → (x.cell? ⟨cb, co + k * 8, none⟩ = some (.int .i64 t.kind) ∧ x.cell? ⟨cb, co + k * 8 + 1, none⟩ = some (.string t.text) ∧ x.cell? ⟨cb, co + k * 8 + 2, none⟩ = some (.bool t.sp) ∧ x.cell? ⟨cb, co + k * 8 + 3, none⟩ = some (.string t.file) ∧ x.cell? ⟨cb, co + k * 8 + 4, none⟩ = some (.int .i64 t.f) ∧ x.cell? ⟨cb, co + k * 8 + 5, none⟩ = some (.int .i64 t.t) ∧ x.cell? ⟨cb, co + k * 8 + 6, none⟩ = some (.bool t.made) ∧ x.cell? ⟨cb, co + k * 8 + 7, none⟩ = some (.slice sa sn sc)) ∧ Row x 8 nac (Tr.map tvC)) := Lib.hid fun x hx => ⟨hcom.out x ((hbEw.out.trans (hbR.out.mono hbEw.out.size)).trans (hx.mono (hbEw.out.trans (hbR.out.mono hbEw.out.size)).size)), hnrowc.below hx⟩
              have hd0c' := (HFc.out _ (Below.refl wr.heap.size wr).drew).1
              have hd1c' := fun ob => (HFc.out ((wr.alloc ob).drew) ((Below.refl _ wr).alloc (Nat.le_refl _) ob).drew).1
              have hd2c' := fun ob ob' => (HFc.out (((wr.alloc ob).alloc ob').drew) (((Below.refl _ wr).alloc (Nat.le_refl _) ob).alloc (by simp) ob').drew).1
              replace hnnc := Lib.hid hnnc
              go_upto_region 16 with fail
              go_region_held3 (fun x : World => x.cell? ⟨cb, co + k * 8, none⟩ = some (.int .i64 t.kind) ∧ x.cell? ⟨cb, co + k * 8 + 1, none⟩ = some (.string t.text) ∧ x.cell? ⟨cb, co + k * 8 + 2, none⟩ = some (.bool t.sp) ∧ x.cell? ⟨cb, co + k * 8 + 3, none⟩ = some (.string t.file) ∧ x.cell? ⟨cb, co + k * 8 + 4, none⟩ = some (.int .i64 t.f) ∧ x.cell? ⟨cb, co + k * 8 + 5, none⟩ = some (.int .i64 t.t) ∧ x.cell? ⟨cb, co + k * 8 + 6, none⟩ = some (.bool t.made) ∧ x.cell? ⟨cb, co + k * 8 + 7, none⟩ = some (.slice sa sn sc)) (first | with_reducible exact hd0c' | with_reducible exact hd1c' _ | with_reducible exact hd2c' _ _ | with_reducible exact hx8c | with_reducible exact hx9c _ | with_reducible exact hx10c | with_reducible assumption) (first
                  | (refine step_append1 E34 rfl rfl hown8c rfl rfl hc8c rfl (by simp [Value.oneCell']) hlen2c (by decide) hb8c.size ?_; intro v9c w9c hown9c hg9c; have hb9c : Below wr.heap.size wr w9c := bapp hb8c hown8c hg9c hb8c.size; have hx10c := (HFc.out w9c hb9c).1)
                  | (refine step_append1 E34 rfl rfl (hown8c.alloc _) rfl rfl (heap_alloc_new w8c _) rfl (by simp [Value.oneCell']) hlen2c (by decide) (by have := hb8c.size; simp; omega) ?_; intro v9c w9c hown9c hg9c; have hb9c : Below wr.heap.size wr w9c := bapp (hb8c.alloc hb8c.size _) (hown8c.alloc _) hg9c (by have := hb8c.size; simp; omega); have hx10c := (HFc.out w9c hb9c).1)
                  | (refine step_appendN E34 rfl rfl (Own.drew (own_new0 wr _ _)) rfl rfl hltkc.out hznc (HFc.out _ ((Below.refl _ wr).alloc (Nat.le_refl _) _).drew).2 hcs8c.out hcs1c.out (by simp; omega) (by decide) (by simp) ?_; intro v8c w8c hown8c hg8c; have hb8c : Below wr.heap.size wr w8c := ((Below.refl _ wr).alloc (Nat.le_refl _) _).drew.grown hg8c (by simp) (by intro q hq; simp [Value.ownBlock] at hq; omega); have hx8c := (HFc.out w8c hb8c).1; have hx9c := fun ob => (HFc.out (w8c.alloc ob) (hb8c.alloc hb8c.size ob)).1)
                  | (refine step_appendN E34 rfl rfl (Own.drew ((own_new0 wr _ _).alloc _)) rfl rfl hltkc.out hznc (HFc.out _ (((Below.refl _ wr).alloc (Nat.le_refl _) _).alloc (by simp) _).drew).2 hcs8c.out hcs1c.out (by simp; omega) (by decide) (by simp; omega) ?_; intro v8c w8c hown8c hg8c; have hb8c : Below wr.heap.size wr w8c := (((Below.refl _ wr).alloc (Nat.le_refl _) _).alloc (by simp) _).drew.grown hg8c (by simp; omega) (by intro q hq; simp [Value.ownBlock] at hq; omega); have hx8c := (HFc.out w8c hb8c).1; have hc8c : w8c.heap[wr.heap.size + 1]? = some (.cells #[.int .i64 t.kind, .string t.text, .bool t.sp, .string t.file, .int .i64 t.f, .int .i64 t.t, .bool t.made, .slice sa sn sc] 34 (0, 0)) := (hg8c.block (wr.heap.size + 1) (by simp) (by simp [Value.ownBlock])).trans (new_two _ _ _ _ _))
                  | (refine step_appendN E34 rfl rfl (Own.drew (own_new1 wr _ _ _)) rfl rfl hltkc.out hznc (HFc.out _ (((Below.refl _ wr).alloc (Nat.le_refl _) _).alloc (by simp) _).drew).2 hcs8c.out hcs1c.out (by simp; omega) (by decide) (by simp; omega) ?_; intro v8c w8c hown8c hg8c; have hb8c : Below wr.heap.size wr w8c := (((Below.refl _ wr).alloc (Nat.le_refl _) _).alloc (by simp) _).drew.grown hg8c (by simp; omega) (by intro q hq; simp [Value.ownBlock] at hq; omega); have hx8c := (HFc.out w8c hb8c).1; have hc8c : w8c.heap[wr.heap.size]? = some (.cells #[.int .i64 t.kind, .string t.text, .bool t.sp, .string t.file, .int .i64 t.f, .int .i64 t.t, .bool t.made, .slice sa sn sc] 34 (0, 0)) := (hg8c.block wr.heap.size (by simp; omega) (by simp [Value.ownBlock])).trans (new_one _ _ _ _ _)))
              all_goals
                have hownC : Hid (Own w9c wr.heap.size 34 8 v9c (TrC.map tvC)) := Lib.hid (by rw [hTrC.out, List.map_append]; simpa [tvC, tmC] using hown9c)
                have hbC : Hid (Below wE.heap.size wE w9c) := Lib.hid (hbR.out.trans (hb9c.mono hbR.out.size))
                clear hown8c hown9c hb8c hd0c' hd1c' hd2c' HFc
                obtain ⟨naC, ncC, hv8C, _, _, hnrowC, hnnilC⟩ := hownC.out.rown (n := (TrC).length) (by simp)
                have hnlC : (TrC).length ≤ 1002000 := by rw [hrc.out.1]; exact hRlC
                obtain ⟨nnC, hnnC⟩ : ∃ nnC, nnC = (TrC).length := ⟨_, rfl⟩
                rw [← hnnC] at hv8C hnlC
                subst hv8C
                have hltkC : Hid ((((TrC)).map tvC).length = nnC) := Lib.hid (by rw [List.length_map, hnnC])
                have hznC : naC = none → ncC = 0 := fun h => (hnnilC h).2
                have hcs8C := Lib.hid hrc.out.sl.1
                have hcs1C := Lib.hid hrc.out.sl.2
                have hlen3C : ([] ++ (TrC).map tvC).length + un ≤ 1000000000 := by rw [List.nil_append, hltkC.out]; omega
                have hwWC := hbC
                have HFC : Hid (∀ x, Below w9c.heap.size w9c x → x.cell? ⟨lb, lo + a, none⟩ = some (.slice ua un uc) ∧ Row x 8 naC ((TrC).map tvC) ∧ Row x 8 ua (Tu.map tvC)) := Lib.hid fun x hx => ⟨hcell.out x ((hbEw.out.trans (hwWC.out.mono hbEw.out.size)).trans (hx.mono (hbEw.out.trans (hwWC.out.mono hbEw.out.size)).size)), hnrowC.below hx, hurow.out.below ((hbEw.out.trans (hwWC.out.mono hbEw.out.size)).trans (hx.mono (hbEw.out.trans (hwWC.out.mono hbEw.out.size)).size))⟩
                have hd0C' := (HFC.out _ (Below.refl w9c.heap.size w9c).drew).1
                have hd1C' := fun ob => (HFC.out ((w9c.alloc ob).drew) ((Below.refl _ w9c).alloc (Nat.le_refl _) ob).drew).1
                have hd2C' := fun ob ob' => (HFC.out (((w9c.alloc ob).alloc ob').drew) (((Below.refl _ w9c).alloc (Nat.le_refl _) ob).alloc (by simp) ob').drew).1
                replace hnnC := Lib.hid hnnC
                go_upto_region 17 with fail
                go_region_held3 (fun x : World => x.cell? ⟨lb, lo + a, none⟩ = some (.slice ua un uc)) (first | with_reducible exact hd0C' | with_reducible exact hd1C' _ | with_reducible exact hd2C' _ _ | with_reducible exact hx8C | with_reducible exact hx10C | with_reducible assumption) (first
                    | (refine step_appendN E34 rfl rfl hown8C rfl rfl hl2.out hz2 (HFC.out w8C hb8C).2.2 hd8.out hd1.out hlen3C (by decide) hb8C.size ?_; intro v9C w9C hown9C hg9C; have hb9C : Below w9c.heap.size w9c w9C := bapp hb8C hown8C hg9C hb8C.size; have hx10C := (HFC.out w9C hb9C).1)
                    | (refine step_appendN E34 rfl rfl (Own.drew (own_new0 w9c _ _)) rfl rfl hltkC.out hznC (HFC.out _ ((Below.refl _ w9c).alloc (Nat.le_refl _) _).drew).2.1 hcs8C.out hcs1C.out (by simp; omega) (by decide) (by simp) ?_; intro v8C w8C hown8C hg8C; have hb8C : Below w9c.heap.size w9c w8C := ((Below.refl _ w9c).alloc (Nat.le_refl _) _).drew.grown hg8C (by simp) (by intro q hq; simp [Value.ownBlock] at hq; omega); have hx8C := (HFC.out w8C hb8C).1))
                all_goals
                  replace hown9C := Lib.hid hown9C
                  replace hb9C := Lib.hid hb9C
                  go_wp2_with fail
                  go_roundg (m - P - (j + 1))
                  case measure => exact f4.out
                  case rel => exact ⟨j + 1, a + 1, TrC ++ Tu, rfl, hjn, by simp, Lib.hid (by have := hja.out; omega), Lib.hid (by rw [List.map_append]; simpa using hown9C.out.mono hwWC.out.size), Lib.hid (by rw [hst2.out]; exact hrc.out.app hurel.out), Lib.hid (hwWC.out.trans (hb9C.out.mono hwWC.out.size))⟩
            · have hRlD : (restF P CC 0 ((XX.drop P).take j)).length ≤ 1002000 := by omega
              have hst2 : Hid (restF P CC 0 ((XX.drop P).take (j + 1)) = restF P CC 0 ((XX.drop P).take j) ++ Y) := Lib.hid (by
                rw [hstep.out]
                by_cases h0 : 0 < j
                · rw [if_pos h0, List.getElem?_eq_none (by rw [HCn.out]; omega)]
                  simp
                · rw [if_neg h0]
                  simp)
              by_cases h0 : 0 < j
              · have hka : (np : Int) ≤ a := by have := hP.out; omega
                have hkn' : ¬ ((a - 1 : Nat) : Int) < cn := by omega
                have g3 : IntKind.i64.wrap ((a : Int) - 1) = ((a - 1 : Nat) : Int) := by rw [IntWalk.i64_in _ (by omega)]; omega
                clear hja' hk
                obtain ⟨naD, ncD, hv8D, _, _, hnrowD, hnnilD⟩ := hown.out.rown (n := (Tr).length) (by simp)
                have hnlD : (Tr).length ≤ 1002000 := by rw [hrel.out.1]; exact hRlD
                obtain ⟨nnD, hnnD⟩ : ∃ nnD, nnD = (Tr).length := ⟨_, rfl⟩
                rw [← hnnD] at hv8D hnlD
                subst hv8D
                have hltkD : Hid ((((Tr)).map tvC).length = nnD) := Lib.hid (by rw [List.length_map, hnnD])
                have hznD : naD = none → ncD = 0 := fun h => (hnnilD h).2
                have hcs8D := Lib.hid hrel.out.sl.1
                have hcs1D := Lib.hid hrel.out.sl.2
                have hlen3D : ([] ++ (Tr).map tvC).length + un ≤ 1000000000 := by rw [List.nil_append, hltkD.out]; omega
                have hwWD := hbR
                have HFD : Hid (∀ x, Below wr.heap.size wr x → x.cell? ⟨lb, lo + a, none⟩ = some (.slice ua un uc) ∧ Row x 8 naD ((Tr).map tvC) ∧ Row x 8 ua (Tu.map tvC)) := Lib.hid fun x hx => ⟨hcell.out x ((hbEw.out.trans (hwWD.out.mono hbEw.out.size)).trans (hx.mono (hbEw.out.trans (hwWD.out.mono hbEw.out.size)).size)), hnrowD.below hx, hurow.out.below ((hbEw.out.trans (hwWD.out.mono hbEw.out.size)).trans (hx.mono (hbEw.out.trans (hwWD.out.mono hbEw.out.size)).size))⟩
                have hd0D' := (HFD.out _ (Below.refl wr.heap.size wr).drew).1
                have hd1D' := fun ob => (HFD.out ((wr.alloc ob).drew) ((Below.refl _ wr).alloc (Nat.le_refl _) ob).drew).1
                have hd2D' := fun ob ob' => (HFD.out (((wr.alloc ob).alloc ob').drew) (((Below.refl _ wr).alloc (Nat.le_refl _) ob).alloc (by simp) ob').drew).1
                replace hnnD := Lib.hid hnnD
                go_upto_region 17 with fail
                go_region_held3 (fun x : World => x.cell? ⟨lb, lo + a, none⟩ = some (.slice ua un uc)) (first | with_reducible exact hd0D' | with_reducible exact hd1D' _ | with_reducible exact hd2D' _ _ | with_reducible exact hx8D | with_reducible exact hx10D | with_reducible assumption) (first
                    | (refine step_appendN E34 rfl rfl hown8D rfl rfl hl2.out hz2 (HFD.out w8D hb8D).2.2 hd8.out hd1.out hlen3D (by decide) hb8D.size ?_; intro v9D w9D hown9D hg9D; have hb9D : Below wr.heap.size wr w9D := bapp hb8D hown8D hg9D hb8D.size; have hx10D := (HFD.out w9D hb9D).1)
                    | (refine step_appendN E34 rfl rfl (Own.drew (own_new0 wr _ _)) rfl rfl hltkD.out hznD (HFD.out _ ((Below.refl _ wr).alloc (Nat.le_refl _) _).drew).2.1 hcs8D.out hcs1D.out (by simp; omega) (by decide) (by simp) ?_; intro v8D w8D hown8D hg8D; have hb8D : Below wr.heap.size wr w8D := ((Below.refl _ wr).alloc (Nat.le_refl _) _).drew.grown hg8D (by simp) (by intro q hq; simp [Value.ownBlock] at hq; omega); have hx8D := (HFD.out w8D hb8D).1))
                all_goals
                  replace hown9D := Lib.hid hown9D
                  replace hb9D := Lib.hid hb9D
                  go_wp2_with fail
                  go_roundg (m - P - (j + 1))
                  case measure => exact f4.out
                  case rel => exact ⟨j + 1, a + 1, Tr ++ Tu, rfl, hjn, by simp, Lib.hid (by have := hja.out; omega), Lib.hid (by rw [List.map_append]; simpa using hown9D.out.mono hwWD.out.size), Lib.hid (by rw [hst2.out]; exact hrel.out.app hurel.out), Lib.hid (hwWD.out.trans (hb9D.out.mono hwWD.out.size))⟩
              · have hka : ¬ (np : Int) ≤ a := by have := hP.out; omega
                have hka2 : (a : Int) < np := by have := hP.out; omega
                clear hja' hk
                obtain ⟨naD, ncD, hv8D, _, _, hnrowD, hnnilD⟩ := hown.out.rown (n := (Tr).length) (by simp)
                have hnlD : (Tr).length ≤ 1002000 := by rw [hrel.out.1]; exact hRlD
                obtain ⟨nnD, hnnD⟩ : ∃ nnD, nnD = (Tr).length := ⟨_, rfl⟩
                rw [← hnnD] at hv8D hnlD
                subst hv8D
                have hltkD : Hid ((((Tr)).map tvC).length = nnD) := Lib.hid (by rw [List.length_map, hnnD])
                have hznD : naD = none → ncD = 0 := fun h => (hnnilD h).2
                have hcs8D := Lib.hid hrel.out.sl.1
                have hcs1D := Lib.hid hrel.out.sl.2
                have hlen3D : ([] ++ (Tr).map tvC).length + un ≤ 1000000000 := by rw [List.nil_append, hltkD.out]; omega
                have hwWD := hbR
                have HFD : Hid (∀ x, Below wr.heap.size wr x → x.cell? ⟨lb, lo + a, none⟩ = some (.slice ua un uc) ∧ Row x 8 naD ((Tr).map tvC) ∧ Row x 8 ua (Tu.map tvC)) := Lib.hid fun x hx => ⟨hcell.out x ((hbEw.out.trans (hwWD.out.mono hbEw.out.size)).trans (hx.mono (hbEw.out.trans (hwWD.out.mono hbEw.out.size)).size)), hnrowD.below hx, hurow.out.below ((hbEw.out.trans (hwWD.out.mono hbEw.out.size)).trans (hx.mono (hbEw.out.trans (hwWD.out.mono hbEw.out.size)).size))⟩
                have hd0D' := (HFD.out _ (Below.refl wr.heap.size wr).drew).1
                have hd1D' := fun ob => (HFD.out ((wr.alloc ob).drew) ((Below.refl _ wr).alloc (Nat.le_refl _) ob).drew).1
                have hd2D' := fun ob ob' => (HFD.out (((wr.alloc ob).alloc ob').drew) (((Below.refl _ wr).alloc (Nat.le_refl _) ob).alloc (by simp) ob').drew).1
                replace hnnD := Lib.hid hnnD
                go_upto_region 17 with fail
                go_region_held3 (fun x : World => x.cell? ⟨lb, lo + a, none⟩ = some (.slice ua un uc)) (first | with_reducible exact hd0D' | with_reducible exact hd1D' _ | with_reducible exact hd2D' _ _ | with_reducible exact hx8D | with_reducible exact hx10D | with_reducible assumption) (first
                    | (refine step_appendN E34 rfl rfl hown8D rfl rfl hl2.out hz2 (HFD.out w8D hb8D).2.2 hd8.out hd1.out hlen3D (by decide) hb8D.size ?_; intro v9D w9D hown9D hg9D; have hb9D : Below wr.heap.size wr w9D := bapp hb8D hown8D hg9D hb8D.size; have hx10D := (HFD.out w9D hb9D).1)
                    | (refine step_appendN E34 rfl rfl (Own.drew (own_new0 wr _ _)) rfl rfl hltkD.out hznD (HFD.out _ ((Below.refl _ wr).alloc (Nat.le_refl _) _).drew).2.1 hcs8D.out hcs1D.out (by simp; omega) (by decide) (by simp) ?_; intro v8D w8D hown8D hg8D; have hb8D : Below wr.heap.size wr w8D := ((Below.refl _ wr).alloc (Nat.le_refl _) _).drew.grown hg8D (by simp) (by intro q hq; simp [Value.ownBlock] at hq; omega); have hx8D := (HFD.out w8D hb8D).1))
                all_goals
                  replace hown9D := Lib.hid hown9D
                  replace hb9D := Lib.hid hb9D
                  go_wp2_with fail
                  go_roundg (m - P - (j + 1))
                  case measure => exact f4.out
                  case rel => exact ⟨j + 1, a + 1, Tr ++ Tu, rfl, hjn, by simp, Lib.hid (by have := hja.out; omega), Lib.hid (by rw [List.map_append]; simpa using hown9D.out.mono hwWD.out.size), Lib.hid (by rw [hst2.out]; exact hrel.out.app hurel.out), Lib.hid (hwWD.out.trans (hb9D.out.mono hwWD.out.size))⟩
          · have ham : ¬ (a : Int) < m := by omega
            have hjm : (XX.drop P).take j = XX.drop P := List.take_of_length_le (by rw [List.length_drop, HM.out]; omega)
            rw [hjm] at hrel
            obtain ⟨na, nc, hv10, _⟩ := hown.out.rown (n := Tr.length) (by simp)
            obtain ⟨nn, hnn⟩ : ∃ nn, nn = Tr.length := ⟨_, rfl⟩
            rw [← hnn] at hv10
            subst hv10
            replace hnn := Lib.hid hnn
            have hoE := hownE.out.below hbR.out
            have hsE : W1.heap.size ≤ wr.heap.size := Nat.le_trans hbE1.out.size hbR.out.size
            have hlenE : ([] ++ (vs.take P).map fun u => [u]).length + 1 ≤ 1000000000 := by rw [List.nil_append, hlt.out]; omega
            clear hja'
            go_wp2_with (at_builtin; go_must (refine wpList_append1 El22 rfl rfl hoE rfl rfl (news := [.slice na nn nc]) (by simp) rfl (by simp [Value.oneCell']) hlenE (by decide) hsE ?_); intro vF wF hownF hgF)
            go_ret2
            have hbF := bapp (hbE1.out.trans (hbR.out.mono hbE1.out.size)) hoE hgF hsE
            have hbWF := b1.out.trans (hbF.mono b1.out.size)
            refine ⟨⟨_, rfl, ?_⟩, hbWF⟩
            have hoT := hown.out.kept hgF (own_apart hown.out hoE (by decide))
            have hlF : (XX.take P ++ [restF P CC 0 (XX.drop P)]).length = P + 1 := by rw [List.length_append, List.length_take, HM.out, List.length_singleton, Nat.min_eq_left hPm]
            have hownF' : Own wF W1.heap.size 22 1 vF ((vs.take P ++ [Value.slice na nn nc]).map fun u => [u]) := by rw [List.map_append]; simpa using hownF
            obtain ⟨fa, fc, hvF, f1, f2, f3, f5⟩ := hownF'.rown (n := (XX.take P ++ [restF P CC 0 (XX.drop P)]).length) (by rw [hlF, List.length_map, List.length_append, List.length_take, hvl.out, List.length_singleton, Nat.min_eq_left hPm])
            refine ⟨fa, fc, vs.take P ++ [Value.slice na nn nc], hvF, f1, f2, f3, by rw [hlF, List.length_append, List.length_take, hvl.out, List.length_singleton, Nat.min_eq_left hPm], fun i u X hu' hX' => ?_, fun e => (f5 e).2⟩
            by_cases hi : i < P
            · rw [List.getElem?_append_left (by rw [List.length_take, hvl.out]; omega), List.getElem?_take, if_pos hi] at hu'
              rw [List.getElem?_append_left (by rw [List.length_take, HM.out]; omega), List.getElem?_take, if_pos hi] at hX'
              exact (hvs.out i u X hu' hX').below hbWF
            · rw [List.getElem?_append_right (by rw [List.length_take, hvl.out]; omega)] at hu'
              rw [List.getElem?_append_right (by rw [List.length_take, HM.out]; omega)] at hX'
              rw [List.length_take, hvl.out, Nat.min_eq_left hPm] at hu'
              rw [List.length_take, HM.out, Nat.min_eq_left hPm] at hX'
              have h0 : i - P = 0 := by
                have := (List.getElem?_eq_some_iff.1 hu').1
                simp at this; omega
              rw [h0] at hu' hX'
              simp at hu' hX'
              subst hu' hX'
              exact hrel.out.toks hoT hbWF
      · have hPm' : (m : Int) < P := by omega
        rw [if_neg hPm]
        go_wp2
        go_ret2
        rw [← hW1]
        exact ⟨⟨_, rfl, LsIn.nil _⟩, b1.out⟩
end Go.Proofs.YtfaoamdlknlgpaaGreat
