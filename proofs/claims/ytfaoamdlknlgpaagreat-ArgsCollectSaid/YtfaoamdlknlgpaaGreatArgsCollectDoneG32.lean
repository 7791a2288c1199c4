/- Texts of this seat's proofs, laid into one file. -/
import Derived.Test.YtfaoamdlknlgpaaGreatArgsCollectDoneG30
/- The document's Collect: the walk itself. -/
namespace Go.Proofs.YtfaoamdlknlgpaaGreat
open Go.RowKit
set_option linter.unusedVariables false

set_option maxRecDepth 100000 in
set_option maxHeartbeats 4000000 in
theorem rCollect_any (X : List Tf) (T : List (Tm × Value)) (ao : Option Addr) (cap : Nat) (hn : T.length ≤ 1000) (hcap : T.length ≤ cap) (w : World) (hrow : Row w 8 ao (T.map tvC)) (hTX : T.length = X.length) (hs : ∀ (i : Nat) p x, T[i]? = some p → X[i]? = some x → p.1 = x.1 ∧ SiteIn w p.2 x.2) :
    Calls Tryz.prog 25 #[.slice ao T.length cap] w fun e w' => RcPost (colP X) e w' ∧ Below w.heap.size w w' := by
  have hTXm : T.map (·.1) = X.map (·.1) := by
    apply List.ext_getElem?
    intro i
    rw [List.getElem?_map, List.getElem?_map]
    cases hi : T[i]? with
    | none =>
      rw [List.getElem?_eq_none_iff, hTX, ← List.getElem?_eq_none_iff] at hi
      rw [hi]; rfl
    | some p =>
      obtain ⟨x, hx⟩ : ∃ x, X[i]? = some x := ⟨_, List.getElem?_eq_getElem (by rw [← hTX]; exact (List.getElem?_eq_some_iff.1 hi).1)⟩
      rw [hx]
      simp [(hs i p x hi hx).1]
  obtain ⟨n, hnn⟩ : ∃ n, n = T.length := ⟨_, rfl⟩
  have HN : Hid (T.length = n) := Lib.hid hnn.symm
  rw [← hnn] at hn hcap ⊢
  clear hnn
  have HNo := Lib.hid (fun (h : partsL (X.map (·.1)) = none) W => rc_none h W)
  have HYes := Lib.hid (fun (w' : World) (i fr : Nat) (out : List (Nat × Nat)) (v7 v9 : Value) (hb : Below w.heap.size w w') hR h => rc_some (X := X) (T := T) (w := w) (w' := w') (B := w.heap.size) (i := i) (fr := fr) (out := out) (v7 := v7) (v9 := v9) hTX hs hb hR h)
  obtain ⟨R, hR⟩ : ∃ R, R = partsL (X.map (·.1)) := ⟨_, rfl⟩
  rw [← hR] at HNo HYes
  rw [← hTXm] at hR
  have hsl : Hid (∀ p ∈ T, SlV p.2) := Lib.hid (by
    intro p hp
    obtain ⟨i, hi⟩ := List.getElem?_of_mem hp
    obtain ⟨x, hx⟩ : ∃ x, X[i]? = some x := ⟨_, List.getElem?_eq_getElem (by rw [← hTX]; exact (List.getElem?_eq_some_iff.1 hi).1)⟩
    obtain ⟨sa, sc, hv, _⟩ := (hs i p x hi hx).2
    exact ⟨sa, _, sc, hv⟩)
  clear hs hTX hTXm
  replace hrow := Lib.hid hrow
  by_cases h0 : n = 0
  · have hT0 : T = [] := List.eq_nil_of_length_eq_zero (by rw [HN.out, h0])
    have hRn : R = none := by rw [hR, hT0]; rfl
    have HN2 := HNo.out hRn
    have h0b : ((n : Int) == 0) = true := by rw [h0]; rfl
    replace HN2 := Lib.hid HN2
    replace h0 := Lib.hid h0
    replace hT0 := Lib.hid hT0
    clear hR hRn HNo HYes
    go_enter Tryz.func25, Tryz.ntmps25
    go_wp2
    (try simp only [Exit.inBlock, Exit.then])
    refine bodyPost_ret (results_tmp4 rfl _ _ _) rfl ?_
    exact ⟨HN2.out w, Below.refl _ _⟩
  have h0b : ((n : Int) == 0) = false := beq_false_of_ne (by omega)
  have hn0 : (0 : Int) < n := by omega
  have hn0' : 0 < n := by omega
  obtain ⟨tb, tq, rfl, hat⟩ := hrow.out (by intro h; have h2 := HN.out; simp at h; rw [h] at h2; simp at h2; omega)
  have HT : Hid (∀ i, i < n → ∃ (t : Tm) (sa : Option Addr) (sn sc : Nat), T[i]? = some (t, .slice sa sn sc) ∧ Tok8 w tb (tq + i * 8) t (.slice sa sn sc)) := Lib.hid fun i hi => by
    obtain ⟨⟨t, v⟩, hp⟩ : ∃ p, T[i]? = some p := ⟨_, List.getElem?_eq_getElem (by rw [HN.out]; exact hi)⟩
    obtain ⟨sa, sn, sc, hv⟩ := hsl.out _ (List.mem_of_getElem? hp)
    simp only at hv
    subst hv
    exact ⟨t, sa, sn, sc, hp, tok8 (tok_at hat hp)⟩
  clear hat
  obtain ⟨t0, sa0, sn0, sc0, hp0, k0⟩ := HT.out 0 hn0'
  have hd0 : T.map (·.1) = t0 :: (T.map (·.1)).drop 1 := by
    cases T with
    | nil => simp at hp0
    | cons x r => simp at hp0; subst hp0; rfl
  rw [Nat.zero_mul, Nat.add_zero] at k0
  obtain ⟨q0, q1, q2, q3, q4, q5, q6, q7⟩ := k0
  have HI0 := Lib.hid (fun W => rIs_any t0 (.slice sa0 sn0 sc0) sOpen W)
  unfold tmC at HI0
  cases ho : isP t0 sOpen with
  | false =>
    have hRn : R = none := by rw [hR, hd0]; show (if isP t0 sOpen = true then _ else none) = none; rw [ho]; rfl
    rw [ho] at HI0
    have HN2 := Lib.hid (HNo.out hRn)
    clear hR hRn HNo HYes hd0 hp0 ho
    go_enter Tryz.func25, Tryz.ntmps25
    go_wp2_with fail
    refine (HI0.out _).mono ?_
    rintro e w1 ⟨rfl, b1⟩
    replace b1 := Lib.hid b1
    go_wp2
    (try simp only [Exit.inBlock, Exit.then])
    refine bodyPost_ret (results_tmp4 rfl _ _ _) rfl ?_
    exact ⟨HN2.out w1, b1.out⟩
  | true =>
    have hR1 : Hid (partsR ((T.map (·.1)).drop 1) 1 (0 + 1) 1 [] = R) := Lib.hid (by
      rw [hR]
      conv => rhs; rw [hd0]
      show _ = (if isP t0 sOpen = true then partsR ((T.map (·.1)).drop 1) 1 1 1 [] else none)
      rw [ho]; rfl)
    rw [ho] at HI0
    clear hR hd0 hp0 ho
    go_enter Tryz.func25, Tryz.ntmps25
    go_wp2_with fail
    refine (HI0.out _).mono ?_
    rintro e w1 ⟨rfl, b1⟩
    clear q0 q1 q2 q3 q4 q5 q6 q7
    replace b1 := Lib.hid b1
    go_wp2_with fail
    go_loopg [6, 7, 8, 9, 10] (n - 1) (fun q v6 v7 v8 v9 v10 wx => ∃ (i D fr : Nat) (out : List (Nat × Nat)), q = n - i ∧ i ≤ n ∧ D ≤ i ∧ 1 ≤ fr ∧ fr ≤ i ∧ out.length ≤ i ∧ v6 = .int .i64 D ∧ v10 = .int .i64 i ∧ Hid (RcSt T w.heap.size i fr out v7 v8 v9 wx) ∧ Hid (partsR ((T.map (·.1)).drop i) i (D + 1) fr out = R) ∧ Hid (Below w.heap.size w wx))
    case atStart =>
      exact ⟨1, 0, 1, [], rfl, by omega, Nat.zero_le _, Nat.le_refl _, Nat.le_refl _, Nat.zero_le _, rfl, rfl, Lib.hid ⟨by rw [cutT_none]; exact Own.nil _ _ _ _, ⟨[], Own.nil _ _ _ _, rfl, by simp, by simp⟩, Own.nil _ _ _ _, by intro k hk; simp [Value.ownBlock] at hk⟩, hR1, b1⟩
    case round =>
      clear hR1 b1
      obtain ⟨i, D, fr, out, hq, hi, hDi, hf1, hfi, hol, rfl, rfl, hst, hR, hb⟩ := hrel
      replace hq := hq.symm
      subst hq
      have hsB := hb.out.size
      by_cases hin : i < n
      · have hin' : (i : Int) < n := by omega
        have f4 : Hid (n - (i + 1) < n - i) := Lib.hid (by omega)
        have g1 : IntKind.i64.wrap ((i : Int) + 1) = (i : Int) + 1 := IntWalk.i64_in _ (by omega)
        have g2 : IntKind.i64.wrap ((D : Int) + 1) = (D : Int) + 1 := IntWalk.i64_in _ (by omega)
        obtain ⟨t, sa, sn, sc, hp, hk8⟩ := HT.out i hin
        have HFw : Hid (∀ x, Below w.heap.size w x → x.cell? ⟨tb, tq + i * 8, none⟩ = some (.int .i64 t.kind) ∧ x.cell? ⟨tb, tq + i * 8 + 1, none⟩ = some (.string t.text) ∧ x.cell? ⟨tb, tq + i * 8 + 2, none⟩ = some (.bool t.sp) ∧ x.cell? ⟨tb, tq + i * 8 + 3, none⟩ = some (.string t.file) ∧ x.cell? ⟨tb, tq + i * 8 + 4, none⟩ = some (.int .i64 t.f) ∧ x.cell? ⟨tb, tq + i * 8 + 5, none⟩ = some (.int .i64 t.t) ∧ x.cell? ⟨tb, tq + i * 8 + 6, none⟩ = some (.bool t.made) ∧ x.cell? ⟨tb, tq + i * 8 + 7, none⟩ = some (.slice sa sn sc)) := Lib.hid fun x hx => hk8.below hx
        have HFt : Hid (∀ x, Below wr.heap.size wr x → x.cell? ⟨tb, tq + i * 8, none⟩ = some (.int .i64 t.kind) ∧ x.cell? ⟨tb, tq + i * 8 + 1, none⟩ = some (.string t.text) ∧ x.cell? ⟨tb, tq + i * 8 + 2, none⟩ = some (.bool t.sp) ∧ x.cell? ⟨tb, tq + i * 8 + 3, none⟩ = some (.string t.file) ∧ x.cell? ⟨tb, tq + i * 8 + 4, none⟩ = some (.int .i64 t.f) ∧ x.cell? ⟨tb, tq + i * 8 + 5, none⟩ = some (.int .i64 t.t) ∧ x.cell? ⟨tb, tq + i * 8 + 6, none⟩ = some (.bool t.made) ∧ x.cell? ⟨tb, tq + i * 8 + 7, none⟩ = some (.slice sa sn sc)) := Lib.hid fun x hx => (hk8.below hb.out).below hx
        have hd : (T.map (·.1)).drop i = t :: (T.map (·.1)).drop (i + 1) := by
          rw [List.drop_eq_getElem_cons (by rw [List.length_map, HN.out]; exact hin)]
          congr 1
          rw [List.getElem_map, (List.getElem?_eq_some_iff.1 hp).2]
        have hstp := hR.out
        rw [hd] at hstp
        unfold partsR pOpen pShut pComma at hstp
        have HI1 := fun W => rIs_any t (.slice sa sn sc) sOpen W
        have HI2 := fun W => rIs_any t (.slice sa sn sc) sShut W
        have HI3 := fun W => rIs_any t (.slice sa sn sc) sComma W
        obtain ⟨u1, u2⟩ := signs_one t
        generalize isP t sOpen = x1 at hstp HI1 u1 u2
        generalize isP t sShut = x2 at hstp HI2 u1 u2
        generalize isP t sComma = x3 at hstp HI3 u1 u2
        unfold tmC at HI1 HI2 HI3
        replace HI1 := Lib.hid HI1
        replace HI2 := Lib.hid HI2
        replace HI3 := Lib.hid HI3
        obtain ⟨nn, hnn⟩ : ∃ nn, nn = (cutT T fr i).length := ⟨_, rfl⟩
        have hnl : nn ≤ 1000 := by rw [hnn]; unfold cutT; rw [List.length_take, List.length_drop, HN.out]; omega
        obtain ⟨na, nc, hv8, hnc, hnm, hnrow, hnnil⟩ := hst.out.now.rown (n := nn) (by rw [List.length_map, hnn])
        subst hv8
        replace hnn := Lib.hid hnn
        replace hp := Lib.hid hp
        replace hnrow := Lib.hid hnrow
        replace hnnil := Lib.hid hnnil
        have hy0 := Below.refl wr.heap.size wr
        obtain ⟨q0, q1, q2, q3, q4, q5, q6, q7⟩ := HFt.out wr hy0
        clear hd hk8 hR
        have hltk : Hid (((cutT T fr i).map tvC).length = nn) := Lib.hid (by rw [List.length_map, hnn.out])
        have hzn : na = none → nc = 0 := fun h => (hnnil.out h).2
        have hcs8 : Hid (∀ cs ∈ (cutT T fr i).map tvC, cs.length = 8) := Lib.hid (by intro cs hcs; obtain ⟨p, _, rfl⟩ := List.mem_map.1 hcs; rfl)
        have hcs1 : Hid (∀ cs ∈ (cutT T fr i).map tvC, ∀ u ∈ cs, u.oneCell' = true) := Lib.hid (by
          intro cs hcs u hu
          obtain ⟨p, hp', rfl⟩ := List.mem_map.1 hcs
          obtain ⟨a1, a2, a3, hv⟩ := hsl.out p (List.mem_of_mem_drop (List.mem_of_mem_take hp'))
          simp only [tvC, tmC, hv, List.mem_cons, List.not_mem_nil, or_false] at hu
          rcases hu with rfl | rfl | rfl | rfl | rfl | rfl | rfl | rfl <;> rfl)
        have hlen2 : ([] ++ (cutT T fr i).map tvC).length + 1 ≤ 1000000000 := by rw [List.nil_append, hltk.out]; omega
        by_cases hD : D = 0
        · subst hD
          cases x2 with
          | true =>
            have hx1 : x1 = false := (u2 rfl).1
            have hRs : Hid (R = some (out ++ [(fr, i)], i + 1)) := Lib.hid (by
              rw [hx1] at hstp
              simpa using hstp.symm)
            clear hstp u1 u2 hx1
            go_wp2_with fail
            refine (HI2.out _).mono ?_
            rintro e y1 ⟨rfl, b1⟩
            have hy1 := hy0.trans (b1.mono hy0.size)
            clear b1 q0 q1 q2 q3 q4 q5 q6 q7
            obtain ⟨q0, q1, q2, q3, q4, q5, q6, q7⟩ := HFt.out y1 hy1
            have hbWo := Lib.hid (hb.out.trans (hy1.mono hb.out.size))
            have hstW := Lib.hid (hst.out.below hy1)
            obtain ⟨vs, l1, l2, l3, l4⟩ := hstW.out.ls
            have hlenL : (vs.map fun u => [u]).length + 1 ≤ 1000000000 := by rw [List.length_map, l2]; omega
            have hsWo := hbWo.out.size
            replace l2 := Lib.hid l2
            replace l3 := Lib.hid l3
            replace l4 := Lib.hid l4
            go_wp2_with (at_builtin; go_must (refine wpList_append1 El22 rfl rfl l1 rfl rfl (news := [.slice na nn nc]) (by simp) rfl (by simp [Value.oneCell']) hlenL (by decide) hsWo ?_); intro v9 w9 hown9 hg9; have hb9 := Lib.hid (bapp hbWo.out l1 hg9 hsWo))
            (try simp only [Exit.inBlock, Exit.then])
            refine bodyPost_ret (results_tmp4 rfl _ _ _) rfl ?_
            exact ⟨HYes.out w9 i fr out v9 _ hb9.out hRs.out (hstW.out.list l1 l2.out l3.out l4.out hown9 hg9), hb9.out⟩
          | false =>
            cases x3 with
            | true =>
              have hx1 : x1 = false := by
                cases x1 with
                | false => rfl
                | true => exact absurd (u1 rfl).2 (by decide)
              have hst' : Hid (partsR ((T.map (·.1)).drop (i + 1)) (i + 1) (0 + 1) (i + 1) (out ++ [(fr, i)]) = R) := Lib.hid (by
                rw [hx1] at hstp
                simpa using hstp)
              clear hstp u1 u2 hx1
              go_wp2_with fail
              refine (HI2.out _).mono ?_
              rintro e y1 ⟨rfl, b1⟩
              have hy1 := hy0.trans (b1.mono hy0.size)
              clear b1 q0 q1 q2 q3 q4 q5 q6 q7
              obtain ⟨q0, q1, q2, q3, q4, q5, q6, q7⟩ := HFt.out y1 hy1
              go_wp2_with fail
              refine (HI3.out _).mono ?_
              rintro e y2 ⟨rfl, b2⟩
              have hy2 := hy1.trans (b2.mono hy1.size)
              clear b2 q0 q1 q2 q3 q4 q5 q6 q7
              obtain ⟨q0, q1, q2, q3, q4, q5, q6, q7⟩ := HFt.out y2 hy2
              have hbWo := Lib.hid (hb.out.trans (hy2.mono hb.out.size))
              have hstW := Lib.hid (hst.out.below hy2)
              obtain ⟨vs, l1, l2, l3, l4⟩ := hstW.out.ls
              have hlenL : (vs.map fun u => [u]).length + 1 ≤ 1000000000 := by rw [List.length_map, l2]; omega
              have hsWo := hbWo.out.size
              replace l2 := Lib.hid l2
              replace l3 := Lib.hid l3
              replace l4 := Lib.hid l4
              have hlenC : ((comR T out).map tvC).length + 1 ≤ 1000000000 := by
                have h1 : (comR T out).length ≤ out.length := List.length_filterMap_le _ _
                rw [List.length_map]
                omega
              clear q0 q1 q2 q3 q4 q5 q6 q7
              go_wp2_with (at_builtin; first
                | (refine wpList_append1 El22 rfl rfl l1 rfl rfl (news := [.slice na nn nc]) (by simp) rfl (by simp [Value.oneCell']) hlenL (by decide) hsWo ?_; intro v9 w9 hown9 hg9; have hb9 := bapp hbWo.out l1 hg9 hsWo; have hs9 := hb9.size; obtain ⟨q0, q1, q2, q3, q4, q5, q6, q7⟩ := HFw.out w9 hb9; have hls9 := hstW.out.list l1 l2.out l3.out l4.out hown9 hg9)
                | (refine wpList_append1X E34 rfl rfl hls9.2 rfl rfl (news := [.int .i64 t.kind, .string t.text, .bool t.sp, .string t.file, .int .i64 t.f, .int .i64 t.t, .bool t.made, .slice sa sn sc]) (by simp) rfl (by simp [Value.oneCell']) hlenC (by decide) hs9 ?_; intro g11 cp11 w11 hown11 hg11 hd11 hs11; have hb11 := Lib.hid (bapp hb9 hls9.2 hg11 hs9)))
              go_roundg (n - (i + 1))
              case measure => exact f4.out
              case rel =>
                obtain ⟨⟨vs', k1, k2, k3, k4⟩, hc⟩ := hls9
                exact ⟨i + 1, 0, i + 1, out ++ [(fr, i)], rfl, hin, Nat.zero_le _, by omega, Nat.le_refl _, by simp; omega, by simp, by simp, Lib.hid (rc_comma k1 k2 k3 k4 hc hp.out (by simpa [tvC, tmC] using hown11) hg11 hd11), hst', hb11⟩
            | false =>
              cases x1 with
              | true =>
                have hst' : Hid (partsR ((T.map (·.1)).drop (i + 1)) (i + 1) (0 + 1 + 1) fr out = R) := Lib.hid (by simpa using hstp)
                clear hstp u1 u2
                go_wp2_with fail
                refine (HI2.out _).mono ?_
                rintro e y1 ⟨rfl, b1⟩
                have hy1 := hy0.trans (b1.mono hy0.size)
                clear b1 q0 q1 q2 q3 q4 q5 q6 q7
                obtain ⟨q0, q1, q2, q3, q4, q5, q6, q7⟩ := HFt.out y1 hy1
                go_wp2_with fail
                refine (HI3.out _).mono ?_
                rintro e y2 ⟨rfl, b2⟩
                have hy2 := hy1.trans (b2.mono hy1.size)
                clear b2 q0 q1 q2 q3 q4 q5 q6 q7
                obtain ⟨q0, q1, q2, q3, q4, q5, q6, q7⟩ := HFt.out y2 hy2
                go_wp2_with fail
                refine (HI1.out _).mono ?_
                rintro e y3 ⟨rfl, b3⟩
                have hy3 := hy2.trans (b3.mono hy2.size)
                clear b3 q0 q1 q2 q3 q4 q5 q6 q7
                obtain ⟨q0, q1, q2, q3, q4, q5, q6, q7⟩ := HFt.out y3 hy3
                have hbW := Lib.hid (hb.out.trans (hy3.mono hb.out.size))
                have hstW := Lib.hid (hst.out.below hy3)
                have HF : Hid (∀ x, Below y3.heap.size y3 x → (x.cell? ⟨tb, tq + i * 8, none⟩ = some (.int .i64 t.kind) ∧ x.cell? ⟨tb, tq + i * 8 + 1, none⟩ = some (.string t.text) ∧ x.cell? ⟨tb, tq + i * 8 + 2, none⟩ = some (.bool t.sp) ∧ x.cell? ⟨tb, tq + i * 8 + 3, none⟩ = some (.string t.file) ∧ x.cell? ⟨tb, tq + i * 8 + 4, none⟩ = some (.int .i64 t.f) ∧ x.cell? ⟨tb, tq + i * 8 + 5, none⟩ = some (.int .i64 t.t) ∧ x.cell? ⟨tb, tq + i * 8 + 6, none⟩ = some (.bool t.made) ∧ x.cell? ⟨tb, tq + i * 8 + 7, none⟩ = some (.slice sa sn sc)) ∧ Row x 8 na ((cutT T fr i).map tvC)) := Lib.hid fun x hx => ⟨HFt.out x (hy3.trans (hx.mono hy3.size)), (hnrow.out.below hy3).below hx⟩
                have hd0 := (HF.out _ (Below.refl y3.heap.size y3).drew).1
                have hd1 := fun ob => (HF.out ((y3.alloc ob).drew) ((Below.refl _ y3).alloc (Nat.le_refl _) ob).drew).1
                have hd2 := fun ob ob' => (HF.out (((y3.alloc ob).alloc ob').drew) (((Below.refl _ y3).alloc (Nat.le_refl _) ob).alloc (by simp) ob').drew).1
                have hsW := hy3.size
                clear q0 q1 q2 q3 q4 q5 q6 q7
                go_upto_region 19 with fail
                go_region_held3 (fun x : World => x.cell? ⟨tb, tq + i * 8, none⟩ = some (.int .i64 t.kind) ∧ x.cell? ⟨tb, tq + i * 8 + 1, none⟩ = some (.string t.text) ∧ x.cell? ⟨tb, tq + i * 8 + 2, none⟩ = some (.bool t.sp) ∧ x.cell? ⟨tb, tq + i * 8 + 3, none⟩ = some (.string t.file) ∧ x.cell? ⟨tb, tq + i * 8 + 4, none⟩ = some (.int .i64 t.f) ∧ x.cell? ⟨tb, tq + i * 8 + 5, none⟩ = some (.int .i64 t.t) ∧ x.cell? ⟨tb, tq + i * 8 + 6, none⟩ = some (.bool t.made) ∧ x.cell? ⟨tb, tq + i * 8 + 7, none⟩ = some (.slice sa sn sc)) (first | with_reducible exact hd0 | with_reducible exact hd1 _ | with_reducible exact hd2 _ _ | with_reducible exact hx8 | with_reducible exact hx9 _ | with_reducible exact hx10 | with_reducible assumption) (first
                    | (refine step_append1 E34 rfl rfl hown8 rfl rfl hc8 rfl (by simp [Value.oneCell']) hlen2 (by decide) hb8.size ?_; intro v9 w9 hown9 hg9; have hb9 : Below y3.heap.size y3 w9 := bapp hb8 hown8 hg9 hb8.size; have hx10 := (HF.out w9 hb9).1)
                    | (refine step_append1 E34 rfl rfl (hown8.alloc _) rfl rfl (heap_alloc_new w8 _) rfl (by simp [Value.oneCell']) hlen2 (by decide) (by have := hb8.size; simp; omega) ?_; intro v9 w9 hown9 hg9; have hb9 : Below y3.heap.size y3 w9 := bapp (hb8.alloc hb8.size _) (hown8.alloc _) hg9 (by have := hb8.size; simp; omega); have hx10 := (HF.out w9 hb9).1)
                    | (refine step_appendN E34 rfl rfl (Own.drew (own_new0 y3 _ _)) rfl rfl hltk.out hzn (HF.out _ ((Below.refl _ y3).alloc (Nat.le_refl _) _).drew).2 hcs8.out hcs1.out (by simp; omega) (by decide) (by simp) ?_; intro v8 w8 hown8 hg8; have hb8 : Below y3.heap.size y3 w8 := ((Below.refl _ y3).alloc (Nat.le_refl _) _).drew.grown hg8 (by simp) (by intro q hq; simp [Value.ownBlock] at hq; omega); have hx8 := (HF.out w8 hb8).1; have hx9 := fun ob => (HF.out (w8.alloc ob) (hb8.alloc hb8.size ob)).1)
                    | (refine step_appendN E34 rfl rfl (Own.drew ((own_new0 y3 _ _).alloc _)) rfl rfl hltk.out hzn (HF.out _ (((Below.refl _ y3).alloc (Nat.le_refl _) _).alloc (by simp) _).drew).2 hcs8.out hcs1.out (by simp; omega) (by decide) (by simp; omega) ?_; intro v8 w8 hown8 hg8; have hb8 : Below y3.heap.size y3 w8 := (((Below.refl _ y3).alloc (Nat.le_refl _) _).alloc (by simp) _).drew.grown hg8 (by simp; omega) (by intro q hq; simp [Value.ownBlock] at hq; omega); have hx8 := (HF.out w8 hb8).1; have hc8 : w8.heap[y3.heap.size + 1]? = some (.cells #[.int .i64 t.kind, .string t.text, .bool t.sp, .string t.file, .int .i64 t.f, .int .i64 t.t, .bool t.made, .slice sa sn sc] 34 (0, 0)) := (hg8.block (y3.heap.size + 1) (by simp) (by simp [Value.ownBlock])).trans (new_two _ _ _ _ _))
                    | (refine step_appendN E34 rfl rfl (Own.drew (own_new1 y3 _ _ _)) rfl rfl hltk.out hzn (HF.out _ (((Below.refl _ y3).alloc (Nat.le_refl _) _).alloc (by simp) _).drew).2 hcs8.out hcs1.out (by simp; omega) (by decide) (by simp; omega) ?_; intro v8 w8 hown8 hg8; have hb8 : Below y3.heap.size y3 w8 := (((Below.refl _ y3).alloc (Nat.le_refl _) _).alloc (by simp) _).drew.grown hg8 (by simp; omega) (by intro q hq; simp [Value.ownBlock] at hq; omega); have hx8 := (HF.out w8 hb8).1; have hc8 : w8.heap[y3.heap.size]? = some (.cells #[.int .i64 t.kind, .string t.text, .bool t.sp, .string t.file, .int .i64 t.f, .int .i64 t.t, .bool t.made, .slice sa sn sc] 34 (0, 0)) := (hg8.block y3.heap.size (by simp; omega) (by simp [Value.ownBlock])).trans (new_one _ _ _ _ _)))
                all_goals
                  replace hown9 := Lib.hid hown9
                  replace hb9 := Lib.hid hb9
                  go_wp2_with fail
                  go_roundg (n - (i + 1))
                  case measure => exact f4.out
                  case rel => exact ⟨i + 1, 0 + 1, fr, out, rfl, hin, by omega, hf1, by omega, by omega, by simp, by simp, Lib.hid (hstW.out.more hb9.out hbW.out.size hfi hp.out (by simpa [tvC, tmC] using hown9.out)), hst', Lib.hid (hbW.out.trans (hb9.out.mono hbW.out.size))⟩
              | false =>
                have hst' : Hid (partsR ((T.map (·.1)).drop (i + 1)) (i + 1) (0 + 1) fr out = R) := Lib.hid (by simpa using hstp)
                clear hstp u1 u2
                go_wp2_with fail
                refine (HI2.out _).mono ?_
                rintro e y1 ⟨rfl, b1⟩
                have hy1 := hy0.trans (b1.mono hy0.size)
                clear b1 q0 q1 q2 q3 q4 q5 q6 q7
                obtain ⟨q0, q1, q2, q3, q4, q5, q6, q7⟩ := HFt.out y1 hy1
                go_wp2_with fail
                refine (HI3.out _).mono ?_
                rintro e y2 ⟨rfl, b2⟩
                have hy2 := hy1.trans (b2.mono hy1.size)
                clear b2 q0 q1 q2 q3 q4 q5 q6 q7
                obtain ⟨q0, q1, q2, q3, q4, q5, q6, q7⟩ := HFt.out y2 hy2
                go_wp2_with fail
                refine (HI1.out _).mono ?_
                rintro e y3 ⟨rfl, b3⟩
                have hy3 := hy2.trans (b3.mono hy2.size)
                clear b3 q0 q1 q2 q3 q4 q5 q6 q7
                obtain ⟨q0, q1, q2, q3, q4, q5, q6, q7⟩ := HFt.out y3 hy3
                go_wp2_with fail
                refine (HI2.out _).mono ?_
                rintro e y4 ⟨rfl, b4⟩
                have hy4 := hy3.trans (b4.mono hy3.size)
                clear b4 q0 q1 q2 q3 q4 q5 q6 q7
                obtain ⟨q0, q1, q2, q3, q4, q5, q6, q7⟩ := HFt.out y4 hy4
                have hbW := Lib.hid (hb.out.trans (hy4.mono hb.out.size))
                have hstW := Lib.hid (hst.out.below hy4)
                have HF : Hid (∀ x, Below y4.heap.size y4 x → (x.cell? ⟨tb, tq + i * 8, none⟩ = some (.int .i64 t.kind) ∧ x.cell? ⟨tb, tq + i * 8 + 1, none⟩ = some (.string t.text) ∧ x.cell? ⟨tb, tq + i * 8 + 2, none⟩ = some (.bool t.sp) ∧ x.cell? ⟨tb, tq + i * 8 + 3, none⟩ = some (.string t.file) ∧ x.cell? ⟨tb, tq + i * 8 + 4, none⟩ = some (.int .i64 t.f) ∧ x.cell? ⟨tb, tq + i * 8 + 5, none⟩ = some (.int .i64 t.t) ∧ x.cell? ⟨tb, tq + i * 8 + 6, none⟩ = some (.bool t.made) ∧ x.cell? ⟨tb, tq + i * 8 + 7, none⟩ = some (.slice sa sn sc)) ∧ Row x 8 na ((cutT T fr i).map tvC)) := Lib.hid fun x hx => ⟨HFt.out x (hy4.trans (hx.mono hy4.size)), (hnrow.out.below hy4).below hx⟩
                have hd0 := (HF.out _ (Below.refl y4.heap.size y4).drew).1
                have hd1 := fun ob => (HF.out ((y4.alloc ob).drew) ((Below.refl _ y4).alloc (Nat.le_refl _) ob).drew).1
                have hd2 := fun ob ob' => (HF.out (((y4.alloc ob).alloc ob').drew) (((Below.refl _ y4).alloc (Nat.le_refl _) ob).alloc (by simp) ob').drew).1
                have hsW := hy4.size
                clear q0 q1 q2 q3 q4 q5 q6 q7
                go_upto_region 19 with fail
                go_region_held3 (fun x : World => x.cell? ⟨tb, tq + i * 8, none⟩ = some (.int .i64 t.kind) ∧ x.cell? ⟨tb, tq + i * 8 + 1, none⟩ = some (.string t.text) ∧ x.cell? ⟨tb, tq + i * 8 + 2, none⟩ = some (.bool t.sp) ∧ x.cell? ⟨tb, tq + i * 8 + 3, none⟩ = some (.string t.file) ∧ x.cell? ⟨tb, tq + i * 8 + 4, none⟩ = some (.int .i64 t.f) ∧ x.cell? ⟨tb, tq + i * 8 + 5, none⟩ = some (.int .i64 t.t) ∧ x.cell? ⟨tb, tq + i * 8 + 6, none⟩ = some (.bool t.made) ∧ x.cell? ⟨tb, tq + i * 8 + 7, none⟩ = some (.slice sa sn sc)) (first | with_reducible exact hd0 | with_reducible exact hd1 _ | with_reducible exact hd2 _ _ | with_reducible exact hx8 | with_reducible exact hx9 _ | with_reducible exact hx10 | with_reducible assumption) (first
                    | (refine step_append1 E34 rfl rfl hown8 rfl rfl hc8 rfl (by simp [Value.oneCell']) hlen2 (by decide) hb8.size ?_; intro v9 w9 hown9 hg9; have hb9 : Below y4.heap.size y4 w9 := bapp hb8 hown8 hg9 hb8.size; have hx10 := (HF.out w9 hb9).1)
                    | (refine step_append1 E34 rfl rfl (hown8.alloc _) rfl rfl (heap_alloc_new w8 _) rfl (by simp [Value.oneCell']) hlen2 (by decide) (by have := hb8.size; simp; omega) ?_; intro v9 w9 hown9 hg9; have hb9 : Below y4.heap.size y4 w9 := bapp (hb8.alloc hb8.size _) (hown8.alloc _) hg9 (by have := hb8.size; simp; omega); have hx10 := (HF.out w9 hb9).1)
                    | (refine step_appendN E34 rfl rfl (Own.drew (own_new0 y4 _ _)) rfl rfl hltk.out hzn (HF.out _ ((Below.refl _ y4).alloc (Nat.le_refl _) _).drew).2 hcs8.out hcs1.out (by simp; omega) (by decide) (by simp) ?_; intro v8 w8 hown8 hg8; have hb8 : Below y4.heap.size y4 w8 := ((Below.refl _ y4).alloc (Nat.le_refl _) _).drew.grown hg8 (by simp) (by intro q hq; simp [Value.ownBlock] at hq; omega); have hx8 := (HF.out w8 hb8).1; have hx9 := fun ob => (HF.out (w8.alloc ob) (hb8.alloc hb8.size ob)).1)
                    | (refine step_appendN E34 rfl rfl (Own.drew ((own_new0 y4 _ _).alloc _)) rfl rfl hltk.out hzn (HF.out _ (((Below.refl _ y4).alloc (Nat.le_refl _) _).alloc (by simp) _).drew).2 hcs8.out hcs1.out (by simp; omega) (by decide) (by simp; omega) ?_; intro v8 w8 hown8 hg8; have hb8 : Below y4.heap.size y4 w8 := (((Below.refl _ y4).alloc (Nat.le_refl _) _).alloc (by simp) _).drew.grown hg8 (by simp; omega) (by intro q hq; simp [Value.ownBlock] at hq; omega); have hx8 := (HF.out w8 hb8).1; have hc8 : w8.heap[y4.heap.size + 1]? = some (.cells #[.int .i64 t.kind, .string t.text, .bool t.sp, .string t.file, .int .i64 t.f, .int .i64 t.t, .bool t.made, .slice sa sn sc] 34 (0, 0)) := (hg8.block (y4.heap.size + 1) (by simp) (by simp [Value.ownBlock])).trans (new_two _ _ _ _ _))
                    | (refine step_appendN E34 rfl rfl (Own.drew (own_new1 y4 _ _ _)) rfl rfl hltk.out hzn (HF.out _ (((Below.refl _ y4).alloc (Nat.le_refl _) _).alloc (by simp) _).drew).2 hcs8.out hcs1.out (by simp; omega) (by decide) (by simp; omega) ?_; intro v8 w8 hown8 hg8; have hb8 : Below y4.heap.size y4 w8 := (((Below.refl _ y4).alloc (Nat.le_refl _) _).alloc (by simp) _).drew.grown hg8 (by simp; omega) (by intro q hq; simp [Value.ownBlock] at hq; omega); have hx8 := (HF.out w8 hb8).1; have hc8 : w8.heap[y4.heap.size]? = some (.cells #[.int .i64 t.kind, .string t.text, .bool t.sp, .string t.file, .int .i64 t.f, .int .i64 t.t, .bool t.made, .slice sa sn sc] 34 (0, 0)) := (hg8.block y4.heap.size (by simp; omega) (by simp [Value.ownBlock])).trans (new_one _ _ _ _ _)))
                all_goals
                  replace hown9 := Lib.hid hown9
                  replace hb9 := Lib.hid hb9
                  go_wp2_with fail
                  go_roundg (n - (i + 1))
                  case measure => exact f4.out
                  case rel => exact ⟨i + 1, 0, fr, out, rfl, hin, by omega, hf1, by omega, by omega, by simp, by simp, Lib.hid (hstW.out.more hb9.out hbW.out.size hfi hp.out (by simpa [tvC, tmC] using hown9.out)), hst', Lib.hid (hbW.out.trans (hb9.out.mono hbW.out.size))⟩
        · have hD0 : ((D : Int) == 0) = false := beq_false_of_ne (by omega)
          cases x1 with
          | true =>
            have hst' : Hid (partsR ((T.map (·.1)).drop (i + 1)) (i + 1) (D + 1 + 1) fr out = R) := Lib.hid (by simpa using hstp)
            clear hstp u1 u2
            go_wp2_with fail
            refine (HI1.out _).mono ?_
            rintro e y1 ⟨rfl, b1⟩
            have hy1 := hy0.trans (b1.mono hy0.size)
            clear b1 q0 q1 q2 q3 q4 q5 q6 q7
            obtain ⟨q0, q1, q2, q3, q4, q5, q6, q7⟩ := HFt.out y1 hy1
            have hbW := Lib.hid (hb.out.trans (hy1.mono hb.out.size))
            have hstW := Lib.hid (hst.out.below hy1)
            have HF : Hid (∀ x, Below y1.heap.size y1 x → (x.cell? ⟨tb, tq + i * 8, none⟩ = some (.int .i64 t.kind) ∧ x.cell? ⟨tb, tq + i * 8 + 1, none⟩ = some (.string t.text) ∧ x.cell? ⟨tb, tq + i * 8 + 2, none⟩ = some (.bool t.sp) ∧ x.cell? ⟨tb, tq + i * 8 + 3, none⟩ = some (.string t.file) ∧ x.cell? ⟨tb, tq + i * 8 + 4, none⟩ = some (.int .i64 t.f) ∧ x.cell? ⟨tb, tq + i * 8 + 5, none⟩ = some (.int .i64 t.t) ∧ x.cell? ⟨tb, tq + i * 8 + 6, none⟩ = some (.bool t.made) ∧ x.cell? ⟨tb, tq + i * 8 + 7, none⟩ = some (.slice sa sn sc)) ∧ Row x 8 na ((cutT T fr i).map tvC)) := Lib.hid fun x hx => ⟨HFt.out x (hy1.trans (hx.mono hy1.size)), (hnrow.out.below hy1).below hx⟩
            have hd0 := (HF.out _ (Below.refl y1.heap.size y1).drew).1
            have hd1 := fun ob => (HF.out ((y1.alloc ob).drew) ((Below.refl _ y1).alloc (Nat.le_refl _) ob).drew).1
            have hd2 := fun ob ob' => (HF.out (((y1.alloc ob).alloc ob').drew) (((Below.refl _ y1).alloc (Nat.le_refl _) ob).alloc (by simp) ob').drew).1
            have hsW := hy1.size
            clear q0 q1 q2 q3 q4 q5 q6 q7
            go_upto_region 19 with fail
            go_region_held3 (fun x : World => x.cell? ⟨tb, tq + i * 8, none⟩ = some (.int .i64 t.kind) ∧ x.cell? ⟨tb, tq + i * 8 + 1, none⟩ = some (.string t.text) ∧ x.cell? ⟨tb, tq + i * 8 + 2, none⟩ = some (.bool t.sp) ∧ x.cell? ⟨tb, tq + i * 8 + 3, none⟩ = some (.string t.file) ∧ x.cell? ⟨tb, tq + i * 8 + 4, none⟩ = some (.int .i64 t.f) ∧ x.cell? ⟨tb, tq + i * 8 + 5, none⟩ = some (.int .i64 t.t) ∧ x.cell? ⟨tb, tq + i * 8 + 6, none⟩ = some (.bool t.made) ∧ x.cell? ⟨tb, tq + i * 8 + 7, none⟩ = some (.slice sa sn sc)) (first | with_reducible exact hd0 | with_reducible exact hd1 _ | with_reducible exact hd2 _ _ | with_reducible exact hx8 | with_reducible exact hx9 _ | with_reducible exact hx10 | with_reducible assumption) (first
                | (refine step_append1 E34 rfl rfl hown8 rfl rfl hc8 rfl (by simp [Value.oneCell']) hlen2 (by decide) hb8.size ?_; intro v9 w9 hown9 hg9; have hb9 : Below y1.heap.size y1 w9 := bapp hb8 hown8 hg9 hb8.size; have hx10 := (HF.out w9 hb9).1)
                | (refine step_append1 E34 rfl rfl (hown8.alloc _) rfl rfl (heap_alloc_new w8 _) rfl (by simp [Value.oneCell']) hlen2 (by decide) (by have := hb8.size; simp; omega) ?_; intro v9 w9 hown9 hg9; have hb9 : Below y1.heap.size y1 w9 := bapp (hb8.alloc hb8.size _) (hown8.alloc _) hg9 (by have := hb8.size; simp; omega); have hx10 := (HF.out w9 hb9).1)
                | (refine step_appendN E34 rfl rfl (Own.drew (own_new0 y1 _ _)) rfl rfl hltk.out hzn (HF.out _ ((Below.refl _ y1).alloc (Nat.le_refl _) _).drew).2 hcs8.out hcs1.out (by simp; omega) (by decide) (by simp) ?_; intro v8 w8 hown8 hg8; have hb8 : Below y1.heap.size y1 w8 := ((Below.refl _ y1).alloc (Nat.le_refl _) _).drew.grown hg8 (by simp) (by intro q hq; simp [Value.ownBlock] at hq; omega); have hx8 := (HF.out w8 hb8).1; have hx9 := fun ob => (HF.out (w8.alloc ob) (hb8.alloc hb8.size ob)).1)
                | (refine step_appendN E34 rfl rfl (Own.drew ((own_new0 y1 _ _).alloc _)) rfl rfl hltk.out hzn (HF.out _ (((Below.refl _ y1).alloc (Nat.le_refl _) _).alloc (by simp) _).drew).2 hcs8.out hcs1.out (by simp; omega) (by decide) (by simp; omega) ?_; intro v8 w8 hown8 hg8; have hb8 : Below y1.heap.size y1 w8 := (((Below.refl _ y1).alloc (Nat.le_refl _) _).alloc (by simp) _).drew.grown hg8 (by simp; omega) (by intro q hq; simp [Value.ownBlock] at hq; omega); have hx8 := (HF.out w8 hb8).1; have hc8 : w8.heap[y1.heap.size + 1]? = some (.cells #[.int .i64 t.kind, .string t.text, .bool t.sp, .string t.file, .int .i64 t.f, .int .i64 t.t, .bool t.made, .slice sa sn sc] 34 (0, 0)) := (hg8.block (y1.heap.size + 1) (by simp) (by simp [Value.ownBlock])).trans (new_two _ _ _ _ _))
                | (refine step_appendN E34 rfl rfl (Own.drew (own_new1 y1 _ _ _)) rfl rfl hltk.out hzn (HF.out _ (((Below.refl _ y1).alloc (Nat.le_refl _) _).alloc (by simp) _).drew).2 hcs8.out hcs1.out (by simp; omega) (by decide) (by simp; omega) ?_; intro v8 w8 hown8 hg8; have hb8 : Below y1.heap.size y1 w8 := (((Below.refl _ y1).alloc (Nat.le_refl _) _).alloc (by simp) _).drew.grown hg8 (by simp; omega) (by intro q hq; simp [Value.ownBlock] at hq; omega); have hx8 := (HF.out w8 hb8).1; have hc8 : w8.heap[y1.heap.size]? = some (.cells #[.int .i64 t.kind, .string t.text, .bool t.sp, .string t.file, .int .i64 t.f, .int .i64 t.t, .bool t.made, .slice sa sn sc] 34 (0, 0)) := (hg8.block y1.heap.size (by simp; omega) (by simp [Value.ownBlock])).trans (new_one _ _ _ _ _)))
            all_goals
              replace hown9 := Lib.hid hown9
              replace hb9 := Lib.hid hb9
              go_wp2_with fail
              go_roundg (n - (i + 1))
              case measure => exact f4.out
              case rel => exact ⟨i + 1, D + 1, fr, out, rfl, hin, by omega, hf1, by omega, by omega, by simp, by simp, Lib.hid (hstW.out.more hb9.out hbW.out.size hfi hp.out (by simpa [tvC, tmC] using hown9.out)), hst', Lib.hid (hbW.out.trans (hb9.out.mono hbW.out.size))⟩
          | false =>
            cases x2 with
            | true =>
              have g3 : IntKind.i64.wrap ((D : Int) - 1) = ((D - 1 : Nat) : Int) := by rw [IntWalk.i64_in _ (by omega)]; omega
              have hst' : Hid (partsR ((T.map (·.1)).drop (i + 1)) (i + 1) (D - 1 + 1) fr out = R) := Lib.hid (by
                have h : ¬ D + 1 = 1 := by omega
                rw [if_neg (by decide), if_pos rfl, if_neg h] at hstp
                rw [← hstp]
                congr 1
                omega)
              clear hstp u1 u2
              go_wp2_with fail
              refine (HI1.out _).mono ?_
              rintro e y1 ⟨rfl, b1⟩
              have hy1 := hy0.trans (b1.mono hy0.size)
              clear b1 q0 q1 q2 q3 q4 q5 q6 q7
              obtain ⟨q0, q1, q2, q3, q4, q5, q6, q7⟩ := HFt.out y1 hy1
              go_wp2_with fail
              refine (HI2.out _).mono ?_
              rintro e y2 ⟨rfl, b2⟩
              have hy2 := hy1.trans (b2.mono hy1.size)
              clear b2 q0 q1 q2 q3 q4 q5 q6 q7
              obtain ⟨q0, q1, q2, q3, q4, q5, q6, q7⟩ := HFt.out y2 hy2
              have hbW := Lib.hid (hb.out.trans (hy2.mono hb.out.size))
              have hstW := Lib.hid (hst.out.below hy2)
              have HF : Hid (∀ x, Below y2.heap.size y2 x → (x.cell? ⟨tb, tq + i * 8, none⟩ = some (.int .i64 t.kind) ∧ x.cell? ⟨tb, tq + i * 8 + 1, none⟩ = some (.string t.text) ∧ x.cell? ⟨tb, tq + i * 8 + 2, none⟩ = some (.bool t.sp) ∧ x.cell? ⟨tb, tq + i * 8 + 3, none⟩ = some (.string t.file) ∧ x.cell? ⟨tb, tq + i * 8 + 4, none⟩ = some (.int .i64 t.f) ∧ x.cell? ⟨tb, tq + i * 8 + 5, none⟩ = some (.int .i64 t.t) ∧ x.cell? ⟨tb, tq + i * 8 + 6, none⟩ = some (.bool t.made) ∧ x.cell? ⟨tb, tq + i * 8 + 7, none⟩ = some (.slice sa sn sc)) ∧ Row x 8 na ((cutT T fr i).map tvC)) := Lib.hid fun x hx => ⟨HFt.out x (hy2.trans (hx.mono hy2.size)), (hnrow.out.below hy2).below hx⟩
              have hd0 := (HF.out _ (Below.refl y2.heap.size y2).drew).1
              have hd1 := fun ob => (HF.out ((y2.alloc ob).drew) ((Below.refl _ y2).alloc (Nat.le_refl _) ob).drew).1
              have hd2 := fun ob ob' => (HF.out (((y2.alloc ob).alloc ob').drew) (((Below.refl _ y2).alloc (Nat.le_refl _) ob).alloc (by simp) ob').drew).1
              have hsW := hy2.size
              clear q0 q1 q2 q3 q4 q5 q6 q7
              go_upto_region 19 with fail
              go_region_held3 (fun x : World => x.cell? ⟨tb, tq + i * 8, none⟩ = some (.int .i64 t.kind) ∧ x.cell? ⟨tb, tq + i * 8 + 1, none⟩ = some (.string t.text) ∧ x.cell? ⟨tb, tq + i * 8 + 2, none⟩ = some (.bool t.sp) ∧ x.cell? ⟨tb, tq + i * 8 + 3, none⟩ = some (.string t.file) ∧ x.cell? ⟨tb, tq + i * 8 + 4, none⟩ = some (.int .i64 t.f) ∧ x.cell? ⟨tb, tq + i * 8 + 5, none⟩ = some (.int .i64 t.t) ∧ x.cell? ⟨tb, tq + i * 8 + 6, none⟩ = some (.bool t.made) ∧ x.cell? ⟨tb, tq + i * 8 + 7, none⟩ = some (.slice sa sn sc)) (first | with_reducible exact hd0 | with_reducible exact hd1 _ | with_reducible exact hd2 _ _ | with_reducible exact hx8 | with_reducible exact hx9 _ | with_reducible exact hx10 | with_reducible assumption) (first
                  | (refine step_append1 E34 rfl rfl hown8 rfl rfl hc8 rfl (by simp [Value.oneCell']) hlen2 (by decide) hb8.size ?_; intro v9 w9 hown9 hg9; have hb9 : Below y2.heap.size y2 w9 := bapp hb8 hown8 hg9 hb8.size; have hx10 := (HF.out w9 hb9).1)
                  | (refine step_append1 E34 rfl rfl (hown8.alloc _) rfl rfl (heap_alloc_new w8 _) rfl (by simp [Value.oneCell']) hlen2 (by decide) (by have := hb8.size; simp; omega) ?_; intro v9 w9 hown9 hg9; have hb9 : Below y2.heap.size y2 w9 := bapp (hb8.alloc hb8.size _) (hown8.alloc _) hg9 (by have := hb8.size; simp; omega); have hx10 := (HF.out w9 hb9).1)
                  | (refine step_appendN E34 rfl rfl (Own.drew (own_new0 y2 _ _)) rfl rfl hltk.out hzn (HF.out _ ((Below.refl _ y2).alloc (Nat.le_refl _) _).drew).2 hcs8.out hcs1.out (by simp; omega) (by decide) (by simp) ?_; intro v8 w8 hown8 hg8; have hb8 : Below y2.heap.size y2 w8 := ((Below.refl _ y2).alloc (Nat.le_refl _) _).drew.grown hg8 (by simp) (by intro q hq; simp [Value.ownBlock] at hq; omega); have hx8 := (HF.out w8 hb8).1; have hx9 := fun ob => (HF.out (w8.alloc ob) (hb8.alloc hb8.size ob)).1)
                  | (refine step_appendN E34 rfl rfl (Own.drew ((own_new0 y2 _ _).alloc _)) rfl rfl hltk.out hzn (HF.out _ (((Below.refl _ y2).alloc (Nat.le_refl _) _).alloc (by simp) _).drew).2 hcs8.out hcs1.out (by simp; omega) (by decide) (by simp; omega) ?_; intro v8 w8 hown8 hg8; have hb8 : Below y2.heap.size y2 w8 := (((Below.refl _ y2).alloc (Nat.le_refl _) _).alloc (by simp) _).drew.grown hg8 (by simp; omega) (by intro q hq; simp [Value.ownBlock] at hq; omega); have hx8 := (HF.out w8 hb8).1; have hc8 : w8.heap[y2.heap.size + 1]? = some (.cells #[.int .i64 t.kind, .string t.text, .bool t.sp, .string t.file, .int .i64 t.f, .int .i64 t.t, .bool t.made, .slice sa sn sc] 34 (0, 0)) := (hg8.block (y2.heap.size + 1) (by simp) (by simp [Value.ownBlock])).trans (new_two _ _ _ _ _))
                  | (refine step_appendN E34 rfl rfl (Own.drew (own_new1 y2 _ _ _)) rfl rfl hltk.out hzn (HF.out _ (((Below.refl _ y2).alloc (Nat.le_refl _) _).alloc (by simp) _).drew).2 hcs8.out hcs1.out (by simp; omega) (by decide) (by simp; omega) ?_; intro v8 w8 hown8 hg8; have hb8 : Below y2.heap.size y2 w8 := (((Below.refl _ y2).alloc (Nat.le_refl _) _).alloc (by simp) _).drew.grown hg8 (by simp; omega) (by intro q hq; simp [Value.ownBlock] at hq; omega); have hx8 := (HF.out w8 hb8).1; have hc8 : w8.heap[y2.heap.size]? = some (.cells #[.int .i64 t.kind, .string t.text, .bool t.sp, .string t.file, .int .i64 t.f, .int .i64 t.t, .bool t.made, .slice sa sn sc] 34 (0, 0)) := (hg8.block y2.heap.size (by simp; omega) (by simp [Value.ownBlock])).trans (new_one _ _ _ _ _)))
              all_goals
                replace hown9 := Lib.hid hown9
                replace hb9 := Lib.hid hb9
                go_wp2_with fail
                go_roundg (n - (i + 1))
                case measure => exact f4.out
                case rel => exact ⟨i + 1, D - 1, fr, out, rfl, hin, by omega, hf1, by omega, by omega, by simp, by simp, Lib.hid (hstW.out.more hb9.out hbW.out.size hfi hp.out (by simpa [tvC, tmC] using hown9.out)), hst', Lib.hid (hbW.out.trans (hb9.out.mono hbW.out.size))⟩
            | false =>
              have hst' : Hid (partsR ((T.map (·.1)).drop (i + 1)) (i + 1) (D + 1) fr out = R) := Lib.hid (by
                have h : decide (D + 1 = 1) = false := decide_eq_false (by omega)
                rw [if_neg (by decide), if_neg (by decide), h, Bool.and_false, if_neg (by decide)] at hstp
                exact hstp)
              clear hstp u1 u2
              go_wp2_with fail
              refine (HI1.out _).mono ?_
              rintro e y1 ⟨rfl, b1⟩
              have hy1 := hy0.trans (b1.mono hy0.size)
              clear b1 q0 q1 q2 q3 q4 q5 q6 q7
              obtain ⟨q0, q1, q2, q3, q4, q5, q6, q7⟩ := HFt.out y1 hy1
              go_wp2_with fail
              refine (HI2.out _).mono ?_
              rintro e y2 ⟨rfl, b2⟩
              have hy2 := hy1.trans (b2.mono hy1.size)
              clear b2 q0 q1 q2 q3 q4 q5 q6 q7
              obtain ⟨q0, q1, q2, q3, q4, q5, q6, q7⟩ := HFt.out y2 hy2
              have hbW := Lib.hid (hb.out.trans (hy2.mono hb.out.size))
              have hstW := Lib.hid (hst.out.below hy2)
              have HF : Hid (∀ x, Below y2.heap.size y2 x → (x.cell? ⟨tb, tq + i * 8, none⟩ = some (.int .i64 t.kind) ∧ x.cell? ⟨tb, tq + i * 8 + 1, none⟩ = some (.string t.text) ∧ x.cell? ⟨tb, tq + i * 8 + 2, none⟩ = some (.bool t.sp) ∧ x.cell? ⟨tb, tq + i * 8 + 3, none⟩ = some (.string t.file) ∧ x.cell? ⟨tb, tq + i * 8 + 4, none⟩ = some (.int .i64 t.f) ∧ x.cell? ⟨tb, tq + i * 8 + 5, none⟩ = some (.int .i64 t.t) ∧ x.cell? ⟨tb, tq + i * 8 + 6, none⟩ = some (.bool t.made) ∧ x.cell? ⟨tb, tq + i * 8 + 7, none⟩ = some (.slice sa sn sc)) ∧ Row x 8 na ((cutT T fr i).map tvC)) := Lib.hid fun x hx => ⟨HFt.out x (hy2.trans (hx.mono hy2.size)), (hnrow.out.below hy2).below hx⟩
              have hd0 := (HF.out _ (Below.refl y2.heap.size y2).drew).1
              have hd1 := fun ob => (HF.out ((y2.alloc ob).drew) ((Below.refl _ y2).alloc (Nat.le_refl _) ob).drew).1
              have hd2 := fun ob ob' => (HF.out (((y2.alloc ob).alloc ob').drew) (((Below.refl _ y2).alloc (Nat.le_refl _) ob).alloc (by simp) ob').drew).1
              have hsW := hy2.size
              clear q0 q1 q2 q3 q4 q5 q6 q7
              go_upto_region 19 with fail
              go_region_held3 (fun x : World => x.cell? ⟨tb, tq + i * 8, none⟩ = some (.int .i64 t.kind) ∧ x.cell? ⟨tb, tq + i * 8 + 1, none⟩ = some (.string t.text) ∧ x.cell? ⟨tb, tq + i * 8 + 2, none⟩ = some (.bool t.sp) ∧ x.cell? ⟨tb, tq + i * 8 + 3, none⟩ = some (.string t.file) ∧ x.cell? ⟨tb, tq + i * 8 + 4, none⟩ = some (.int .i64 t.f) ∧ x.cell? ⟨tb, tq + i * 8 + 5, none⟩ = some (.int .i64 t.t) ∧ x.cell? ⟨tb, tq + i * 8 + 6, none⟩ = some (.bool t.made) ∧ x.cell? ⟨tb, tq + i * 8 + 7, none⟩ = some (.slice sa sn sc)) (first | with_reducible exact hd0 | with_reducible exact hd1 _ | with_reducible exact hd2 _ _ | with_reducible exact hx8 | with_reducible exact hx9 _ | with_reducible exact hx10 | with_reducible assumption) (first
                  | (refine step_append1 E34 rfl rfl hown8 rfl rfl hc8 rfl (by simp [Value.oneCell']) hlen2 (by decide) hb8.size ?_; intro v9 w9 hown9 hg9; have hb9 : Below y2.heap.size y2 w9 := bapp hb8 hown8 hg9 hb8.size; have hx10 := (HF.out w9 hb9).1)
                  | (refine step_append1 E34 rfl rfl (hown8.alloc _) rfl rfl (heap_alloc_new w8 _) rfl (by simp [Value.oneCell']) hlen2 (by decide) (by have := hb8.size; simp; omega) ?_; intro v9 w9 hown9 hg9; have hb9 : Below y2.heap.size y2 w9 := bapp (hb8.alloc hb8.size _) (hown8.alloc _) hg9 (by have := hb8.size; simp; omega); have hx10 := (HF.out w9 hb9).1)
                  | (refine step_appendN E34 rfl rfl (Own.drew (own_new0 y2 _ _)) rfl rfl hltk.out hzn (HF.out _ ((Below.refl _ y2).alloc (Nat.le_refl _) _).drew).2 hcs8.out hcs1.out (by simp; omega) (by decide) (by simp) ?_; intro v8 w8 hown8 hg8; have hb8 : Below y2.heap.size y2 w8 := ((Below.refl _ y2).alloc (Nat.le_refl _) _).drew.grown hg8 (by simp) (by intro q hq; simp [Value.ownBlock] at hq; omega); have hx8 := (HF.out w8 hb8).1; have hx9 := fun ob => (HF.out (w8.alloc ob) (hb8.alloc hb8.size ob)).1)
                  | (refine step_appendN E34 rfl rfl (Own.drew ((own_new0 y2 _ _).alloc _)) rfl rfl hltk.out hzn (HF.out _ (((Below.refl _ y2).alloc (Nat.le_refl _) _).alloc (by simp) _).drew).2 hcs8.out hcs1.out (by simp; omega) (by decide) (by simp; omega) ?_; intro v8 w8 hown8 hg8; have hb8 : Below y2.heap.size y2 w8 := (((Below.refl _ y2).alloc (Nat.le_refl _) _).alloc (by simp) _).drew.grown hg8 (by simp; omega) (by intro q hq; simp [Value.ownBlock] at hq; omega); have hx8 := (HF.out w8 hb8).1; have hc8 : w8.heap[y2.heap.size + 1]? = some (.cells #[.int .i64 t.kind, .string t.text, .bool t.sp, .string t.file, .int .i64 t.f, .int .i64 t.t, .bool t.made, .slice sa sn sc] 34 (0, 0)) := (hg8.block (y2.heap.size + 1) (by simp) (by simp [Value.ownBlock])).trans (new_two _ _ _ _ _))
                  | (refine step_appendN E34 rfl rfl (Own.drew (own_new1 y2 _ _ _)) rfl rfl hltk.out hzn (HF.out _ (((Below.refl _ y2).alloc (Nat.le_refl _) _).alloc (by simp) _).drew).2 hcs8.out hcs1.out (by simp; omega) (by decide) (by simp; omega) ?_; intro v8 w8 hown8 hg8; have hb8 : Below y2.heap.size y2 w8 := (((Below.refl _ y2).alloc (Nat.le_refl _) _).alloc (by simp) _).drew.grown hg8 (by simp; omega) (by intro q hq; simp [Value.ownBlock] at hq; omega); have hx8 := (HF.out w8 hb8).1; have hc8 : w8.heap[y2.heap.size]? = some (.cells #[.int .i64 t.kind, .string t.text, .bool t.sp, .string t.file, .int .i64 t.f, .int .i64 t.t, .bool t.made, .slice sa sn sc] 34 (0, 0)) := (hg8.block y2.heap.size (by simp; omega) (by simp [Value.ownBlock])).trans (new_one _ _ _ _ _)))
              all_goals
                replace hown9 := Lib.hid hown9
                replace hb9 := Lib.hid hb9
                go_wp2_with fail
                go_roundg (n - (i + 1))
                case measure => exact f4.out
                case rel => exact ⟨i + 1, D, fr, out, rfl, hin, by omega, hf1, by omega, by omega, by simp, by simp, Lib.hid (hstW.out.more hb9.out hbW.out.size hfi hp.out (by simpa [tvC, tmC] using hown9.out)), hst', Lib.hid (hbW.out.trans (hb9.out.mono hbW.out.size))⟩
      · have hin' : ¬ (i : Int) < n := by omega
        have hie : i = n := by omega
        have hRn : R = none := by
          have := hR.out
          rw [List.drop_eq_nil_of_le (by rw [List.length_map, HN.out]; omega)] at this
          rw [← this]; rfl
        have HN2 := Lib.hid (HNo.out hRn)
        replace hie := Lib.hid hie
        clear hRn
        go_wp2
        (try simp only [Exit.inBlock, Exit.then])
        refine bodyPost_ret (results_tmp4 rfl _ _ _) rfl ?_
        exact ⟨HN2.out wr, hb.out⟩
end Go.Proofs.YtfaoamdlknlgpaaGreat
