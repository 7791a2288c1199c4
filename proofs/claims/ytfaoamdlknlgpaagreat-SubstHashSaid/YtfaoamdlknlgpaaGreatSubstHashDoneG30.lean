/- Texts of this seat's proofs, laid into one file. -/
import Derived.Test.YtfaoamdlknlgpaaGreatSubstHashDoneG28
import Derived.Test.YtfaoamdlknlgpaaGreatSubstHashDoneG29
import Derived.Test.YtfaoamdlknlgpaaGreatSubstHashDoneG14
import Derived.Deep.RegionHeld3
/- The document's params: parameters as they may be, without dots. -/
namespace Go.Proofs.YtfaoamdlknlgpaaGreat
open Go.RowKit
set_option linter.unusedVariables false

theorem paramsL_dots (T : List Tm) (ps : List ByteArray) : paramsL T true ps = none := by
  match T with
  | [] => rfl
  | [_] => rfl
  | _ :: _ :: _ => simp [paramsL]

/-- what holds of two tokens that are read on -/
theorem params_step {T2 : List Tm} {p0 p1 : Tm} {O ps : List ByteArray} {r : List Tm} (h : paramsL (p0 :: p1 :: T2) false O = some (r, false, ps)) :
    isP p0 (bs [46, 46, 46]) = false ∧ p0.kind = 1 ∧ p0.text ≠ restN ∧ Lib.idxOfS O p0.text < 0 ∧ ((isP p1 (bs [41]) = true ∧ r = T2 ∧ ps = O ++ [p0.text]) ∨ (isP p1 (bs [41]) = false ∧ isP p1 (bs [44]) = true ∧ paramsL T2 false (O ++ [p0.text]) = some (r, false, ps))) := by
  unfold paramsL at h
  simp only [Bool.false_eq_true, if_false] at h
  have hd : dotsP p0 = isP p0 (bs [46, 46, 46]) := rfl
  rw [← hd]
  cases hx : dotsP p0 with
  | true =>
    rw [hx] at h
    simp only [if_true, paramsL_dots] at h
    by_cases h1 : isP p1 (bs [41]) = true
    · rw [if_pos h1] at h; simp at h
    · rw [if_neg h1] at h; simp at h
  | false =>
    rw [hx] at h
    simp only [Bool.false_eq_true, if_false] at h
    cases hp : parNo O p0 with
    | true => rw [hp] at h; simp at h
    | false =>
      rw [hp] at h
      simp only [Bool.false_eq_true, if_false] at h
      unfold parNo at hp
      simp only [Bool.or_eq_false_iff, Bool.not_eq_false', decide_eq_true_eq, decide_eq_false_iff_not] at hp
      refine ⟨rfl, hp.1.1, hp.1.2, by omega, ?_⟩
      cases h1 : isP p1 (bs [41]) with
      | true =>
        rw [if_pos h1] at h
        simp only [Option.some.injEq, Prod.mk.injEq, true_and] at h
        exact .inl ⟨rfl, h.1.symm, h.2.symm⟩
      | false =>
        rw [h1] at h
        simp only [Bool.false_eq_true, if_false] at h
        cases h2 : isP p1 (bs [44]) with
        | true => rw [if_pos h2] at h; exact .inr ⟨rfl, rfl, h⟩
        | false => rw [h2] at h; simp at h

theorem idx_none {zs : List ByteArray} {x : ByteArray} : ∀ {i : Nat}, Lib.idxFromS zs x i < 0 → ∀ (k : Nat) z, zs[k]? = some z → z ≠ x := by
  induction zs with
  | nil => intro i _ k z hk; simp at hk
  | cons z0 r ih =>
    intro i h k z hk
    rw [idxFrom_step] at h
    simp only at h
    by_cases h0 : z0 = x
    · rw [if_pos h0] at h; omega
    · rw [if_neg h0] at h
      cases k with
      | zero => simp only [List.getElem?_cons_zero, Option.some.injEq] at hk; subst hk; exact h0
      | succ k => exact ih h k z (by simpa using hk)

set_option maxHeartbeats 2000000 in
set_option maxRecDepth 100000 in
theorem rParams_any (T : List (Tm × Value)) (ao : Option Addr) (cap : Nat) (hn : T.length ≤ 1000000) (hcap : T.length ≤ cap) (w : World) (hrow : Row w 8 ao (T.map tvC)) (r : List Tm) (ps : List ByteArray) (hP : paramsTop (T.map (·.1)) = some (r, false, ps)) :
    Calls Tryz.prog 62 #[.slice ao T.length cap] w fun e w' => (∃ (v : Value) (k : Nat), e = .returned (.tuple #[v, .bool false, .int .i64 k, .bool true]) ∧ Hid (k ≤ T.length ∧ r = (T.drop k).map (·.1)) ∧ Own w' w.heap.size 9 1 v (ps.map fun p => [.string p])) ∧ Below w.heap.size w w' := by
  obtain ⟨n, hnn⟩ : ∃ n, n = T.length := ⟨_, rfl⟩
  have HN : Hid (T.length = n) := Lib.hid hnn.symm
  rw [← hnn] at hn hcap ⊢
  clear hnn
  obtain ⟨p, T', hT⟩ : ∃ p T', T = p :: T' := by
    cases hT : T with
    | nil => rw [hT] at hP; simp [paramsTop] at hP
    | cons p T' => exact ⟨p, T', rfl⟩
  have hn1 : 0 < n := by rw [← HN.out, hT]; simp
  have hn0 : (0 : Int) < n := by omega
  have hT0 : T[0]? = some p := by rw [hT]; rfl
  obtain ⟨rb, ro, rfl, hat⟩ := hrow (by rw [hT]; simp)
  have HTk : Hid (∀ (k : Nat) (q : Tm × Value) (x : World), T[k]? = some q → Below w.heap.size w x → x.cell? ⟨rb, ro + k * 8, none⟩ = some (.int .i64 q.1.kind) ∧ x.cell? ⟨rb, ro + k * 8 + 1, none⟩ = some (.string q.1.text) ∧ x.cell? ⟨rb, ro + k * 8 + 2, none⟩ = some (.bool q.1.sp) ∧ x.cell? ⟨rb, ro + k * 8 + 3, none⟩ = some (.string q.1.file) ∧ x.cell? ⟨rb, ro + k * 8 + 4, none⟩ = some (.int .i64 q.1.f) ∧ x.cell? ⟨rb, ro + k * 8 + 5, none⟩ = some (.int .i64 q.1.t) ∧ x.cell? ⟨rb, ro + k * 8 + 6, none⟩ = some (.bool q.1.made) ∧ x.cell? ⟨rb, ro + k * 8 + 7, none⟩ = some q.2) := Lib.hid fun k q x hq hx => tok8 (tok_at (hat.below hx) hq)
  obtain ⟨t0, t1, t2, t3, t4, t5, t6, t7⟩ := HTk.out 0 p w hT0 (Below.refl _ _)
  simp only [Nat.zero_mul, Nat.add_zero] at t0 t1 t2 t3 t4 t5 t6 t7
  have HI := fun (q : Tm × Value) (s : ByteArray) (W : World) => rIs_any q.1 q.2 s W
  unfold tmC at HI
  have HIS := HI p (bs [41]) w
  obtain ⟨x, hx⟩ : ∃ x, x = isP p.1 (bs [41]) := ⟨_, rfl⟩
  rw [← hx] at HIS
  replace HI := Lib.hid HI
  replace HIS := Lib.hid HIS
  replace hT := Lib.hid hT
  replace hP := Lib.hid hP
  clear hrow hat hT0
  go_enter Tryz.func62, Tryz.ntmps62
  go_wp2_with fail
  refine HIS.out.mono ?_
  rintro e w1 ⟨rfl, hb1⟩
  cases x with
  | true =>
    have hr : Hid (r = (T.drop 1).map (·.1) ∧ ps = []) := Lib.hid (by
      have h := hP.out
      rw [hT.out] at h ⊢
      simp [paramsTop, ← hx] at h
      exact ⟨by simp [h.1], h.2⟩)
    replace hx := Lib.hid hx
    go_wp2
    refine bodyPost_ret (results_tmp4 rfl _ _ _) rfl ?_
    exact ⟨⟨.slice none 0 0, 1, rfl, Lib.hid ⟨hn1, hr.out.1⟩, by rw [hr.out.2]; exact Own.nil _ _ _ _⟩, hb1⟩
  | false =>
    have hPP : Hid (paramsL ((T.drop 0).map (·.1)) false [] = some (r, false, ps)) := Lib.hid (by
      have h := hP.out
      rw [hT.out] at h ⊢
      simpa [paramsTop, ← hx] using h)
    replace hx := Lib.hid hx
    clear t0 t1 t2 t3 t4 t5 t6 t7
    go_wp2_with fail
    go_loopg [6, 7] n (fun q v6 v7 wx => ∃ (i : Nat) (O : List ByteArray), q = n - i ∧ i ≤ n ∧ v7 = .int .i64 i ∧ O.length ≤ i ∧ Hid (paramsL ((T.drop i).map (·.1)) false O = some (r, false, ps)) ∧ Own wx w.heap.size 9 1 v6 (O.map fun p => [.string p]) ∧ Below w.heap.size w wx)
    case atStart => exact ⟨0, [], rfl, Nat.zero_le _, rfl, Nat.le_refl _, hPP, Own.nil _ _ _ _, hb1⟩
    case round =>
      obtain ⟨i, O, hq, hi, rfl, hO, hpl, hown, hbw⟩ := hrel
      replace hq := hq.symm
      subst hq
      obtain ⟨on, hon⟩ : ∃ on, on = O.length := ⟨_, rfl⟩
      obtain ⟨oa, oc, rfl, _, _, horow, _⟩ := hown.rown (n := on) (by simp [hon])
      by_cases hin : i + 1 < n
      · have hin' : ((i + 1 : Nat) : Int) < n := by omega
        have hi0' : (i : Int) < n := by omega
        have g1 : IntKind.i64.wrap ((i : Int) + 1) = ((i + 1 : Nat) : Int) := by rw [IntWalk.i64_in _ (by omega)]; omega
        have g2 : IntKind.i64.wrap ((i : Int) + 2) = ((i + 2 : Nat) : Int) := by rw [IntWalk.i64_in _ (by omega)]; omega
        obtain ⟨p0, hp0⟩ : ∃ q, T[i]? = some q := ⟨_, List.getElem?_eq_getElem (by rw [HN.out]; omega)⟩
        obtain ⟨p1, hp1⟩ : ∃ q, T[i + 1]? = some q := ⟨_, List.getElem?_eq_getElem (by rw [HN.out]; omega)⟩
        have hdr : T.drop i = p0 :: p1 :: T.drop (i + 2) := by
          rw [List.drop_eq_getElem_cons (by rw [HN.out]; omega), (List.getElem?_eq_some_iff.1 hp0).2, List.drop_eq_getElem_cons (by rw [HN.out]; omega), (List.getElem?_eq_some_iff.1 hp1).2]
        have hst := hpl.out
        rw [hdr] at hst
        obtain ⟨hdot, hk1, hnv, hix, hnext⟩ := params_step hst
        replace hnext := Lib.hid hnext
        clear hdr hst
        have HD := HI.out p0 (bs [46, 46, 46]) wr
        have HC := fun W => HI.out p1 (bs [41]) W
        have HM := fun W => HI.out p1 (bs [44]) W
        rw [hdot] at HD
        obtain ⟨x1, hx1⟩ : ∃ x, x = isP p1.1 (bs [41]) := ⟨_, rfl⟩
        obtain ⟨x2, hx2⟩ : ∃ x, x = isP p1.1 (bs [44]) := ⟨_, rfl⟩
        simp only [← hx1] at HC
        simp only [← hx2] at HM
        replace HD := Lib.hid HD
        replace HC := Lib.hid HC
        replace HM := Lib.hid HM
        replace hx1 := Lib.hid hx1
        replace hx2 := Lib.hid hx2
        replace hdot := Lib.hid hdot
        obtain ⟨t0, t1, t2, t3, t4, t5, t6, t7⟩ := HTk.out i p0 wr hp0 hbw
        rw [hk1] at t0 HD
        have htb : (p0.1.text.toList == [95, 95, 86, 65, 95, 65, 82, 71, 83, 95, 95]) = false := by rw [beq_text]; exact decide_eq_false hnv
        have hnone : Hid (∀ (k : Nat) z, O[k]? = some z → (z.toList == p0.1.text.toList) = false) := Lib.hid fun k z hz => by
          rw [beq_text2]
          exact decide_eq_false (idx_none (i := 0) hix k z hz)
        have hk1' := Lib.hid hk1
        replace hnv := Lib.hid hnv
        replace hix := Lib.hid hix
        replace hon := Lib.hid hon
        replace horow := Lib.hid horow
        replace hpl := Lib.hid hpl
        clear hk1
        go_wp2_with fail
        refine HD.out.mono ?_
        rintro e w2 ⟨rfl, hb2⟩
        have hbw2 : Below w.heap.size w w2 := hbw.trans (hb2.mono hbw.size)
        have hown2 := hown.below hb2
        replace hown := Lib.hid hown
        have horow2 := Lib.hid (horow.out.below hb2)
        clear t0 t1 t2 t3 t4 t5 t6 t7
        obtain ⟨t0, t1, t2, t3, t4, t5, t6, t7⟩ := HTk.out i p0 w2 hp0 hbw2
        rw [hk1'.out] at t0
        have honn : on ≤ n := by rw [hon.out]; omega
        replace hown2 := Lib.hid hown2
        replace hp0 := Lib.hid hp0
        replace hp1 := Lib.hid hp1
        go_wp2_with fail
        clear t0 t1 t2 t3 t4 t5 t6 t7
        go_loopg [8] on (fun q2 v8 wy => ∃ k : Nat, q2 = on - k ∧ k ≤ on ∧ v8 = .int .i64 k ∧ Hid (Below w2.heap.size w2 wy))
        case atStart => exact ⟨0, rfl, Nat.zero_le _, rfl, Lib.hid (Below.refl _ _)⟩
        case round =>
          rename_i wy _ _
          obtain ⟨k, hq2, hk, rfl, hw2⟩ := hrel
          replace hq2 := hq2.symm
          subst hq2
          have hbwy := hbw2.trans (hw2.out.mono hbw2.size)
          obtain ⟨t0, t1, t2, t3, t4, t5, t6, t7⟩ := HTk.out i p0 _ hp0.out hbwy
          rw [hk1'.out] at t0
          by_cases hko : k < on
          · have hko' : (k : Int) < on := by omega
            have g3 : IntKind.i64.wrap ((k : Int) + 1) = (k : Int) + 1 := IntWalk.i64_in _ (by omega)
            have f4 : Hid (on - (k + 1) < on - k) := Lib.hid (by omega)
            obtain ⟨z, hz⟩ : ∃ z, O[k]? = some z := ⟨_, List.getElem?_eq_getElem (by rw [← hon.out]; exact hko)⟩
            have hzn := hnone.out k z hz
            obtain ⟨ob, oo, rfl, hato⟩ := (horow2.out.below hw2.out) (by intro e; simp at e; rw [e] at hz; simp at hz)
            have hc := hato.cell (i := k) (cs := [.string z]) (by rw [List.getElem?_map, hz]; rfl) (j := 0) rfl
            simp only [Nat.mul_one, Nat.add_zero] at hc
            clear hato hz
            go_wp2_with fail
            go_quiet (fail)
            go_wp2_with fail
            go_roundg (on - (k + 1))
            case measure => exact f4.out
            case rel => exact ⟨k + 1, rfl, hko, by simp, Lib.hid (hw2.out.trans ((below_drewN (Below.refl _ _) _).mono hw2.out.size))⟩
          · have hko' : ¬ (k : Int) < on := by omega
            have hlen : (O.map fun p => [Value.string p]).length + 1 ≤ 1000000000 := by rw [List.length_map]; omega
            have hownx := hown2.out.below hw2.out
            replace hlen := Lib.hid hlen
            go_wp2_with (at_builtin; go_must (refine wpList_append1 E9 rfl rfl hownx rfl rfl (news := [.string p0.1.text]) rfl rfl (by simp [Value.oneCell']) hlen.out (by decide) hbwy.size ?_); intro v3 w3 hown3 hg3; obtain ⟨ao3, cap3, rfl, _, _, _, _⟩ := hown3.rown (n := on + 1) (by simp [hon.out]); have hb3 := bapp hbwy hownx hg3 hbwy.size; obtain ⟨s0, s1, s2, s3, s4, s5, s6, s7⟩ := HTk.out (i + 1) p1 w3 hp1.out hb3)
            refine (HC.out _).mono ?_
            rintro e w4 ⟨rfl, hb4⟩
            have hb4' := hb3.trans (hb4.mono hb3.size)
            have hown4 := hown3.below hb4
            have hnx := hnext.out
            rw [← hx1.out, ← hx2.out] at hnx
            cases x1 with
            | true =>
              have hfin : Hid (r = (T.drop (i + 2)).map (·.1) ∧ ps = O ++ [p0.1.text]) := Lib.hid (by
                rcases hnx with h | h
                · exact h.2
                · simp at h)
              clear hnx
              go_wp2
              refine bodyPost_ret (results_tmp4 rfl _ _ _) rfl ?_
              exact ⟨⟨.slice ao3 (on + 1) cap3, i + 2, by simp, Lib.hid ⟨by omega, hfin.out.1⟩, by rw [hfin.out.2, List.map_append]; exact hown4⟩, hb4'⟩
            | false =>
              have hfin : Hid (x2 = true ∧ paramsL ((T.drop (i + 2)).map (·.1)) false (O ++ [p0.1.text]) = some (r, false, ps)) := Lib.hid (by
                rcases hnx with h | h
                · simp at h
                · exact h.2)
              clear hnx
              have hx2t := hfin.out.1
              subst hx2t
              obtain ⟨s0, s1, s2, s3, s4, s5, s6, s7⟩ := HTk.out (i + 1) p1 w4 hp1.out hb4'
              go_wp2_with fail
              refine (HM.out _).mono ?_
              rintro e w5 ⟨rfl, hb5⟩
              have hb5' := hb4'.trans (hb5.mono hb4'.size)
              have hown5 := hown4.below hb5
              clear s0 s1 s2 s3 s4 s5 s6 s7
              go_wp2_with fail
              go_roundg (n - (i + 2))
              case measure => omega
              case rel => exact ⟨i + 2, O ++ [p0.1.text], rfl, by omega, by simp, by simp; omega, Lib.hid hfin.out.2, by rw [List.map_append]; exact hown5, hb5'⟩
      · have hst := hpl.out
        rw [paramsL_short (by rw [List.length_map, List.length_drop, HN.out]; omega)] at hst
        cases hst
end Go.Proofs.YtfaoamdlknlgpaaGreat

/- The document's ill: a body where all may stand. -/
namespace Go.Proofs.YtfaoamdlknlgpaaGreat
open Go.RowKit
set_option linter.unusedVariables false

/-- is the next token a parameter? -/
def behindB (ps : List ByteArray) (o : Option Tm) : Bool := match o with | some u => decide (u.kind = 1) && decide (0 ≤ Lib.idxOfS ps u.text) | none => false

theorem paste_hash {t : Tm} (h : pasteP t = true) : hashP t = false ∧ t.kind = 5 := by
  unfold pasteP isP at h
  simp only [Bool.or_eq_true, Bool.and_eq_true, decide_eq_true_eq] at h
  unfold hashP
  rcases h with ⟨h1, h2⟩ | ⟨h1, h2⟩
  · refine ⟨?_, h1⟩
    rw [h2]
    simp [bs]
  · refine ⟨?_, h1⟩
    rw [h2]
    simp [bs]

theorem hash_kind {t : Tm} (h : hashP t = true) : t.kind = 5 := by
  unfold hashP at h
  simp only [Bool.and_eq_true, decide_eq_true_eq] at h
  exact h.1

/-- what a token that may stand is -/
theorem bad_parts {fn va : Bool} {ps : List ByteArray} {body : List Tm} {i : Nat} {t : Tm} (hi : body[i]? = some t) (h : badAt fn va ps body i t = false) :
    (pasteP t = true ∧ hashP t = false ∧ (t.kind == 1) = false ∧ i ≠ 0 ∧ i + 1 ≠ body.length) ∨
    (pasteP t = false ∧ fn = true ∧ hashP t = true ∧ (t.kind == 1) = false ∧ behindB ps body[i + 1]? = true) ∨
    (pasteP t = false ∧ (fn = false ∨ hashP t = false) ∧ ((t.kind == 1) = false ∨ (t.kind == 1) = true ∧ t.text ≠ restN ∨ (t.kind == 1) = true ∧ t.text = restN ∧ va = true)) := by
  unfold badAt at h
  cases hp : pasteP t with
  | true =>
    rw [hp] at h
    simp only [if_true, Bool.or_eq_false_iff, decide_eq_false_iff_not] at h
    obtain ⟨h1, h2⟩ := paste_hash hp
    exact .inl ⟨rfl, h1, by rw [h2]; rfl, h.1, h.2⟩
  | false =>
    rw [hp] at h
    simp only [Bool.false_eq_true, if_false] at h
    cases hf : (fn && hashP t) with
    | true =>
      rw [hf] at h
      simp only [Bool.and_eq_true] at hf
      simp only [if_true, Bool.or_eq_false_iff, decide_eq_false_iff_not] at h
      refine .inr (.inl ⟨rfl, hf.1, hf.2, by rw [hash_kind hf.2]; rfl, ?_⟩)
      have h2 := h.2
      cases hu : body[i + 1]? with
      | none => rw [hu] at h2; simp at h2
      | some u =>
        rw [hu] at h2
        simp only [decide_eq_false_iff_not] at h2
        unfold ofP at h2
        rw [hf.1] at h2
        unfold behindB
        simp only
        by_cases hk : u.kind = 1
        · simp [hk] at h2 ⊢
          omega
        · simp [hk] at h2
    | false =>
      rw [hf] at h
      simp only [Bool.false_eq_true, if_false] at h
      refine .inr (.inr ⟨rfl, by cases fn <;> simp_all, ?_⟩)
      by_cases hk : t.kind = 1
      · by_cases ht : t.text = restN
        · simp [hk, ht] at h
          exact .inr (.inr ⟨by rw [hk]; rfl, ht, h⟩)
        · exact .inr (.inl ⟨by rw [hk]; rfl, ht⟩)
      · exact .inl (by simpa using hk)

set_option maxHeartbeats 2000000 in
set_option maxRecDepth 100000 in
theorem rIll_any (m : Mac) (T : List (Tm × Value)) (pao : Option Addr) (pcap : Nat) (bao : Option Addr) (bcap : Nat) (hpn : m.params.length ≤ 1000000) (hn : T.length ≤ 1000000) (hcap : T.length ≤ bcap) (w : World) (hps : Row w 1 pao (m.params.map fun p => [.string p])) (hrow : Row w 8 bao (T.map tvC)) (hsl : ∀ p ∈ T, SlV p.2) (hbody : T.map (·.1) = m.body) (hok : ∀ (i : Nat) t, m.body[i]? = some t → badAt m.fn m.va m.params m.body i t = false) :
    Calls Tryz.prog 63 #[.agg (mcC m.name m.fn m.va (.slice pao m.params.length pcap) (.slice bao T.length bcap) m.file m.f m.t).toArray] w fun e w' => e = .returned (.int .i64 (-1)) ∧ Below w.heap.size w w' := by
  obtain ⟨n, hnn⟩ : ∃ n, n = T.length := ⟨_, rfl⟩
  have HN : Hid (T.length = n) := Lib.hid hnn.symm
  have hbl : Hid (m.body.length = n) := Lib.hid (by rw [← hbody, List.length_map, hnn])
  rw [← hnn] at hn hcap ⊢
  clear hnn
  obtain ⟨name, fn, va, params, body, file, f, t⟩ := m
  simp only at hpn hps hbody hok hbl ⊢
  obtain ⟨pn, hpp⟩ : ∃ pn, pn = params.length := ⟨_, rfl⟩
  have HPm := fun (x : ByteArray) (W : World) (hW : Row W 1 pao (params.map fun p => [.string p])) => rParam_any name fn va (.slice bao n bcap) file f t params pao pcap x (by omega) ⟨_, _, _, rfl⟩ W hW
  rw [← hpp] at hpn HPm ⊢
  replace hpp := Lib.hid hpp
  unfold mcC
  obtain ⟨W1, hW1⟩ : ∃ W1, W1 = w.alloc (.cells #[.string name, .bool fn, .bool va, .slice pao pn pcap, .slice bao n bcap, .string file, .int .i64 f, .int .i64 t] 47) := ⟨_, rfl⟩
  have b1 : Hid (Below w.heap.size w W1) := Lib.hid (by rw [hW1]; exact (Below.refl _ w).alloc (Nat.le_refl _) _)
  have hc1 : Hid (W1.heap[w.heap.size]? = some (.cells #[.string name, .bool fn, .bool va, .slice pao pn pcap, .slice bao n bcap, .string file, .int .i64 f, .int .i64 t] 47 (0, 0))) := Lib.hid (by rw [hW1]; exact heap_alloc_new w _)
  have HC : Hid (∀ x, Below W1.heap.size W1 x → x.cell? ⟨w.heap.size, 0, none⟩ = some (.string name) ∧ x.cell? ⟨w.heap.size, 1, none⟩ = some (.bool fn) ∧ x.cell? ⟨w.heap.size, 2, none⟩ = some (.bool va) ∧ x.cell? ⟨w.heap.size, 3, none⟩ = some (.slice pao pn pcap) ∧ x.cell? ⟨w.heap.size, 4, none⟩ = some (.slice bao n bcap) ∧ x.cell? ⟨w.heap.size, 5, none⟩ = some (.string file) ∧ x.cell? ⟨w.heap.size, 6, none⟩ = some (.int .i64 f) ∧ x.cell? ⟨w.heap.size, 7, none⟩ = some (.int .i64 t)) := Lib.hid fun x hx => cells8 ((hx.block _ (lt_of_block hc1.out)).trans hc1.out)
  have HP : Hid (∀ (y : ByteArray) (x : World), Below W1.heap.size W1 x → Calls Tryz.prog 82 #[.agg #[.string name, .bool fn, .bool va, .slice pao pn pcap, .slice bao n bcap, .string file, .int .i64 f, .int .i64 t], .string y] x fun e w' => e = .returned (.int .i64 (Lib.idxOfS params y)) ∧ Below x.heap.size x w') := Lib.hid fun y x hx => HPm y x ((hps.below b1.out).below hx)
  replace hrow := Lib.hid (hrow.below b1.out)
  replace hsl := Lib.hid hsl
  replace hbody := Lib.hid hbody
  replace hok := Lib.hid hok
  have HPa := Lib.hid (fun (q : Tm) (v : Value) (W : World) => rPaster_any q v W)
  have HHa := Lib.hid (fun (q : Tm) (v : Value) (W : World) => rHash_any q v W)
  unfold tmC at HPa HHa
  clear HPm hps
  go_enter Tryz.func63, Tryz.ntmps63
  go_wp2_with fail
  rw [← hW1]
  replace hW1 := Lib.hid hW1
  go_loopg [3] n (fun q v3 wx => ∃ i : Nat, q = n - i ∧ i ≤ n ∧ v3 = .int .i64 i ∧ Hid (Below W1.heap.size W1 wx))
  case atStart => exact ⟨0, rfl, Nat.zero_le _, rfl, Lib.hid (Below.refl _ _)⟩
  case round =>
    obtain ⟨i, hq, hi, rfl, hbw⟩ := hrel
    replace hq := hq.symm
    subst hq
    obtain ⟨c0, c1, c2, c3, c4, c5, c6, c7⟩ := HC.out wr hbw.out
    by_cases hin : i < n
    · have hin' : (i : Int) < n := by omega
      have g1 : IntKind.i64.wrap ((i : Int) + 1) = (i : Int) + 1 := IntWalk.i64_in _ (by omega)
      have f4 : Hid (n - (i + 1) < n - i) := Lib.hid (by omega)
      obtain ⟨⟨tk, v⟩, hp⟩ : ∃ q, T[i]? = some q := ⟨_, List.getElem?_eq_getElem (by rw [HN.out]; exact hin)⟩
      obtain ⟨sa, sn, sc, hv⟩ := hsl.out _ (List.mem_of_getElem? hp)
      simp only at hv
      subst hv
      obtain ⟨rb, ro, rfl, hat⟩ := hrow.out (by intro e; simp at e; rw [e] at hp; simp at hp)
      have hbi : body[i]? = some tk := by rw [← hbody.out, List.getElem?_map, hp]; rfl
      have hparts := bad_parts hbi (hok.out i tk hbi)
      rw [hbl.out] at hparts
      have HTk : Hid (∀ (k : Nat) (q : Tm × Value) (x : World), T[k]? = some q → Below W1.heap.size W1 x → x.cell? ⟨rb, ro + k * 8, none⟩ = some (.int .i64 q.1.kind) ∧ x.cell? ⟨rb, ro + k * 8 + 1, none⟩ = some (.string q.1.text) ∧ x.cell? ⟨rb, ro + k * 8 + 2, none⟩ = some (.bool q.1.sp) ∧ x.cell? ⟨rb, ro + k * 8 + 3, none⟩ = some (.string q.1.file) ∧ x.cell? ⟨rb, ro + k * 8 + 4, none⟩ = some (.int .i64 q.1.f) ∧ x.cell? ⟨rb, ro + k * 8 + 5, none⟩ = some (.int .i64 q.1.t) ∧ x.cell? ⟨rb, ro + k * 8 + 6, none⟩ = some (.bool q.1.made) ∧ x.cell? ⟨rb, ro + k * 8 + 7, none⟩ = some q.2) := Lib.hid fun k q x hq hx => tok8 (tok_at (hat.below hx) hq)
      obtain ⟨t0, t1, t2, t3, t4, t5, t6, t7⟩ := HTk.out i _ wr hp hbw.out
      simp only at t0 t1 t2 t3 t4 t5 t6 t7
      obtain ⟨Bh, hBh⟩ : ∃ B, B = behindB params body[i + 1]? := ⟨_, rfl⟩
      rw [← hBh] at hparts
      replace hparts := Lib.hid hparts
      replace hBh := Lib.hid hBh
      replace hbi := Lib.hid hbi
      have hpH := Lib.hid hp
      clear hat hp
      obtain ⟨W2, hW2⟩ : ∃ W2, W2 = wr.alloc (.cells #[.int .i64 tk.kind, .string tk.text, .bool tk.sp, .string tk.file, .int .i64 tk.f, .int .i64 tk.t, .bool tk.made, .slice sa sn sc] 34) := ⟨_, rfl⟩
      have b2 : Hid (Below wr.heap.size wr W2) := Lib.hid (by rw [hW2]; exact (Below.refl _ wr).alloc (Nat.le_refl _) _)
      have hb2 : Hid (Below W1.heap.size W1 W2) := Lib.hid (hbw.out.trans (b2.out.mono hbw.out.size))
      have hc2 : Hid (W2.heap[wr.heap.size]? = some (.cells #[.int .i64 tk.kind, .string tk.text, .bool tk.sp, .string tk.file, .int .i64 tk.f, .int .i64 tk.t, .bool tk.made, .slice sa sn sc] 34 (0, 0))) := Lib.hid (by rw [hW2]; exact heap_alloc_new wr _)
      go_upto_region 5 with fail
      rw [← hW2]
      replace hW2 := Lib.hid hW2
      go_cut [5] from 18 to 46 (fun s5 wx => s5 = .bool Bh ∧ Hid (Below W2.heap.size W2 wx))
      case first =>
        clear c0 c1 c2 c3 c4 c5 c6 c7 t0 t1 t2 t3 t4 t5 t6 t7
        obtain ⟨c0, c1, c2, c3, c4, c5, c6, c7⟩ := HC.out W2 hb2.out
        by_cases hnx : i + 1 < n
        · have hnx' : decide ((i : Int) + 1 < n) = true := decide_eq_true (by omega)
          have hnx2 : (i : Int) + 1 < n := by omega
          have hz1 : (0 : Int) ≤ (i : Int) + 1 := by omega
          have hz2 : ((i : Int) + 1).toNat = i + 1 := by omega
          obtain ⟨⟨tu, vu⟩, hu⟩ : ∃ q, T[i + 1]? = some q := ⟨_, List.getElem?_eq_getElem (by rw [HN.out]; exact hnx)⟩
          obtain ⟨t0, t1, t2, t3, t4, t5, t6, t7⟩ := HTk.out (i + 1) _ W2 hu hb2.out
          simp only at t0 t1 t2 t3 t4 t5 t6 t7
          have hbu : body[i + 1]? = some tu := by rw [← hbody.out, List.getElem?_map, hu]; rfl
          have hB2 := hBh.out
          rw [hbu] at hB2
          unfold behindB at hB2
          simp only at hB2
          replace hu := Lib.hid hu
          replace hbu := Lib.hid hbu
          by_cases hk : tu.kind = 1
          · have hB3 : Bh = decide (0 ≤ Lib.idxOfS params tu.text) := by rw [hB2, decide_eq_true hk, Bool.true_and]
            rw [hk] at t0
            obtain ⟨ix, hix⟩ : ∃ ix, ix = Lib.idxOfS params tu.text := ⟨_, rfl⟩
            have HPm := HP.out tu.text
            rw [← hix] at HPm hB3
            replace HPm := Lib.hid HPm
            replace hB2 := Lib.hid hB2
            replace hB3 := Lib.hid hB3
            replace hk := Lib.hid hk
            replace hix := Lib.hid hix
            have hr2 := Below.refl W2.heap.size W2
            go_region_with (first | (go_at_call 82; refine (HPm.out _ hb2.out.drew).mono ?_; rintro e w5 ⟨rfl, hb5⟩))
            all_goals
              go_wp2_with fail
              go_meet
              case rel => exact ⟨by rw [hB3.out], Lib.hid (hr2.drew.trans (hb5.mono hr2.drew.size))⟩
          · have hkb : (tu.kind == 1) = false := by simpa using hk
            have hB3 : Bh = false := by rw [hB2, decide_eq_false hk]; rfl
            subst hB3
            replace hB2 := Lib.hid hB2
            replace hk := Lib.hid hk
            go_quiet (fail)
            go_wp2_with fail
            go_meet
            case rel => exact ⟨rfl, Lib.hid (below_drewN (Below.refl _ _) _)⟩
        · have hnx' : decide ((i : Int) + 1 < n) = false := decide_eq_false (by omega)
          have hB3 : Bh = false := by rw [hBh.out, List.getElem?_eq_none (by rw [hbl.out]; omega)]; rfl
          subst hB3
          go_quiet (fail)
          go_wp2_with fail
          go_meet
          case rel => exact ⟨rfl, Lib.hid (below_drewN (Below.refl _ _) _)⟩
      case rest =>
        obtain ⟨rfl, hbc⟩ := hcut
        have hb3 := hb2.out.trans (hbc.out.mono hb2.out.size)
        clear c0 c1 c2 c3 c4 c5 c6 c7 t0 t1 t2 t3 t4 t5 t6 t7
        have hc3 := Lib.hid ((hbc.out.block _ (lt_of_block hc2.out)).trans hc2.out)
        obtain ⟨m0, m1, m2, m3, m4, m5, m6, m7⟩ := cells8 hc3.out
        have HQ := Lib.hid (HPa.out tk (.slice sa sn sc))
        have HR := Lib.hid (HHa.out tk (.slice sa sn sc))
        rcases hparts.out with ⟨e1, e2, e3, e4, e5⟩ | ⟨e1, e2, e3, e4, e5⟩ | ⟨e1, e2, e3⟩
        all_goals
          rw [e1] at HQ
        all_goals
          go_wp2_with fail
          refine (HQ.out _).mono ?_
          rintro e w4 ⟨rfl, hb4⟩
          have hb4' := hb3.trans (hb4.mono hb3.size)
          clear m0 m1 m2 m3 m4 m5 m6 m7
          obtain ⟨c0, c1, c2, c3, c4, c5, c6, c7⟩ := HC.out w4 hb4'
          have hc4 := Lib.hid ((hb4.block _ (lt_of_block hc3.out)).trans hc3.out)
          obtain ⟨m0, m1, m2, m3, m4, m5, m6, m7⟩ := cells8 hc4.out
        · rw [e2] at HR
          have z1 : ((i : Int) == 0) = false := by simpa using e4
          have z2 : ((i : Int) + 1 == (n : Int)) = false := by simp; omega
          replace e1 := Lib.hid e1
          replace e2 := Lib.hid e2
          replace e4 := Lib.hid e4
          replace e5 := Lib.hid e5
          cases fn with
          | false =>
            go_wp2_with fail
            go_roundg (n - (i + 1))
            case measure => exact f4.out
            case rel => exact ⟨i + 1, rfl, hin, by simp, Lib.hid hb4'⟩
          | true =>
            go_wp2_with fail
            refine (HR.out _).mono ?_
            rintro e w5 ⟨rfl, hb5⟩
            have hb5' := hb4'.trans (hb5.mono hb4'.size)
            clear m0 m1 m2 m3 m4 m5 m6 m7 c0 c1 c2 c3 c4 c5 c6 c7
            obtain ⟨c0, c1, c2, c3, c4, c5, c6, c7⟩ := HC.out w5 hb5'
            have hc5 := Lib.hid ((hb5.block _ (lt_of_block hc4.out)).trans hc4.out)
            obtain ⟨m0, m1, m2, m3, m4, m5, m6, m7⟩ := cells8 hc5.out
            go_wp2_with fail
            go_roundg (n - (i + 1))
            case measure => exact f4.out
            case rel => exact ⟨i + 1, rfl, hin, by simp, Lib.hid hb5'⟩
        · rw [e3] at HR
          subst e2
          subst e5
          replace e1 := Lib.hid e1
          replace e3 := Lib.hid e3
          go_wp2_with fail
          refine (HR.out _).mono ?_
          rintro e w5 ⟨rfl, hb5⟩
          have hb5' := hb4'.trans (hb5.mono hb4'.size)
          clear m0 m1 m2 m3 m4 m5 m6 m7 c0 c1 c2 c3 c4 c5 c6 c7
          obtain ⟨c0, c1, c2, c3, c4, c5, c6, c7⟩ := HC.out w5 hb5'
          have hc5 := Lib.hid ((hb5.block _ (lt_of_block hc4.out)).trans hc4.out)
          obtain ⟨m0, m1, m2, m3, m4, m5, m6, m7⟩ := cells8 hc5.out
          go_wp2_with fail
          go_roundg (n - (i + 1))
          case measure => exact f4.out
          case rel => exact ⟨i + 1, rfl, hin, by simp, Lib.hid hb5'⟩
        · replace e1 := Lib.hid e1
          cases fn with
          | false =>
            rcases e3 with k1 | ⟨k1, k2⟩ | ⟨k1, k2, k3⟩
            · replace k1 := k1
              go_wp2_with fail
              go_roundg (n - (i + 1))
              case measure => exact f4.out
              case rel => exact ⟨i + 1, rfl, hin, by simp, Lib.hid hb4'⟩
            · have htb : (tk.text.toList == [95, 95, 86, 65, 95, 65, 82, 71, 83, 95, 95]) = false := by rw [beq_text]; exact decide_eq_false k2
              replace k2 := Lib.hid k2
              go_wp2_with fail
              go_roundg (n - (i + 1))
              case measure => exact f4.out
              case rel => exact ⟨i + 1, rfl, hin, by simp, Lib.hid hb4'⟩
            · have htb : (tk.text.toList == [95, 95, 86, 65, 95, 65, 82, 71, 83, 95, 95]) = true := by rw [beq_text]; exact decide_eq_true k2
              replace k2 := Lib.hid k2
              subst k3
              go_wp2_with fail
              go_roundg (n - (i + 1))
              case measure => exact f4.out
              case rel => exact ⟨i + 1, rfl, hin, by simp, Lib.hid hb4'⟩
          | true =>
            replace e2 : hashP tk = false := by simpa using e2
            rw [e2] at HR
            replace e2 := Lib.hid e2
            go_wp2_with fail
            refine (HR.out _).mono ?_
            rintro e w5 ⟨rfl, hb5⟩
            have hb5' := hb4'.trans (hb5.mono hb4'.size)
            clear m0 m1 m2 m3 m4 m5 m6 m7 c0 c1 c2 c3 c4 c5 c6 c7
            obtain ⟨c0, c1, c2, c3, c4, c5, c6, c7⟩ := HC.out w5 hb5'
            have hc5 := Lib.hid ((hb5.block _ (lt_of_block hc4.out)).trans hc4.out)
            obtain ⟨m0, m1, m2, m3, m4, m5, m6, m7⟩ := cells8 hc5.out
            rcases e3 with k1 | ⟨k1, k2⟩ | ⟨k1, k2, k3⟩
            · replace k1 := k1
              go_wp2_with fail
              go_roundg (n - (i + 1))
              case measure => exact f4.out
              case rel => exact ⟨i + 1, rfl, hin, by simp, Lib.hid hb5'⟩
            · have htb : (tk.text.toList == [95, 95, 86, 65, 95, 65, 82, 71, 83, 95, 95]) = false := by rw [beq_text]; exact decide_eq_false k2
              replace k2 := Lib.hid k2
              go_wp2_with fail
              go_roundg (n - (i + 1))
              case measure => exact f4.out
              case rel => exact ⟨i + 1, rfl, hin, by simp, Lib.hid hb5'⟩
            · have htb : (tk.text.toList == [95, 95, 86, 65, 95, 65, 82, 71, 83, 95, 95]) = true := by rw [beq_text]; exact decide_eq_true k2
              replace k2 := Lib.hid k2
              subst k3
              go_wp2_with fail
              go_roundg (n - (i + 1))
              case measure => exact f4.out
              case rel => exact ⟨i + 1, rfl, hin, by simp, Lib.hid hb5'⟩
    · have hin' : ¬ (i : Int) < n := by omega
      go_wp2
      go_ret
      exact ⟨rfl, b1.out.trans (hbw.out.mono b1.out.size)⟩
end Go.Proofs.YtfaoamdlknlgpaaGreat
