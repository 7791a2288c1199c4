/- Texts of this seat's proofs, laid into one file. -/
import Derived.Test.YthbicbfdldpemaaMacroFormsDoneG21
import Derived.Deep.LoopGhost
import Derived.Deep.Cut
import Derived.Deep.CutRange
import Derived.Deep.CutBlock
/- macro's parameters: the walk. -/
namespace Go.Proofs.Ythbicbfdldpemaa
open Go.RowKit
set_option linter.unusedVariables false

open Classical in
theorem wp_scope_ghost {P : Program} {a : Act} {w : World} {Q : Exit → Act → World → Prop} {c rest : Code} (l : Nat) (J : Nat → Act → World → Prop) (hf : findLabel c l = some (.seq .skip rest))
    (first : (Hid (∀ n a w, J n a w → rest.wp P (Exit.jump l (fun a w => ∃ n, J n a w) Q) a w)) → c.wp P (Exit.jump l (fun a w => ∃ n, J n a w) Q) a w)
    (pass : ∀ n a w, J n a w → rest.wp P (Exit.jump l (fun a' w' => ∃ n', n' < n ∧ J n' a' w') Q) a w) : (Code.scope c).wp P Q a w := by
  refine wp_scope_loop l (fun a w => ∃ n, J n a w) (fun a w => leastOf (fun n => J n a w)) hf ?_ ?_
  · intro h
    exact first (Lib.hid (fun n a w hj => h.out a w ⟨n, hj⟩))
  · rintro a w hj
    have hl := leastOf_spec hj
    refine Code.wp_mono ?_ (pass _ a w hl.1)
    intro e a' w' q
    cases e <;> first
      | exact q
      | exact ⟨q.1, ⟨_, q.2.choose_spec.2⟩, Nat.lt_of_le_of_lt ((leastOf_spec ⟨_, q.2.choose_spec.2⟩).2 _ q.2.choose_spec.2) q.2.choose_spec.1⟩

theorem tok8b {w : World} {rb o : Nat} {t : Tm} {v : Value} {c : List Value} {css : List (List Value)} (h : RowAt w 8 rb o (c :: tmC t v :: css)) :
    w.cell? ⟨rb, o + 8, none⟩ = some (.int .i64 t.kind) ∧ w.cell? ⟨rb, o + 9, none⟩ = some (.string t.text) ∧ w.cell? ⟨rb, o + 10, none⟩ = some (.bool t.sp) ∧ w.cell? ⟨rb, o + 11, none⟩ = some (.string t.file) ∧ w.cell? ⟨rb, o + 12, none⟩ = some (.int .i64 t.f) ∧ w.cell? ⟨rb, o + 13, none⟩ = some (.int .i64 t.t) ∧ w.cell? ⟨rb, o + 14, none⟩ = some (.bool t.made) ∧ w.cell? ⟨rb, o + 15, none⟩ = some v :=
  tok8 (o := o + 8) (t := t) (v := v) (css := css) (by have := h.drop 1; simpa using this)

theorem mc_set1 {w : World} {b : Nat} {a0 a1 a2 a3 a4 a5 a6 a7 : Value} {e : TypeId} {fz : Nat × Nat} (h : w.heap[b]? = some (.cells #[a0, a1, a2, a3, a4, a5, a6, a7] e fz)) (u : Value) :
    (w.setCell ⟨b, 1, none⟩ u).heap[b]? = some (.cells #[a0, u, a2, a3, a4, a5, a6, a7] e fz) := by
  rw [setCell_eq_setRow _ _ _ _ _ _ _ h, setRow_heap _ _ _ _ _ _ h]
  rfl
theorem mc_set2 {w : World} {b : Nat} {a0 a1 a2 a3 a4 a5 a6 a7 : Value} {e : TypeId} {fz : Nat × Nat} (h : w.heap[b]? = some (.cells #[a0, a1, a2, a3, a4, a5, a6, a7] e fz)) (u : Value) :
    (w.setCell ⟨b, 2, none⟩ u).heap[b]? = some (.cells #[a0, a1, u, a3, a4, a5, a6, a7] e fz) := by
  rw [setCell_eq_setRow _ _ _ _ _ _ _ h, setRow_heap _ _ _ _ _ _ h]
  rfl
theorem mc_set3 {w : World} {b : Nat} {a0 a1 a2 a3 a4 a5 a6 a7 : Value} {e : TypeId} {fz : Nat × Nat} (h : w.heap[b]? = some (.cells #[a0, a1, a2, a3, a4, a5, a6, a7] e fz)) (u : Value) :
    (w.setCell ⟨b, 3, none⟩ u).heap[b]? = some (.cells #[a0, a1, a2, u, a4, a5, a6, a7] e fz) := by
  rw [setCell_eq_setRow _ _ _ _ _ _ _ h, setRow_heap _ _ _ _ _ _ h]
  rfl
theorem mc_set4 {w : World} {b : Nat} {a0 a1 a2 a3 a4 a5 a6 a7 : Value} {e : TypeId} {fz : Nat × Nat} (h : w.heap[b]? = some (.cells #[a0, a1, a2, a3, a4, a5, a6, a7] e fz)) (u : Value) :
    (w.setCell ⟨b, 4, none⟩ u).heap[b]? = some (.cells #[a0, a1, a2, a3, u, a5, a6, a7] e fz) := by
  rw [setCell_eq_setRow _ _ _ _ _ _ _ h, setRow_heap _ _ _ _ _ _ h]
  rfl

theorem paramsL_short {T : List Tm} {va : Bool} {ps : List ByteArray} (h : T.length < 2) : paramsL T va ps = none := by
  match T, h with
  | [], _ => rfl
  | [_], _ => rfl

theorem E9 : EI Try.prog 22 9 (.string ⟨#[]⟩) 1 16 := ⟨Try.underlying22, by kernel_rfl, rfl, by decide⟩

theorem par_row {w : World} {b rb o k : Nat} {T T2 : List (Tm × Value)} {p0 p1 : Tm × Value} (HT : ∀ w', Below b w w' → RowAt w' 8 rb o (tvC p0 :: tvC p1 :: T2.map tvC)) (hT3 : T2 = T.drop (k + 2)) : ∀ w', Below b w w' → Row w' 8 (some ⟨rb, o + 16, none⟩) ((T.drop (k + 2)).map tvC) := by
  intro w' hb' _
  have := (HT w' hb').drop 2
  rw [← hT3]
  exact ⟨rb, o + 16, rfl, this⟩

/-- what params gives -/
def ParPost (T : List (Tm × Value)) (b : Nat) (name file : ByteArray) (f t : Int) (w : World) (r : Option (List Tm × Bool × List ByteArray)) (e : Ending) (w' : World) : Prop :=
  match r with
  | none => e = .returned (.tuple #[.slice none 0 0, .bool false])
  | some (r, va, ps) => ∃ k ao' cap' psv, e = .returned (.tuple #[.slice ao' (T.length - k) cap', .bool true]) ∧ k ≤ T.length ∧ T.length - k ≤ cap' ∧ r = (T.drop k).map (·.1) ∧ (∀ w'', Below b w w'' → Row w'' 8 ao' ((T.drop k).map tvC)) ∧ Own w' (b + 1) 9 1 psv (ps.map fun p => [.string p]) ∧ w'.heap[b]? = some (.cells (mcC name true va psv (.slice none 0 0) file f t).toArray 29 (0, 0))

/-- what holds at the label: q tokens are left -/
def ParJ (T : List (Tm × Value)) (n b : Nat) (name file : ByteArray) (f t : Int) (w : World) (PT : Option (List Tm × Bool × List ByteArray)) (q : Nat) (a' : Act) (wr : World) : Prop :=
  ∃ (k : Nat) (va : Bool) (ps : List ByteArray) (ak : Option Addr) (C : Nat) (psv : Value) (u2 u3 u4 u5 u6 u7 u8 u9 u10 u11 u12 u13 u14 u15 u16 u17 u18 u19 u20 u21 u22 u23 u24 u25 u26 u27 u28 u29 u30 u31 u32 u33 u34 u35 u36 u37 u38 u39 u40 u41 u42 u43 u44 u45 u46 u47 u48 u49 u50 u51 u52 u53 u54 u55 u56 u57 u58 u59 u60 u61 u62 u63 u64 u65 u66 u67 u68 u69 u70 u71 u72 u73 u74 u75 u76 u77 u78 : Value), a' = { tmps := #[.pointer (some ⟨b, 0, none⟩), .slice ak q C, u2, u3, u4, u5, u6, u7, u8, u9, u10, u11, u12, u13, u14, u15, u16, u17, u18, u19, u20, u21, u22, u23, u24, u25, u26, u27, u28, u29, u30, u31, u32, u33, u34, u35, u36, u37, u38, u39, u40, u41, u42, u43, u44, u45, u46, u47, u48, u49, u50, u51, u52, u53, u54, u55, u56, u57, u58, u59, u60, u61, u62, u63, u64, u65, u66, u67, u68, u69, u70, u71, u72, u73, u74, u75, u76, u77, u78], defers := [] } ∧
    q + k = n ∧ q ≤ C ∧ Hid (∀ w', Below b w w' → Row w' 8 ak ((T.drop k).map tvC)) ∧ Below b w wr ∧ Own wr (b + 1) 9 1 psv (ps.map fun p => [.string p]) ∧ ps.length ≤ k ∧
    wr.heap[b]? = some (.cells #[.string name, .bool true, .bool va, psv, .slice none 0 0, .string file, .int .i64 f, .int .i64 t] 29 (0, 0)) ∧ Hid (PT = paramsL ((T.drop k).map (·.1)) va ps)

set_option maxHeartbeats 2000000 in
set_option maxRecDepth 100000 in
theorem mParams_any (T : List (Tm × Value)) (ao : Option Addr) (cap b : Nat) (name file : ByteArray) (f t : Int) (hn : T.length ≤ 1000000) (hcap : T.length ≤ cap) (w : World)
    (HR : ∀ w', Below b w w' → Row w' 8 ao (T.map tvC))
    (hb : w.heap[b]? = some (.cells (mcC name true false (.slice none 0 0) (.slice none 0 0) file f t).toArray 29 (0, 0))) :
    Calls Try.prog 43 #[.pointer (some ⟨b, 0, none⟩), .slice ao T.length cap] w fun e w' => Below b w w' ∧ ParPost T b name file f t w (paramsTop (T.map (·.1))) e w' := by
  obtain ⟨n, hnn⟩ : ∃ n, n = T.length := ⟨_, rfl⟩
  have HN : Hid (T.length = n) := Lib.hid hnn.symm
  replace HR := Lib.hid HR
  unfold mcC at hb
  rw [← hnn] at hn hcap ⊢
  obtain ⟨PT, hPT⟩ : ∃ PT, PT = paramsTop (T.map (·.1)) := ⟨_, rfl⟩
  rw [← hPT]
  have HPT : Hid (paramsTop (T.map (·.1)) = PT) := Lib.hid hPT.symm
  clear hPT hnn
  go_enter Try.func43, Try.ntmps43
  go_wp2_with fail
  refine wp_scope_ghost 0 (ParJ T n b name file f t w PT) rfl ?_ ?_
  · intro Rst
    by_cases h0 : n = 0
    · have hT : T = [] := List.eq_nil_of_length_eq_zero (HN.out.trans h0)
      have hP : Hid (PT = paramsL ((T.drop 0).map (·.1)) false []) := Lib.hid (by rw [← HPT.out, hT]; rfl)
      subst h0
      replace hT := Lib.hid hT
      go_wp2
      go_step3
      go_step
      go_step
      exact Rst.out 0 _ _ ⟨0, false, [], ao, cap, .slice none 0 0, _, _, _, _, _, _, _, _, _, _, _, _, _, _, _, _, _, _, _, _, _, _, _, _, _, _, _, _, _, _, _, _, _, _, _, _, _, _, _, _, _, _, _, _, _, _, _, _, _, _, _, _, _, _, _, _, _, _, _, _, _, _, _, _, _, _, _, _, _, _, _, _, _, _, _, _, _, rfl, rfl, Nat.zero_le _, HR, Below.refl _ _, Own.nil _ _ _ _, Nat.le_refl _, hb, hP⟩
    · obtain ⟨p, T', hT⟩ : ∃ p T', T = p :: T' := by cases hT : T with | nil => (have := HN.out; rw [hT] at this; exact absurd this.symm h0) | cons p T' => exact ⟨p, T', rfl⟩
      obtain ⟨rb, ro, rfl, hat⟩ := HR.out w (Below.refl _ _) (by rw [hT]; simp)
      rw [hT] at hat
      obtain ⟨t0, t1, t2, t3, t4, t5, t6, t7⟩ := tok8 hat
      have HIS := mIs_any p.1 p.2 (bs [41]) w
      obtain ⟨x, hx⟩ : ∃ x, x = isP p.1 (bs [41]) := ⟨_, rfl⟩
      rw [← hx] at HIS
      unfold tmC at HIS
      replace HIS := Lib.hid HIS
      have hn1 : 0 < n := by omega
      have hn0 : (0 : Int) < n := by omega
      replace hT := Lib.hid hT
      replace hat := Lib.hid hat
      cases x with
      | true =>
        replace hx := Lib.hid hx
        go_wp2_with fail
        refine HIS.out.mono ?_
        rintro e w1 ⟨rfl, hb1⟩
        have hb1' : Below b w w1 := hb1.mono (Nat.le_of_lt (lt_of_block hb))
        go_wp2
        all_goals
          simp only [Exit.jump]
          go_ret2
          refine ⟨hb1', ?_⟩
          have hPT : PT = some ((T.drop 1).map (·.1), false, []) := by rw [← HPT.out, hT.out]; simp [paramsTop, ← hx.out]
          rw [hPT]
        · have hn1' : n = 1 := by omega
          refine ⟨1, some ⟨rb, ro, none⟩, 0, .slice none 0 0, by rw [HN.out]; rfl, by rw [HN.out]; omega, by rw [HN.out]; omega, rfl, fun w'' _ h => absurd ?_ h, Own.nil _ _ _ _, (hb1.block _ (lt_of_block hb)).trans hb⟩
          rw [List.drop_eq_nil_of_le (by rw [HN.out]; omega)]; rfl
        · refine ⟨1, some ⟨rb, ro + 8, none⟩, cap - 1, .slice none 0 0, by rw [HN.out]; rfl, by rw [HN.out]; omega, by rw [HN.out]; omega, rfl, fun w'' hb'' _ => ?_, Own.nil _ _ _ _, (hb1.block _ (lt_of_block hb)).trans hb⟩
          obtain ⟨rb', ro', e', hat'⟩ := HR.out w'' hb'' (by rw [hT.out]; simp)
          simp at e'
          obtain ⟨rfl, rfl⟩ := e'
          have := hat'.drop 1
          rw [← List.map_drop] at this
          exact ⟨rb, ro + 8, rfl, this⟩
      | false =>
        replace hx := Lib.hid hx
        go_wp2_with fail
        refine HIS.out.mono ?_
        rintro e w1 ⟨rfl, hb1⟩
        have hb1' : Below b w w1 := hb1.mono (Nat.le_of_lt (lt_of_block hb))
        go_wp2
        go_step3
        go_step
        go_step
        exact Rst.out n _ _ ⟨0, false, [], some ⟨rb, ro, none⟩, cap, .slice none 0 0, _, _, _, _, _, _, _, _, _, _, _, _, _, _, _, _, _, _, _, _, _, _, _, _, _, _, _, _, _, _, _, _, _, _, _, _, _, _, _, _, _, _, _, _, _, _, _, _, _, _, _, _, _, _, _, _, _, _, _, _, _, _, _, _, _, _, _, _, _, _, _, _, _, _, _, _, _, rfl, rfl, hcap, HR, hb1', Own.nil _ _ _ _, Nat.le_refl _, (hb1.block _ (lt_of_block hb)).trans hb, Lib.hid (by rw [← HPT.out, hT.out]; simp [paramsTop, ← hx.out])⟩
  · rintro q a' wr ⟨k, va, ps, ak, C, psv, u2, u3, u4, u5, u6, u7, u8, u9, u10, u11, u12, u13, u14, u15, u16, u17, u18, u19, u20, u21, u22, u23, u24, u25, u26, u27, u28, u29, u30, u31, u32, u33, u34, u35, u36, u37, u38, u39, u40, u41, u42, u43, u44, u45, u46, u47, u48, u49, u50, u51, u52, u53, u54, u55, u56, u57, u58, u59, u60, u61, u62, u63, u64, u65, u66, u67, u68, u69, u70, u71, u72, u73, u74, u75, u76, u77, u78, rfl, hqk, hqC, HRk, hbw, hown, hpl, hbr, HP⟩
    obtain ⟨d0, d1, d2, d3, d4, d5, d6, d7⟩ := cells8 hbr
    have hdl : (T.drop k).length = q := by rw [List.length_drop, HN.out]; omega
    by_cases hq : q < 2
    · have hPT : PT = none := by rw [HP.out]; exact paramsL_short (by rw [List.length_map, hdl]; exact hq)
      have hqi : (q : Int) < 2 := by omega
      replace hPT := Lib.hid hPT
      replace hqk := Lib.hid hqk
      replace hdl := Lib.hid hdl
      go_wp2
      simp only [Exit.jump]
      go_ret2
      exact ⟨hbw, by rw [hPT.out]; rfl⟩
    · obtain ⟨p0, p1, T2, hT2⟩ : ∃ p0 p1 T2, T.drop k = p0 :: p1 :: T2 := by
        match h : T.drop k with
        | [] => rw [h] at hdl; simp at hdl; omega
        | [_] => rw [h] at hdl; simp at hdl; omega
        | p0 :: p1 :: T2 => exact ⟨p0, p1, T2, rfl⟩
      have hT3 : T2 = T.drop (k + 2) := by rw [← List.drop_drop, hT2]; rfl
      rw [hT2] at HRk HP
      have hqi : ¬ (q : Int) < 2 := by omega
      replace hdl := Lib.hid hdl
      replace hqk := Lib.hid hqk
      replace hT3 := Lib.hid hT3
      replace hT2 := Lib.hid hT2
      cases va with
      | true =>
        have hPT : Hid (PT = none) := Lib.hid (HP.out.trans (by simp [paramsL]))
        go_wp2
        simp only [Exit.jump]
        go_ret2
        exact ⟨hbw, by rw [hPT.out]; rfl⟩
      | false =>
        obtain ⟨rb, o, rfl, hat⟩ := HRk.out wr hbw (by simp)
        have HT : Hid (∀ w', Below b w w' → RowAt w' 8 rb o (tvC p0 :: tvC p1 :: T2.map tvC)) := Lib.hid (by
          intro w' hb'
          obtain ⟨rb', o', e', hat'⟩ := HRk.out w' hb' (by simp)
          simp at e'
          obtain ⟨rfl, rfl⟩ := e'
          exact hat')
        obtain ⟨t0, t1, t2, t3, t4, t5, t6, t7⟩ := tok8 hat
        obtain ⟨pao, pcap, rfl, hpc, _, hprow, _⟩ := hown.rown (n := ps.length) (by simp)
        have hbl := lt_of_block hbr
        have HD := mIs_any p0.1 p0.2 (bs [46, 46, 46]) wr
        obtain ⟨x, hx⟩ : ∃ x, x = dotsP p0.1 := ⟨_, rfl⟩
        rw [show isP p0.1 (bs [46, 46, 46]) = dotsP p0.1 from rfl, ← hx] at HD
        unfold tmC at HD
        replace HD := Lib.hid HD
        have hq2 : 2 ≤ q := by omega
        have hq0 : 0 < q := by omega
        have hq0i : (0 : Int) < q := by omega
        have hq1i : (1 : Int) < q := by omega
        have hq2i : (2 : Int) ≤ q := by omega
        clear hat hq
        replace hx := Lib.hid hx
        go_upto_block 0 with fail
        go_cut [6] from 31 to 56 (fun s6 wx => ∃ nm va', s6 = .string nm ∧ Below b w wx ∧ Own wx (b + 1) 9 1 (.slice pao ps.length pcap) (ps.map fun p => [.string p]) ∧ wx.heap[b]? = some (.cells #[.string name, .bool true, .bool va', .slice pao ps.length pcap, .slice none 0 0, .string file, .int .i64 f, .int .i64 t] 29 (0, 0)) ∧ Hid (PT = if isP p1.1 (bs [41]) then some (T2.map (·.1), va', ps ++ [nm]) else if isP p1.1 (bs [44]) then paramsL (T2.map (·.1)) va' (ps ++ [nm]) else none))
        case first =>
          go_wp2_with fail
          refine HD.out.mono ?_
          rintro e w1 ⟨rfl, hb1⟩
          have hbw1 : Below b w w1 := hbw.trans (hb1.mono (Nat.le_of_lt hbl))
          have hbr1 := (hb1.block b hbl).trans hbr
          have hown1 := hown.below hb1
          cases x with
          | true =>
            have HP1 : Hid (PT = if isP p1.1 (bs [41]) then some (T2.map (·.1), true, ps ++ [restN]) else if isP p1.1 (bs [44]) then paramsL (T2.map (·.1)) true (ps ++ [restN]) else none) := Lib.hid (HP.out.trans (by simp [paramsL, ← hx.out]))
            have f1 := fun j => Lib.frozen_of_heap hbr1 j
            obtain ⟨m0, m1, m2, m3, m4, m5, m6, m7⟩ := cells8 hbr1
            go_wp2_with fail
            go_meet
            case rel => exact ⟨restN, true, rfl, hbw1.setCell (p := ⟨b, 2, none⟩) (Nat.le_refl _) _, hown1.setBelow (Nat.lt_succ_self _) _, mc_set2 hbr1 _, HP1⟩
          | false =>
            have hat1 := HT.out _ hbw1
            obtain ⟨s0, s1, s2, s3, s4, s5, s6, s7⟩ := tok8 hat1
            obtain ⟨m0, m1, m2, m3, m4, m5, m6, m7⟩ := cells8 hbr1
            by_cases hk : p0.1.kind = 1
            · by_cases ht : p0.1.text = restN
              · have hPT : Hid (PT = none) := Lib.hid (HP.out.trans (by simp [paramsL, ← hx.out, parNo, ht]))
                have htb : (p0.1.text.toList == [95, 95, 86, 65, 95, 65, 82, 71, 83, 95, 95]) = true := by rw [beq_text]; exact decide_eq_true ht
                rw [hk] at s0
                replace ht := Lib.hid ht
                replace hk := Lib.hid hk
                go_wp2
                simp only [Exit.jump]
                go_ret2
                exact ⟨hbw1, by rw [hPT.out]; rfl⟩
              · have htb : (p0.1.text.toList == [95, 95, 86, 65, 95, 65, 82, 71, 83, 95, 95]) = false := by rw [beq_text]; exact decide_eq_false ht
                have HPM := mParam_any name true false (.slice none 0 0) file f t ps pao pcap p0.1.text (by have := hqk.out; omega) w1 hown1.here
                unfold mcC at HPM
                obtain ⟨ix, hix⟩ : ∃ ix, ix = Lib.idxOfS ps p0.1.text := ⟨_, rfl⟩
                rw [← hix] at HPM
                replace HPM := Lib.hid HPM
                rw [hk] at s0
                by_cases hix0 : 0 ≤ ix
                · have hPT : Hid (PT = none) := Lib.hid (HP.out.trans (by simp [paramsL, ← hx.out, parNo, ← hix, hix0]))
                  replace ht := Lib.hid ht
                  replace hk := Lib.hid hk
                  replace hix := Lib.hid hix
                  go_wp2_with fail
                  refine HPM.out.mono ?_
                  rintro e w2 ⟨rfl, hb2⟩
                  go_wp2
                  simp only [Exit.jump]
                  go_ret2
                  exact ⟨hbw1.trans (hb2.mono (Nat.le_of_lt (lt_of_block hbr1))), by rw [hPT.out]; rfl⟩
                · have HP1 : Hid (PT = if isP p1.1 (bs [41]) then some (T2.map (·.1), false, ps ++ [p0.1.text]) else if isP p1.1 (bs [44]) then paramsL (T2.map (·.1)) false (ps ++ [p0.1.text]) else none) := Lib.hid (HP.out.trans (by simp [paramsL, ← hx.out, parNo, hk, ht, ← hix, hix0]))
                  replace ht := Lib.hid ht
                  replace hk := Lib.hid hk
                  replace hix := Lib.hid hix
                  go_wp2_with fail
                  refine HPM.out.mono ?_
                  rintro e w2 ⟨rfl, hb2⟩
                  go_wp2_with fail
                  go_meet
                  case rel => exact ⟨p0.1.text, false, rfl, hbw1.trans (hb2.mono (Nat.le_of_lt (lt_of_block hbr1))), hown1.below hb2, (hb2.block _ (lt_of_block hbr1)).trans hbr1, HP1⟩
            · have hkb : (p0.1.kind == 1) = false := by simpa using hk
              have hPT : Hid (PT = none) := Lib.hid (HP.out.trans (by simp [paramsL, ← hx.out, parNo, hk]))
              go_wp2
              simp only [Exit.jump]
              go_ret2
              exact ⟨hbw1, by rw [hPT.out]; rfl⟩
        case rest =>
          obtain ⟨nm, va', rfl, hbc, hownc, hbrc, HP2⟩ := hcut
          clear hown hbr hbw hprow d0 d1 d2 d3 d4 d5 d6 d7 t0 t1 t2 t3 t4 t5 t6 t7 hbl
          obtain ⟨m0, m1, m2, m3, m4, m5, m6, m7⟩ := cells8 hbrc
          have hlen : (ps.map fun p => [Value.string p]).length + 1 ≤ 1000000000 := by rw [List.length_map]; have := hqk.out; omega
          have hne : (Value.slice pao ps.length pcap).ownBlock ≠ some b := by intro e; have := hownc.ge _ e; omega
          have hsz : b + 1 ≤ wc.heap.size := lt_of_block hbrc
          obtain ⟨x1, hx1⟩ : ∃ x1, x1 = isP p1.1 (bs [41]) := ⟨_, rfl⟩
          obtain ⟨x2, hx2⟩ : ∃ x2, x2 = isP p1.1 (bs [44]) := ⟨_, rfl⟩
          have HS := fun w => mIs_any p1.1 p1.2 (bs [41]) w
          have HC := fun w => mIs_any p1.1 p1.2 (bs [44]) w
          simp only [← hx1] at HS
          simp only [← hx2] at HC
          have HP2' : Hid (PT = if x1 = true then some (T2.map (·.1), va', ps ++ [nm]) else if x2 = true then paramsL (T2.map (·.1)) va' (ps ++ [nm]) else none) := Lib.hid (by rw [hx1, hx2]; exact HP2.out)
          clear HP2 hx1 hx2
          unfold tmC at HS HC
          replace HS := Lib.hid HS
          replace HC := Lib.hid HC
          go_wp2_with (at_builtin; go_must (refine wpList_append1 E9 rfl rfl hownc rfl rfl (news := [.string nm]) rfl rfl (by simp [Value.oneCell']) hlen (by decide) hsz ?_); intro v3 w3 hown3 hg3; obtain ⟨ao3, cap3, rfl, _, _, _, _⟩ := hown3.rown (n := ps.length + 1) (by simp); have hbr3 := (hg3.block b (lt_of_block hbrc) (fun e => hne e.symm)).trans hbrc; have qf := fun j => Lib.frozen_of_heap hbr3 j; obtain ⟨q0, q1, q2, q3, q4, q5, q6, q7⟩ := cells8 hbr3; have hb3 := bapp hbc (hownc.mono (Nat.le_succ _)) hg3 (Nat.le_of_succ_le hsz); have hb4 := hb3.setCell (p := ⟨b, 3, none⟩) (Nat.le_refl _) (.slice ao3 (ps.length + 1) cap3); obtain ⟨t0, t1, t2, t3, t4, t5, t6, t7⟩ := tok8b (HT.out _ hb4))
          refine (HS.out _).mono ?_
          rintro e w5 ⟨rfl, hb5⟩
          have hbr4 := mc_set3 hbr3 (.slice ao3 (ps.length + 1) cap3)
          have hown4 := hown3.setBelow (b := b) (j := 3) (Nat.lt_succ_self _) (.slice ao3 (ps.length + 1) cap3)
          have hb6 : Below b w w5 := hb4.trans (hb5.mono (Nat.le_of_lt (lt_of_block hbr4)))
          have hbr5 := (hb5.block b (lt_of_block hbr4)).trans hbr4
          have hown5 := hown4.below hb5
          clear t0 t1 t2 t3 t4 t5 t6 t7 q0 q1 q2 q3 q4 q5 q6 q7 qf m0 m1 m2 m3 m4 m5 m6 m7
          cases x1 with
          | true =>
            go_wp2
            all_goals
              simp only [Exit.jump]
              go_ret2
              refine ⟨hb6, ?_⟩
              have hPT : PT = some (T2.map (·.1), va', ps ++ [nm]) := HP2'.out.trans (by simp)
              rw [hPT]
            all_goals
              have hqk' := hqk.out
              have hown6 : Own w5 (b + 1) 9 1 (.slice ao3 (ps.length + 1) cap3) ((ps ++ [nm]).map fun p => [.string p]) := by rw [List.map_append]; exact hown5
            · refine ⟨k + 2, some ⟨rb, o, none⟩, 0, .slice ao3 (ps.length + 1) cap3, by rw [HN.out, show n - (k + 2) = q - 2 by omega]; rfl, by rw [HN.out]; omega, by rw [HN.out]; omega, by rw [hT3.out], ?_, hown6, hbr5⟩
              rw [List.drop_eq_nil_of_le (by rw [HN.out]; omega)]
              exact fun w'' _ h => absurd rfl h
            · exact ⟨k + 2, some ⟨rb, o + 16, none⟩, C - 2, .slice ao3 (ps.length + 1) cap3, by rw [HN.out, show n - (k + 2) = q - 2 by omega]; rfl, by rw [HN.out]; omega, by rw [HN.out]; omega, by rw [hT3.out], par_row HT.out hT3.out, hown6, hbr5⟩
          | false =>
            obtain ⟨t0, t1, t2, t3, t4, t5, t6, t7⟩ := tok8b (HT.out _ hb6)
            go_wp2_with fail
            refine (HC.out _).mono ?_
            rintro e w6 ⟨rfl, hb7⟩
            have hb8 : Below b w w6 := hb6.trans (hb7.mono (Nat.le_of_lt (lt_of_block hbr5)))
            have hbr6 := (hb7.block b (lt_of_block hbr5)).trans hbr5
            have hown6 : Own w6 (b + 1) 9 1 (.slice ao3 (ps.length + 1) cap3) ((ps ++ [nm]).map fun p => [.string p]) := by rw [List.map_append]; exact hown5.below hb7
            clear t0 t1 t2 t3 t4 t5 t6 t7 hown5 hown4 hown3 hbr3 hbr4 hbr5 hb3 hb4 hb5 hb6 hb7
            cases x2 with
            | true =>
              have HP3 : Hid (PT = paramsL ((T.drop (k + 2)).map (·.1)) va' (ps ++ [nm])) := Lib.hid (HP2'.out.trans (by rw [hT3.out]; simp))
              go_wp2
              · go_step3
                have hqk' := hqk.out
                refine ⟨rfl, q - 2, by omega, k + 2, va', ps ++ [nm], some ⟨rb, o, none⟩, 0, .slice ao3 (ps.length + 1) cap3, _, _, _, _, _, _, _, _, _, _, _, _, _, _, _, _, _, _, _, _, _, _, _, _, _, _, _, _, _, _, _, _, _, _, _, _, _, _, _, _, _, _, _, _, _, _, _, _, _, _, _, _, _, _, _, _, _, _, _, _, _, _, _, _, _, _, _, _, _, _, _, _, _, _, _, _, _, rfl, by omega, by omega, Lib.hid ?_, hb8, hown6, by simp; omega, hbr6, HP3⟩
                rw [List.drop_eq_nil_of_le (by rw [HN.out]; omega)]
                exact fun w'' _ h => absurd rfl h
              · go_step3
                have hqk' := hqk.out
                exact ⟨rfl, q - 2, by omega, k + 2, va', ps ++ [nm], some ⟨rb, o + 16, none⟩, C - 2, .slice ao3 (ps.length + 1) cap3, _, _, _, _, _, _, _, _, _, _, _, _, _, _, _, _, _, _, _, _, _, _, _, _, _, _, _, _, _, _, _, _, _, _, _, _, _, _, _, _, _, _, _, _, _, _, _, _, _, _, _, _, _, _, _, _, _, _, _, _, _, _, _, _, _, _, _, _, _, _, _, _, _, _, _, _, _, rfl, by omega, by omega, Lib.hid (par_row HT.out hT3.out), hb8, hown6, by simp; omega, hbr6, HP3⟩
            | false =>
              have hPT : Hid (PT = none) := Lib.hid (HP2'.out.trans (by simp))
              go_wp2
              simp only [Exit.jump]
              go_ret2
              exact ⟨hb8, by rw [hPT.out]; rfl⟩
end Go.Proofs.Ythbicbfdldpemaa
