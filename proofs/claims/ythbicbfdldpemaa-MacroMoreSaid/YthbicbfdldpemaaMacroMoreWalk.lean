/- MacroMore: the walk. -/
import Derived.Test.YthbicbfdldpemaaMacroMoreSpec
import Derived.Test.YthbicbfdldpemaaMc14
namespace Go.Proofs.Ythbicbfdldpemaa
open Go.RowKit
set_option linter.unusedVariables false

def rnd (a n : Int) : Int := (a.tmod n + n).tmod n
theorem rnd_range (a n : Int) (h0 : 0 < n) : 0 ≤ rnd a n ∧ rnd a n < n := by
  have h2 : -n < a.tmod n := Int.lt_tmod_of_pos a h0
  unfold rnd
  rw [Int.tmod_eq_emod_of_nonneg (by omega)]
  exact ⟨Int.emod_nonneg _ (by omega), Int.emod_lt_of_pos _ h0⟩

set_option maxRecDepth 100000 in
theorem round_any (a n : Int) (h0 : 0 < n) (h1 : n ≤ 1000) (ha : -9223372036854775808 ≤ a ∧ a ≤ 9223372036854775807) (w : World) :
    Calls Try.prog 21 #[.int .i64 a, .int .i64 n] w fun e w' => e = .returned (.int .i64 (rnd a n)) ∧ w' = w := by
  have hr := rnd_range a n h0
  have h2 : -n < a.tmod n := Int.lt_tmod_of_pos a h0
  have h3 : a.tmod n < n := Int.tmod_lt_of_pos a h0
  have HQ : Hid (rnd a n = (a.tmod n + n) % n) := Lib.hid (Int.tmod_eq_emod_of_nonneg (by omega))
  go_enter Try.func21, Try.ntmps21
  go_wp2
  go_ret
  exact ⟨by rw [HQ.out]; rfl, rfl⟩

theorem goodP_of {n : Nat} (hn : n ≤ 10) : ∃ m, parseL (toksL (goodT n).data.toList) = .inl m ∧ m.va = true ∧ m.fn = true ∧ m.params.length = n + 1 ∧ m.params.getD n ByteArray.empty = restN ∧ Lib.idxOfS m.params restN = n ∧ m.body.length ≤ 1000 ∧ (goodT n).size ≤ 1000 := by
  have h := List.all_eq_true.1 good_all n (List.mem_range.2 (by omega))
  simp only [Bool.and_eq_true, decide_eq_true_eq] at h
  obtain ⟨h1, h2⟩ := h
  cases hr : parseL (toksL (goodT n).data.toList) with
  | inr x => rw [hr] at h1; simp [goodP] at h1
  | inl m =>
    rw [hr] at h1
    simp only [goodP, Bool.and_eq_true, decide_eq_true_eq] at h1
    exact ⟨m, rfl, h1.1.1.1.1.1, h1.1.1.1.1.2, h1.1.1.1.2, h1.1.1.2, h1.1.2, h1.2, h2⟩

theorem badP_of {n i : Nat} (hn : n ≤ 10) (hi : i < 12) : badP n i (parseL (toksL (badT n i).data.toList)) = true ∧ (badT n i).size ≤ 1000 := by
  have h := List.all_eq_true.1 (List.all_eq_true.1 bad_all n (List.mem_range.2 (by omega))) i (List.mem_range.2 hi)
  simpa only [Bool.and_eq_true, decide_eq_true_eq] using h

theorem pfxB_size : ∀ n, (pfxB n).size = 4 * n
  | 0 => rfl
  | n + 1 => by
    simp only [pfxB, ByteArray.size_append, pfxB_size n]
    show 4 * n + 1 + 1 + 2 = _
    omega

set_option maxHeartbeats 2000000 in
set_option maxRecDepth 100000 in
theorem macroMore_walk (a0 : Int) (w0 : (Lit.int .i64 a0).wf = true) (a1 : Int) (w1 : (Lit.int .i64 a1).wf = true) (w : World) :
    Calls Try.prog 5 #[.int .i64 a0, .int .i64 a1] w fun e w' => e = .returned (.bool true) ∧ Below w.heap.size w w' := by
  have ha := i64_arg w1
  clear w0 w1
  by_cases hlo : a0 < 0 ∨ 10 < a0
  · go_enter Try.func5, Try.ntmps5
    rcases hlo with hlo | hlo
    all_goals
      go_wp2_with (go_at_call 13; refine (mAwake_any _).mono ?_; rintro e w' ⟨rfl, hb⟩)
      go_ret
      exact ⟨rfl, hb⟩
  · obtain ⟨n, rfl⟩ : ∃ n : Nat, a0 = n := ⟨a0.toNat, by omega⟩
    have hn : n ≤ 10 := by omega
    have hn0 : ¬ (n : Int) < 0 := by omega
    have hn1 : ¬ (10 : Int) < n := by omega
    clear hlo
    go_enter Try.func5, Try.ntmps5
    go_wp2
    go_loopg [5, 6] n (fun u s i wr => ∃ k : Nat, u = n - k ∧ k ≤ n ∧ s = .string (pfxB k) ∧ i = .int .i64 k ∧ Below w.heap.size w wr)
    case atStart => exact ⟨0, rfl, Nat.zero_le _, rfl, rfl, Below.refl _ _⟩
    case round =>
      obtain ⟨k, rfl, hk, rfl, rfl, hb⟩ := hrel
      by_cases hlt : k < n
      · have hcv : (convert 45 9 (.slice (some ⟨wr.heap.size, 0, none⟩) 1 1)).run Try.prog (wr.alloc (.cells #[.int .u8 ((97 : Int) + k)] 5)) = .ok (.string (bs [(97 + k).toUInt8])) (wr.alloc (.cells #[.int .u8 ((97 : Int) + k)] 5)) :=
          run_convert_bytes_back _ _ _ 5 ⟨wr.heap.size, 0, none⟩ 1 [(97 + k).toUInt8] Try.underlying45 Try.underlying5 Try.underlying9 (fun j hj => by
            have : j = 0 := by simp at hj; exact hj
            subst this
            rw [Addr.add_lit]
            have hc : ((97 + k).toUInt8.toNat : Int) = 97 + k := by
              have : (97 + k).toUInt8.toNat = 97 + k := by
                simp
                omega
              omega
            simp only [List.getElem_cons_zero, hc]
            exact cell_new wr [.int .u8 ((97 : Int) + k)] 5 rfl)
        have hz := pfxB_size k
        have z1 : ¬ 9223372036854775807 < (pfxB k).size + 1 := by omega
        have z2 : ¬ 9223372036854775807 < (pfxB k).size + 1 + 1 := by omega
        have z3 : ¬ 9223372036854775807 < (pfxB k).size + 1 + 1 + 2 := by omega
        replace hz := Lib.hid hz
        go_wp2_with fail
        go_roundg (n - (k + 1))
        case measure => omega
        case rel => exact ⟨k + 1, rfl, by omega, by simp [pfxB], by go_num, hb.alloc hb.size _⟩
      · have hkn : k = n := by omega
        subst hkn
        have hz := pfxB_size k
        obtain ⟨m, hr, hva, hfn, hpl, hpn, hix, hbl, hsz⟩ := goodP_of hn
        have HT := mText_toks (goodT k) (by omega) wr
        unfold goodT at HT
        have z0 : ¬ 9223372036854775807 < 2 + (pfxB k).size := by omega
        have z1 : ¬ 9223372036854775807 < 2 + (pfxB k).size + 18 := by omega
        have z2 : ¬ 9223372036854775807 < 2 + (pfxB k).size + 9 := by omega
        have z3 : ¬ 9223372036854775807 < 2 + (pfxB k).size + 14 := by omega
        have z4 : ¬ 9223372036854775807 < 2 + (pfxB k).size + 5 := by omega
        have z5 : ¬ 9223372036854775807 < 2 + (pfxB k).size + 3 := by omega
        replace hz := Lib.hid hz
        replace HT := Lib.hid HT
        go_wp2_with fail
        refine HT.out.mono ?_
        rintro e w1 ⟨l, nl, ao, cp, rfl, hb1, hl, HP⟩
        go_wp2_with fail
        refine (HP.out _ (Below.refl _ _)).mono ?_
        rintro e w2 ⟨hb2, hp⟩
        have hr' : parseL l = .inl m := by rw [hl.out]; exact hr
        rw [hr'] at hp
        obtain ⟨psv, bov, rfl, hO⟩ := hp
        clear hr' hr hl HP HT
        obtain ⟨pao, pcp, rfl, _, _, _, _⟩ := hO.ps.rown (n := k + 1) (by simpa using hpl)
        obtain ⟨nb, hnb⟩ : ∃ nb, nb = m.body.length := ⟨_, rfl⟩
        obtain ⟨T, hT, hTs, _⟩ := hO.body
        obtain ⟨bao, bcp, rfl, _, _, _, _⟩ := hT.rown (n := nb) (by rw [List.length_map, hnb, ← hTs, List.length_map])
        rw [hva, hfn]
        have hbB := hb.trans ((hb1.trans (hb2.mono hb1.size)).mono hb.size)
        obtain ⟨W3, hW3⟩ : ∃ W3, W3 = w2.alloc (.cells #[.string m.name, .bool true, .bool true, .slice pao (k + 1) pcp, .slice bao nb bcp, .string m.file, .int .i64 m.f, .int .i64 m.t] 29) := ⟨_, rfl⟩
        have hb3 : Below w2.heap.size w2 W3 := by rw [hW3]; exact (Below.refl _ w2).alloc (Nat.le_refl _) _
        have hB3 := hbB.trans (hb3.mono hbB.size)
        have hm3 : W3.heap[w2.heap.size]? = some (.cells #[.string m.name, .bool true, .bool true, .slice pao (k + 1) pcp, .slice bao nb bcp, .string m.file, .int .i64 m.f, .int .i64 m.t] 29 (0, 0)) := by rw [hW3]; exact heap_alloc_new w2 _
        have hO3 := hO.below hb3
        obtain ⟨pb, po, epo, hat⟩ := hO3.ps.here (by intro e; rw [List.map_eq_nil_iff] at e; rw [e] at hpl; simp at hpl)
        subst epo
        have hpk : m.params[k]? = some restN := by
          rw [List.getD_eq_getElem?_getD] at hpn
          cases h : m.params[k]? with
          | none => rw [List.getElem?_eq_none_iff] at h; omega
          | some x => rw [h] at hpn; simp only [Option.getD_some] at hpn; rw [hpn]
        have c1 := hat.cell (i := k) (cs := [.string restN]) (by simp [hpk]) (j := 0) (u := .string restN) rfl
        rw [Nat.mul_one, Nat.add_zero] at c1
        unfold restN bs at c1
        have HPm := mParam_any m.name true true (.slice bao nb bcp) m.file m.f m.t m.params (some ⟨pb, po, none⟩) pcp restN (by rw [hpl]; omega) W3 hO3.ps.here
        rw [hpl, hix] at HPm
        unfold mcC restN bs at HPm
        clear hO hT hTs hb1 hb2 hbB hat hO3 hb hnb hpn hpk hva hfn hbl
        replace HPm := Lib.hid HPm
        replace hix := Lib.hid hix
        replace hpl := Lib.hid hpl
        obtain ⟨m0, m1, m2, m3, m4, m5, m6, m7⟩ := cells8 hm3
        have hl1 : (((k + 1 : Nat) : Int) == (k : Int) + 1) = true := by simp
        unfold mcC
        go_upto_region 9 with fail
        rw [← hW3]
        replace hW3 := Lib.hid hW3
        generalize w2.heap.size = g1 at *
        clear z1
        go_upto_region 11 with (go_at_call 20; refine HPm.out.mono ?_; rintro e w4 ⟨rfl, hb4⟩)
        have hB4 := hB3.trans (hb4.mono hB3.size)
        clear m0 m1 m2 m3 m4 m5 m6 m7 hm3 c1 HPm hB3 hb3 hl1
        go_cut [9] from 77 to 92 (fun s wx => ∃ g, s = .slice (some ⟨g, 0, none⟩) 12 12 ∧ Hid (∀ i, i < 12 → wx.cell? ⟨g, i, none⟩ = some (.string (badT k i))) ∧ Below w.heap.size w wx)
        case first =>
          go_wp2_with fail
          go_meet
          case rel =>
            refine ⟨_, rfl, Lib.hid ?_, hB4.alloc hB4.size _⟩
            have hnew := heap_alloc_new w4 (.cells #[.string (badT k 0), .string (badT k 1), .string (badT k 2), .string (badT k 3), .string (badT k 4), .string (badT k 5), .string (badT k 6), .string (badT k 7), .string (badT k 8), .string (badT k 9), .string (badT k 10), .string (badT k 11)] 9)
            intro i hi
            match i, hi with
            | 0, _ => exact Lib.cell_of_heap hnew 0
            | 1, _ => exact Lib.cell_of_heap hnew 1
            | 2, _ => exact Lib.cell_of_heap hnew 2
            | 3, _ => exact Lib.cell_of_heap hnew 3
            | 4, _ => exact Lib.cell_of_heap hnew 4
            | 5, _ => exact Lib.cell_of_heap hnew 5
            | 6, _ => exact Lib.cell_of_heap hnew 6
            | 7, _ => exact Lib.cell_of_heap hnew 7
            | 8, _ => exact Lib.cell_of_heap hnew 8
            | 9, _ => exact Lib.cell_of_heap hnew 9
            | 10, _ => exact Lib.cell_of_heap hnew 10
            | 11, _ => exact Lib.cell_of_heap hnew 11
            | i + 12, h => omega
        case rest =>
          obtain ⟨g, rfl, hcs, hBc⟩ := hcut
          obtain ⟨i, hi⟩ : ∃ i : Nat, rnd a1 12 = i := ⟨(rnd a1 12).toNat, by have := rnd_range a1 12 (by decide); omega⟩
          have hi12 : i < 12 := by have := rnd_range a1 12 (by decide); omega
          have HR := round_any a1 12 (by decide) (by decide) ha wc
          rw [hi] at HR
          have ci := hcs.out i hi12
          obtain ⟨hbad, hbsz⟩ := badP_of hn hi12
          have HT := mText_toks (badT k i) (by omega) wc
          replace HR := Lib.hid HR
          replace HT := Lib.hid HT
          replace hi := Lib.hid hi
          replace hbad := Lib.hid hbad
          clear hcs hB4 z0 z2 z3 z4 z5 hb4
          have hii : (i : Int) < 12 := by omega
          have hi00 : (0 : Int) ≤ i := by omega
          go_wp2_with fail
          refine HR.out.mono ?_
          rintro e w' ⟨rfl, hw⟩
          replace hw := hw.symm
          subst hw
          go_wp2_with fail
          refine HT.out.mono ?_
          rintro e w6 ⟨l2, nl2, ao2, cp2, rfl, hb6, hl2, HP2⟩
          go_wp2_with fail
          refine (HP2.out _ (Below.refl _ _)).mono ?_
          rintro e w7 ⟨hb7, hp7⟩
          have hbad' := hbad.out
          rw [← hl2.out] at hbad'
          have hB7 := hBc.trans ((hb6.trans (hb7.mono hb6.size)).mono hBc.size)
          clear hb6 hb7 HP2 hl2 HT HR ci hbad
          cases hr2 : parseL l2 with
          | inl m2 =>
            rw [hr2] at hbad' hp7
            simp only [badP, Bool.and_eq_true, decide_eq_true_eq] at hbad'
            obtain ⟨⟨⟨⟨hi4, hk0⟩, hfn2⟩, hpl2⟩, _⟩ := hbad'
            obtain ⟨psv, bov, rfl, hO⟩ := hp7
            obtain ⟨pao2, pcp2, rfl, _, _, _, _⟩ := hO.ps.rown (n := 0) (by simpa using hpl2)
            obtain ⟨T, hT, _, _⟩ := hO.body
            obtain ⟨tn, htn⟩ : ∃ tn, tn = T.length := ⟨_, rfl⟩
            obtain ⟨bao2, bcp2, rfl, _, _, _, _⟩ := hT.rown (n := tn) (by simp [htn])
            clear hO hT htn
            unfold mcC
            rw [hfn2]
            have e4 : ((i : Int) == 4) = true := by simp [hi4]
            have e0 : ((k : Int) == 0) = true := by simp [hk0]
            replace hi4 := Lib.hid hi4
            replace hk0 := Lib.hid hk0
            replace hr2 := Lib.hid hr2
            replace hpl2 := Lib.hid hpl2
            replace hfn2 := Lib.hid hfn2
            go_wp2_with fail
            refine (mAwake_any _).mono ?_
            rintro e w8 ⟨rfl, hb8⟩
            go_wp2
            go_ret
            exact ⟨rfl, (hB7.alloc hB7.size _).trans (hb8.mono (by simp; exact Nat.le_succ_of_le hB7.size))⟩
          | inr x2 =>
            rw [hr2] at hbad' hp7
            simp only [badP, Bool.and_eq_true, decide_eq_true_eq, Bool.not_eq_true', Bool.and_eq_false_iff, decide_eq_false_iff_not] at hbad'
            obtain ⟨hc5, hno⟩ := hbad'
            obtain ⟨g7, cp7, rfl, hd7⟩ := hp7
            have hd8 := hd7.below ((Below.refl _ w7).alloc (Nat.le_refl _) (.cells #[.string .empty, .bool false, .bool false, .slice none 0 0, .slice none 0 0, .string .empty, .int .i64 0, .int .i64 0] 29))
            obtain ⟨q5, o5, e5, hat5⟩ := hd8.here (by simp)
            simp only [Option.some.injEq, Addr.mk.injEq] at e5
            obtain ⟨rfl, rfl, _⟩ := e5
            have c5 := hat5.cell (i := 0) rfl (j := 0) (u := .int .i64 x2.code) rfl
            rw [hc5] at c5
            simp only [Nat.zero_mul, Nat.add_zero] at c5
            unfold mcC
            clear hd7 hd8 hat5
            replace hr2 := Lib.hid hr2
            replace hc5 := Lib.hid hc5
            by_cases hi4 : i = 4
            · have e4 : ((i : Int) == 4) = true := by simp [hi4]
              have e0 : ((k : Int) == 0) = false := by
                rcases hno with h | h
                · exact absurd hi4 h
                · simp; omega
              replace hi4 := Lib.hid hi4
              replace hno := Lib.hid hno
              go_wp2_with fail
              refine (mAwake_any _).mono ?_
              rintro e w8 ⟨rfl, hb8⟩
              go_wp2
              go_ret
              exact ⟨rfl, (hB7.alloc hB7.size _).trans (hb8.mono (by simp; exact Nat.le_succ_of_le hB7.size))⟩
            · have e4 : ((i : Int) == 4) = false := by simp; omega
              replace hno := Lib.hid hno
              go_wp2_with fail
              refine (mAwake_any _).mono ?_
              rintro e w8 ⟨rfl, hb8⟩
              go_wp2
              go_ret
              exact ⟨rfl, (hB7.alloc hB7.size _).trans (hb8.mono (by simp; exact Nat.le_succ_of_le hB7.size))⟩
end Go.Proofs.Ythbicbfdldpemaa
