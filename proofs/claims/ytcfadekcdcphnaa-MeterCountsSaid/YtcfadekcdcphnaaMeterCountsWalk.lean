/- MeterCounts: the walk. -/
import Derived.Test.YtcfadekcdcphnaaMe3
import Derived.Test.YtcfadekcdcphnaaCe12
import Derived.Test.YtcfadekcdcphnaaAppN
import Derived.Deep.CutRange
import Derived.Deep.Cut
import Derived.Deep.CutBlock
import Derived.Deep.RegionHeld3
namespace Go.Proofs.Ytcfadekcdcphnaa
open Go.RowKit
set_option linter.unusedVariables false

theorem E9 : EI Try.prog 22 9 (.string ⟨#[]⟩) 1 16 := ⟨Try.underlying22, by kernel_rfl, rfl, by decide⟩
theorem E3 : EI Try.prog 23 3 (.int .i64 0) 1 8 := ⟨Try.underlying23, by kernel_rfl, rfl, by decide⟩

theorem draws_below' (w : World) (n : Nat) : Below w.heap.size w (w.drewN n) := below_drewN (Below.refl _ w) n

theorem bytesLess_lt : ∀ x y : List UInt8, Op.bytesLess x y = decide (x < y)
  | _, [] => by simp [Op.bytesLess]
  | [], _ :: _ => by simp [Op.bytesLess]
  | a :: x, b :: y => by
    by_cases h : a = b
    · subst h; simp [Op.bytesLess, bytesLess_lt x y]
    · have h2 : (a == b) = false := beq_false_of_ne h
      simp [Op.bytesLess, List.cons_lt_cons_iff, bytesLess_lt x y, h, h2]

theorem less_true {a b : ByteArray} (h : a.data.toList < b.data.toList) : Op.bytesLess a.toList b.toList = true := by
  rw [bytesLess_lt, Lib.toList_data, Lib.toList_data]
  exact decide_eq_true h
theorem less_false {a b : ByteArray} (h : ¬ a.data.toList < b.data.toList) : Op.bytesLess a.toList b.toList = false := by
  rw [bytesLess_lt, Lib.toList_data, Lib.toList_data]
  exact decide_eq_false h

theorem names_one {L : List (ByteArray × Int)} : ∀ cs ∈ namesC L, cs.length = 1 := by intro cs h; unfold namesC at h; obtain ⟨p, _, rfl⟩ := List.mem_map.1 h; rfl
theorem names_cell {L : List (ByteArray × Int)} : ∀ cs ∈ namesC L, ∀ u ∈ cs, u.oneCell' = true := by intro cs h u hu; unfold namesC at h; obtain ⟨p, _, rfl⟩ := List.mem_map.1 h; simp at hu; subst hu; rfl
theorem sums_one {L : List (ByteArray × Int)} : ∀ cs ∈ sumsC L, cs.length = 1 := by intro cs h; unfold sumsC at h; obtain ⟨p, _, rfl⟩ := List.mem_map.1 h; rfl
theorem sums_cell {L : List (ByteArray × Int)} : ∀ cs ∈ sumsC L, ∀ u ∈ cs, u.oneCell' = true := by intro cs h u hu; unfold sumsC at h; obtain ⟨p, _, rfl⟩ := List.mem_map.1 h; simp at hu; subst hu; rfl

theorem numRow_cell {w : World} {b o k : Nat} {A : List Int} {s : Int} (h : RowAt w 1 b o (A.map fun p => [.int .i64 p])) (hk : A[k]? = some s) : w.cell? ⟨b, o + k, none⟩ = some (.int .i64 s) := by
  have h1 : (A.map fun p => [Value.int .i64 p])[k]? = some [.int .i64 s] := by rw [List.getElem?_map, hk]; rfl
  have := h.cell h1 (j := 0) (u := .int .i64 s) rfl
  simpa using this

set_option maxRecDepth 100000 in
set_option maxHeartbeats 2000000 in
theorem meterCounts_walk (A : List ByteArray) (hA : ∀ s ∈ A, s.size ≤ maxLen) (ao : Option Addr) (tc : Nat) (hc : A.length ≤ tc) (zs : List Int) (bo : Option Addr) (zc : Nat) (hzc : zs.length ≤ zc) (hzs : ∀ z ∈ zs, -9223372036854775808 ≤ z ∧ z ≤ 9223372036854775807) (a2 : Int) (w2 : (Lit.int .i64 a2).wf = true) (w : World)
    (hrow : Row w 1 ao (A.map fun p => [.string p])) (hrz : Row w 1 bo (zs.map fun z => [.int .i64 z])) :
    Calls Try.prog 4 #[.slice ao A.length tc, .slice bo zs.length zc, .int .i64 a2] w fun e w' => e = .returned (.bool true) ∧ Below w.heap.size w w' := by
  have ha2 := i64_arg w2
  obtain ⟨n, hn⟩ : ∃ n, n = A.length := ⟨_, rfl⟩
  have HN : Hid (A.length = n) := Lib.hid hn.symm
  obtain ⟨nz, hnz⟩ : ∃ n, n = zs.length := ⟨_, rfl⟩
  have HZ : Hid (zs.length = nz) := Lib.hid hnz.symm
  rw [← hn] at hc ⊢
  rw [← hnz] at hzc ⊢
  have hrw := Lib.hid hrow
  have hrzw := Lib.hid hrz
  clear hnz hn hrow hrz w2
  replace hA := Lib.hid hA
  replace hzs := Lib.hid hzs
  have HAw0 := Lib.hid (awake_any w)
  by_cases h60 : (60 : Int) < n
  · go_enter Try.func4, Try.ntmps4
    go_wp2_with fail
    refine HAw0.out.mono ?_
    rintro e w' ⟨rfl, hb⟩
    replace hb := Lib.hid hb
    go_wp2
    go_ret
    exact ⟨rfl, hb.out⟩
  have HS1 : Hid (Calls Try.prog 6 #[.slice ao n tc, .int .i64 1000] w fun e w' => e = .returned (.bool (shortL A 1000)) ∧ w' = w) := Lib.hid (by
    have h := short_any A ao tc 1000 (by omega) (by rw [HN.out]; exact hc) (by rw [HN.out]; unfold maxLen; omega) w hrw.out
    rw [HN.out] at h
    exact h)
  cases hsh : shortL A 1000 with
  | false =>
    rw [hsh] at HS1
    go_enter Try.func4, Try.ntmps4
    go_wp2_with fail
    refine HS1.out.mono ?_
    rintro e w' ⟨rfl, hw'⟩
    replace hw' := hw'.symm
    subst hw'
    go_wp2_with fail
    refine HAw0.out.mono ?_
    rintro e w' ⟨rfl, hb⟩
    replace hb := Lib.hid hb
    go_wp2
    go_ret
    exact ⟨rfl, hb.out⟩
  | true =>
    rw [hsh] at HS1
    clear HAw0
    have hsz := Lib.hid (shortL_at hsh).2
    have HNM := Lib.hid (newMeter_any w)
    have S0 := Lib.hid (MeSt.start w)
    obtain ⟨wM, hwM⟩ : ∃ W, W = w.alloc (.cells #[.pointer none] 64) := ⟨_, rfl⟩
    rw [← hwM] at HNM S0
    obtain ⟨g, hg⟩ : ∃ g, g = w.heap.size := ⟨_, rfl⟩
    rw [← hg] at HNM S0
    obtain ⟨m0, hm0⟩ : ∃ m : Nat, min (n : Int) (nz : Int) = (m : Int) := ⟨min n nz, by omega⟩
    have hm0n : m0 ≤ n := by omega
    have hm0z : m0 ≤ nz := by omega
    replace hg := Lib.hid hg
    replace hwM := Lib.hid hwM
    go_enter Try.func4, Try.ntmps4
    go_wp2_with fail
    refine HS1.out.mono ?_
    rintro e w' ⟨rfl, hw'⟩
    replace hw' := hw'.symm
    subst hw'
    clear HS1
    go_wp2_with fail
    refine HNM.out.mono ?_
    rintro e w' ⟨rfl, hw'⟩
    subst hw'
    clear HNM
    go_wp2_with fail
    go_loopg [8, 9, 10, 11, 12, 13, 14, 15] m0 (fun q v8 v9 v10 v11 v12 v13 v14 v15 wx => ∃ (i : Nat) (L M : List (ByteArray × Int)), q = m0 - i ∧ i ≤ m0 ∧ v10 = .int .i64 i ∧ Hid (MeSt w wx g L M v8 v9) ∧ Hid (MInv L M) ∧ Hid (L.length ≤ i ∧ ∀ p ∈ L, p.1.size ≤ 1000))
    case atStart => exact ⟨0, [], [], rfl, Nat.zero_le _, rfl, S0, Lib.hid minv_nil, Lib.hid ⟨Nat.le_refl _, by simp⟩⟩
    case round =>
      obtain ⟨i, L, M, hq, hi, rfl, hst, hI, hLs⟩ := hrel
      replace hq := hq.symm
      subst hq
      by_cases him : i < m0
      · have him' : (i : Int) < m0 := by omega
        go_upto_if 39 with fail
        generalize ((i : Int) == a2) = bb
        go_cut [11, 12] from 40 to 66 (fun v11 v12 wx => ∃ L' M', Hid (MeSt w wx g L' M' u8 u9) ∧ Hid (MInv L' M') ∧ Hid (L'.length ≤ i ∧ ∀ p ∈ L', p.1.size ≤ 1000))
        case first =>
          cases bb with
          | true =>
            obtain ⟨mL, hmL⟩ : ∃ m, m = L.length := ⟨_, rfl⟩
            have HML : Hid (L.length = mL) := Lib.hid hmL.symm
            obtain ⟨lo, lc, rfl, hlc, hlcm, _, _⟩ := hst.out.ownl.rown (n := mL) (by rw [namesC_len, hmL])
            obtain ⟨so, sc, rfl, hsc, hscm, _, _⟩ := hst.out.owns.rown (n := mL) (by rw [sumsC_len, hmL])
            have hmi : mL ≤ 60 := by have := hLs.out.1; omega
            clear hmL
            rename World => wr0
            have S1 := Lib.hid hst.out
            rw [← zeroTo_zero L] at S1
            obtain ⟨B2, hB2⟩ : ∃ B, B = wr0.heap.size := ⟨_, rfl⟩
            have hB0 : Hid (w.heap.size ≤ B2) := Lib.hid (by rw [hB2]; exact hst.out.below.size)
            have hlo : Hid (∀ a, lo = some a → a.block < B2) := Lib.hid (by
              intro a ha
              obtain ⟨c, fz, h1⟩ := hst.out.ownl.size_lt a.block (by rw [ha]; rfl)
              rw [hB2]
              exact lt_of_block h1)
            have hsz0 : Hid (B2 ≤ wr0.heap.size) := Lib.hid (by omega)
            clear hB2 hst
            go_wp2_with fail
            go_loopg [11, 12] mL (fun q v11 v12 wx => ∃ k : Nat, q = mL - k ∧ k ≤ mL ∧ v12 = .int .i64 k ∧ Hid (MeSt w wx g (zeroTo k L) M (.slice lo mL lc) (.slice so mL sc)) ∧ Hid (Own wx B2 9 1 v11 (strsC (wantL (L.take k)))) ∧ Hid (B2 ≤ wx.heap.size))
            case atStart => exact ⟨0, rfl, Nat.zero_le _, rfl, S1, Lib.hid (Own.nil _ _ _ _), hsz0⟩
            case round =>
              obtain ⟨k, hq, hk, rfl, hst, hw11, hB2⟩ := hrel
              replace hq := hq.symm
              subst hq
              by_cases hkm : k < mL
              · have hkm' : (k : Int) < mL := by omega
                have f4 : Hid (mL - (k + 1) < mL - k) := Lib.hid (by omega)
                have g1 : IntKind.i64.wrap ((k : Int) + 1) = (k : Int) + 1 := IntWalk.i64_in _ (by omega)
                obtain ⟨⟨s, x⟩, hLk⟩ : ∃ q, L[k]? = some q := ⟨_, List.getElem?_eq_getElem (by rw [HML.out]; exact hkm)⟩
                obtain ⟨gl, rfl, x1, _, _⟩ := own_at' hst.out.ownl (namesC_at (zeroTo_at hLk))
                obtain ⟨gs, rfl, x2, x3, _⟩ := own_at' hst.out.owns (sumsC_at (zeroTo_at hLk))
                have hws := wantL_succ hLk
                have hLk' := Lib.hid hLk
                clear hLk
                by_cases hx : 0 < x
                · rw [if_pos hx] at hws
                  replace hws := Lib.hid hws
                  have hlenW : Hid ((strsC (wantL (L.take k))).length + 1 ≤ 1000000000) := Lib.hid (by
                    rw [strsC_len]
                    have h1 : (wantL (L.take k)).length ≤ (L.take k).length := by unfold wantL; rw [List.length_map]; exact List.length_filter_le _ _
                    rw [List.length_take] at h1
                    omega)
                  have hOw : Hid (Own wr B2 9 1 u11 (strsC (wantL (L.take k)))) := hw11
                  go_wp2_with (at_builtin; go_must (refine wpList_append1 E9 rfl rfl hOw.out rfl rfl (news := [.string s]) (by simp) rfl (by simp [Value.oneCell']) hlenW.out (by decide) hB2.out ?_); intro v9 w9 hown9 hg9; have hst9 := Lib.hid (hst.out.appended hOw.out hlo.out hB0.out hg9); have hs9 := Lib.hid (Nat.le_trans hB2.out hg9.size); replace hown9 := Lib.hid hown9; clear hg9; obtain ⟨gs', hgs', x5, x6, _⟩ := own_at' hst9.out.owns (sumsC_at (zeroTo_at hLk'.out)); simp only [Option.some.injEq, Addr.mk.injEq, and_true] at hgs'; subst hgs')
                  go_roundg (mL - (k + 1))
                  case measure => exact f4.out
                  case rel => exact ⟨k + 1, rfl, by omega, rfl, Lib.hid (hst9.out.store (by rw [zeroTo_len, HML.out]; exact hkm) (by rw [zeroTo_names, zeroTo_names]) (zeroTo_sums (by rw [HML.out]; exact hkm))), Lib.hid (own_kt0 (by rw [hws.out]; simpa [strsC] using hown9.out) (by decide) (others_store (hst9.out.owns.size_lt _ rfl).choose_spec.choose_spec)), Lib.hid (by rw [World.size_setCell]; exact hs9.out)⟩
                · rw [if_neg hx] at hws
                  replace hws := Lib.hid hws
                  go_wp2_with fail
                  go_roundg (mL - (k + 1))
                  case measure => exact f4.out
                  case rel => exact ⟨k + 1, rfl, by omega, rfl, Lib.hid (hst.out.store (by rw [zeroTo_len, HML.out]; exact hkm) (by rw [zeroTo_names, zeroTo_names]) (zeroTo_sums (by rw [HML.out]; exact hkm))), Lib.hid (own_kt0 (by rw [hws.out]; exact hw11.out) (by decide) (others_store (hst.out.owns.size_lt _ rfl).choose_spec.choose_spec)), Lib.hid (by rw [World.size_setCell]; exact hB2.out)⟩
              · obtain rfl : k = mL := by omega
                have hkm' : ¬ (k : Int) < (k : Int) := by omega
                rw [zeroTo_all L (by rw [HML.out]; exact Nat.le_refl _)] at hst
                rw [List.take_of_length_le (by rw [HML.out]; exact Nat.le_refl _)] at hw11
                have HRs := Lib.hid (reset_st hst.out hI.out (by rw [HML.out]; omega))
                obtain ⟨nW, hnW⟩ : ∃ m, m = (wantL L).length := ⟨_, rfl⟩
                have HNW : Hid ((wantL L).length = nW) := Lib.hid hnW.symm
                have hnWl : Hid (nW ≤ 1000000) := Lib.hid (by
                  have h1 : (wantL L).length ≤ L.length := by unfold wantL; rw [List.length_map]; exact List.length_filter_le _ _
                  rw [HML.out] at h1
                  omega)
                clear hnW
                obtain ⟨bw, cw, rfl, hcw, _, _, _⟩ := hw11.out.rown (n := nW) (by rw [strsC_len, HNW.out])
                go_wp2_with fail
                refine HRs.out.mono ?_
                rintro e wb ⟨⟨v, rfl, hv⟩, hst2, hkp⟩
                obtain ⟨bv, cv, rfl, hcv, _, _, _⟩ := hv.rown (n := nW) (by rw [strsC_len, HNW.out])
                have HTx : Hid (Calls Try.prog 14 #[.slice bv nW cv, .slice bw nW cw] wb fun e w' => e = .returned (.bool true) ∧ Below wb.heap.size wb w') := Lib.hid (by
                  have h := texts_yes (wantL L) bv bw cv cw (by rw [HNW.out]; exact hnWl.out) wb hv.here (hkp _ _ _ hw11.out).here (by rw [HNW.out]; exact hcv) (by rw [HNW.out]; exact hcw)
                  rw [HNW.out] at h
                  exact h)
                replace hv := Lib.hid hv
                replace hst2 := Lib.hid hst2
                clear hkp
                go_wp2_with fail
                refine HTx.out.mono ?_
                rintro e wd ⟨rfl, hbd⟩
                have hst3 := Lib.hid (hst2.out.moved hbd)
                clear hbd
                go_wp2_with fail
                go_meet
                exact ⟨zeroed L, [], hst3, Lib.hid (minv_zero hI.out), Lib.hid ⟨by rw [show (zeroed L).length = L.length by simp [zeroed]]; exact hLs.out.1, by
                  intro p hp
                  obtain ⟨q, hq, rfl⟩ := List.mem_map.1 hp
                  exact hLs.out.2 q hq⟩⟩
          | false =>
            go_wp2_with fail
            go_meet
            exact ⟨L, M, hst, hI, hLs⟩
        case rest =>
          clear hst hI hLs
          clear L M
          obtain ⟨L, M, hst, hI, hLs⟩ := hcut
          have hndM := Lib.hid (hst.out.meter.choose_spec.keys)
          obtain ⟨s, hs⟩ : ∃ s, A[i]? = some s := ⟨_, List.getElem?_eq_getElem (by rw [HN.out]; omega)⟩
          obtain ⟨z, hz⟩ : ∃ s, zs[i]? = some s := ⟨_, List.getElem?_eq_getElem (by rw [HZ.out]; omega)⟩
          have hsl := Lib.hid (hsz.out s (List.mem_of_getElem? hs))
          have hzr := hzs.out z (List.mem_of_getElem? hz)
          obtain ⟨tb, tf, rfl, hat⟩ := hrw.out (by intro e; simp at e; subst e; simp at hs)
          obtain ⟨zb, zf, rfl, hzat⟩ := hrzw.out (by intro e; simp at e; subst e; simp at hz)
          have cs0 := strRow_cell hat hs
          have cz0 := numRow_cell hzat hz
          have hCS : Hid (∀ W, Below w.heap.size w W → W.cell? ⟨tb, tf + i, none⟩ = some (.string s)) := Lib.hid fun W hW => (hW.cell (cell_lt cs0)).trans cs0
          have hCZ : Hid (∀ W, Below w.heap.size w W → W.cell? ⟨zb, zf + i, none⟩ = some (.int .i64 z)) := Lib.hid fun W hW => (hW.cell (cell_lt cz0)).trans cz0
          clear cs0 cz0 hat hzat hs hz
          have hin : (i : Int) < n := by omega
          have hiz : (i : Int) < nz := by omega
          have x0 := hCS.out wc hst.out.below
          have x1 := hCZ.out wc hst.out.below
          have hst1 : MeSt w wc.drew g L M u8 u9 := hst.out.moved (Below.refl _ wc).drew
          have HAd := Lib.hid (add_st hst1 s hsl.out z hzr)
          replace hst1 := Lib.hid hst1
          go_upto_region 21 with fail
          go_cut [] from 66 to 76 (fun wx => ∃ M', Hid ((z ≤ 0 ∧ M' = M) ∨ (0 < z ∧ M' = putI M s (sumOf M s z))) ∧ Hid (MeSt w wx g L M' u8 u9))
          case first =>
            have tv : True := trivial
            go_region_with (go_at_call 16; (with_reducible refine HAd.out.mono ?_); rintro e w' ⟨rfl, M', hM', hst'⟩)
            all_goals
              have hst2 := Lib.hid hst'
              clear hst'
              go_wp2_with fail
              go_meet
              exact ⟨M', Lib.hid hM', hst2⟩
          case rest =>
            clear hst hst1 HAd x0 x1
            obtain ⟨M', hM', hst⟩ := hcut
            obtain ⟨mL, hmL⟩ : ∃ m, m = L.length := ⟨_, rfl⟩
            have HML : Hid (L.length = mL) := Lib.hid hmL.symm
            obtain ⟨lo, lc, rfl, hlc, hlcm, _, hlz⟩ := hst.out.ownl.rown (n := mL) (by rw [namesC_len, hmL])
            obtain ⟨so, sc, rfl, hsc, hscm, _, hsz'⟩ := hst.out.owns.rown (n := mL) (by rw [sumsC_len, hmL])
            have hmi : mL ≤ 60 := by have := hLs.out.1; omega
            replace hlz := Lib.hid hlz
            replace hsz' := Lib.hid hsz'
            clear hmL
            go_upto_block 4 with fail
            go_cut [13] from 76 to 93 (fun v13 wx => ∃ k : Nat, v13 = .int .i64 k ∧ k ≤ mL ∧ Hid (∀ (j : Nat) p, j < k → L[j]? = some p → kB p < s.data.toList) ∧ Hid (∀ p, L[k]? = some p → ¬ kB p < s.data.toList) ∧ Hid (MeSt w wx g L M' (.slice lo mL lc) (.slice so mL sc)))
            case first =>
              go_wp2_with fail
              go_loopg [13] mL (fun q v13 wx => ∃ k : Nat, q = mL - k ∧ k ≤ mL ∧ v13 = .int .i64 k ∧ Hid (∀ (j : Nat) p, j < k → L[j]? = some p → kB p < s.data.toList) ∧ Hid (MeSt w wx g L M' (.slice lo mL lc) (.slice so mL sc)))
              case atStart => exact ⟨0, rfl, Nat.zero_le _, rfl, Lib.hid (fun j p hj => absurd hj (by omega)), hst⟩
              case round =>
                obtain ⟨k, hq, hk, rfl, hlow, hst⟩ := hrel
                replace hq := hq.symm
                subst hq
                have x0 := hCS.out wr hst.out.below
                by_cases hkm : k < mL
                · have hkm' : (k : Int) < mL := by omega
                  have f4 : Hid (mL - (k + 1) < mL - k) := Lib.hid (by omega)
                  have g1 : IntKind.i64.wrap ((k : Int) + 1) = (k : Int) + 1 := IntWalk.i64_in _ (by omega)
                  obtain ⟨⟨t, y⟩, hLk⟩ : ∃ q, L[k]? = some q := ⟨_, List.getElem?_eq_getElem (by rw [HML.out]; exact hkm)⟩
                  obtain ⟨gl, rfl, x2, _, _⟩ := own_at' hst.out.ownl (namesC_at hLk)
                  replace hLk := Lib.hid hLk
                  by_cases hless : t.data.toList < s.data.toList
                  · have hb1 := less_true hless
                    replace hless := Lib.hid hless
                    go_wp2_with fail
                    go_quiet (fail)
                    have hst2 := Lib.hid (hst.out.moved (draws_below' wr nq))
                    go_wp2_with fail
                    go_roundg (mL - (k + 1))
                    case measure => exact f4.out
                    case rel => exact ⟨k + 1, rfl, by omega, rfl, Lib.hid (fun j p hj hp => by
                      by_cases e : j = k
                      · subst e
                        rw [hLk.out] at hp
                        cases hp
                        exact hless.out
                      · exact hlow.out j p (by omega) hp), hst2⟩
                  · have hb1 := less_false hless
                    replace hless := Lib.hid hless
                    go_wp2_with fail
                    go_quiet (fail)
                    have hst2 := Lib.hid (hst.out.moved (draws_below' wr nq))
                    go_wp2_with fail
                    go_meet
                    exact ⟨k, rfl, hk, hlow, Lib.hid (fun p hp => by
                      rw [hLk.out] at hp
                      cases hp
                      exact hless.out), hst2⟩
                · obtain rfl : k = mL := by omega
                  have hkm' : ¬ (k : Int) < (k : Int) := by omega
                  go_wp2_with fail
                  go_quiet (fail)
                  have hst2 := Lib.hid (hst.out.moved (draws_below' wr nq))
                  go_wp2_with fail
                  go_meet
                  exact ⟨k, rfl, hk, hlow, Lib.hid (fun p hp => by
                    rw [List.getElem?_eq_none (by rw [HML.out]; exact Nat.le_refl _)] at hp
                    cases hp), hst2⟩
            case rest =>
              clear hst
              obtain ⟨k, rfl, hk, hlow, hhi, hst⟩ := hcut
              have x0 := hCS.out wc hst.out.below
              go_upto_region 25 with fail
              rename World => wb
              go_cut [107] from 93 to 107 (fun v107 wx => ∃ b : Bool, v107 = .bool b ∧ Hid (b = true ↔ ∀ p, L[k]? = some p → p.1 ≠ s) ∧ Hid (MeSt w wx g L M' (.slice lo mL lc) (.slice so mL sc)))
              case first =>
                by_cases hkm : k < mL
                · have hkm' : (k : Int) < mL := by omega
                  have hkne : ¬ (k : Int) = (mL : Int) := by omega
                  have hkne2 : ((k : Int) == (mL : Int)) = false := beq_false_of_ne hkne
                  obtain ⟨⟨t, y⟩, hLk⟩ : ∃ q, L[k]? = some q := ⟨_, List.getElem?_eq_getElem (by rw [HML.out]; exact hkm)⟩
                  obtain ⟨gl, rfl, x2, _, _⟩ := own_at' hst.out.ownl (namesC_at hLk)
                  replace hLk := Lib.hid hLk
                  by_cases hts : t = s
                  · subst hts
                    go_wp2_with fail
                    go_quiet (fail)
                    have hst2 := Lib.hid (hst.out.moved (draws_below' wb nq))
                    go_wp2_with fail
                    go_meet
                    exact ⟨false, rfl, Lib.hid ⟨fun h => absurd h (by decide), fun h => absurd rfl (h _ hLk.out)⟩, hst2⟩
                  · have hb1 : (t.toList == s.toList) = false := beq_false_of_ne (fun e => hts (ba_eq (by rw [← Lib.toList_data, ← Lib.toList_data]; exact e)))
                    go_wp2_with fail
                    go_quiet (fail)
                    have hst2 := Lib.hid (hst.out.moved (draws_below' wb nq))
                    go_wp2_with fail
                    go_meet
                    exact ⟨true, rfl, Lib.hid ⟨(fun _ p hp => by rw [hLk.out] at hp; cases hp; exact hts), fun _ => rfl⟩, hst2⟩
                · obtain rfl : k = mL := by omega
                  go_wp2_with fail
                  go_quiet (fail)
                  have hst2 := Lib.hid (hst.out.moved (draws_below' wb nq))
                  go_wp2_with fail
                  go_meet
                  exact ⟨true, rfl, Lib.hid ⟨(fun _ p hp => by
                    rw [List.getElem?_eq_none (by rw [HML.out]; exact Nat.le_refl _)] at hp
                    cases hp), fun _ => rfl⟩, hst2⟩
              case rest =>
                clear hst x0
                obtain ⟨b, rfl, hbb, hst⟩ := hcut
                go_upto_if 107 with fail
                rename World => wb
                go_cut [8, 9] from 108 to 134 (fun v8 v9 wx => ∃ (P R : List (ByteArray × Int)) (x : Int), Hid (MMid L P R s x) ∧ Hid (P.length = k) ∧ Hid (MeSt w wx g (P ++ (s, x) :: R) M' v8 v9) ∧ Hid ((P ++ (s, x) :: R).length ≤ i + 1 ∧ ∀ p ∈ P ++ (s, x) :: R, p.1.size ≤ 1000))
                case first =>
                  cases b with
                  | false =>
                    obtain ⟨x, hLk⟩ : ∃ x, L[k]? = some (s, x) := by
                      cases hx : L[k]? with
                      | none => exact absurd (hbb.out.2 (by intro p hp; rw [hx] at hp; cases hp)) (by decide)
                      | some q =>
                        obtain ⟨t, y⟩ := q
                        by_cases hts : t = s
                        · exact ⟨y, by rw [hts]⟩
                        · exact absurd (hbb.out.2 (by intro p hp; rw [hx] at hp; cases hp; exact hts)) (by decide)
                    have hmid := Lib.hid (mid_old hI.out.rise hI.out.vals hlow.out hLk)
                    have hkl := (List.getElem?_eq_some_iff.1 hLk).1
                    have hsplit : L.take k ++ (s, x) :: L.drop (k + 1) = L := by
                      rw [← (List.getElem?_eq_some_iff.1 hLk).2, List.getElem_cons_drop, List.take_append_drop]
                    have hPl := Lib.hid (show (L.take k).length = k by rw [List.length_take]; omega)
                    have hst2 : Hid (MeSt w wb g (L.take k ++ (s, x) :: L.drop (k + 1)) M' (.slice lo mL lc) (.slice so mL sc)) := by rw [hsplit]; exact hst
                    have hLs2 : Hid ((L.take k ++ (s, x) :: L.drop (k + 1)).length ≤ i + 1 ∧ ∀ p ∈ L.take k ++ (s, x) :: L.drop (k + 1), p.1.size ≤ 1000) := by rw [hsplit]; exact Lib.hid ⟨by have := hLs.out.1; omega, hLs.out.2⟩
                    clear hLk hkl hsplit
                    go_wp2_with fail
                    go_meet
                    exact ⟨_, _, _, hmid, hPl, hst2, hLs2⟩
                  | true =>
                    have hmid := Lib.hid (mid_new hI.out.rise hlow.out (fun p hp => ⟨hhi.out p hp, (hbb.out.1 rfl) p hp⟩))
                    have hkI : (k : Int) ≤ (mL : Int) := by omega
                    have hkC : (k : Int) ≤ (lc : Int) := by omega
                    have hkS : (k : Int) ≤ (sc : Int) := by omega
                    have hmC : (mL : Int) ≤ (lc : Int) := by omega
                    have hmS : (mL : Int) ≤ (sc : Int) := by omega
                    have x0 := hCS.out wb hst.out.below
                    unfold maxLen at hlcm hscm
                    go_upto_region 26 with fail
                    go_cut [8] from 108 to 123 (fun v8 wx => Hid (Below wb.heap.size wb wx) ∧ Hid (Own wx wb.heap.size 9 1 v8 (namesC (L.take k ++ (s, 0) :: L.drop k))))
                    case first =>
                      have hltk : Hid ((namesC (L.take k)).length = k) := Lib.hid (by rw [namesC_len, List.length_take, HML.out]; omega)
                      have hldr : Hid ((namesC (L.drop k)).length = mL - k) := Lib.hid (by rw [namesC_len, List.length_drop, HML.out])
                      have htk : (namesC L).take k = namesC (L.take k) := by unfold namesC; rw [List.map_take]
                      have hdr : (namesC L).drop k = namesC (L.drop k) := by unfold namesC; rw [List.map_drop]
                      have hd0 : wb.drew.cell? ⟨tb, tf + i, none⟩ = some (.string s) := x0
                      have hRw := hst.out.ownl.here
                      rcases own_cases hst.out.ownl with ⟨rfl, hm00, rfl⟩ | ⟨gl, rfl⟩
                      · subst hm00
                        obtain rfl : k = 0 := by omega
                        have hLnil : L = [] := List.length_eq_zero_iff.1 HML.out
                        have hztk : (none : Option Addr) = none → 0 = 0 := fun _ => rfl
                        have hzdr : (none : Option Addr) = none → 0 = 0 := fun _ => rfl
                        have HF : Hid (∀ x, Below wb.heap.size wb x → x.cell? ⟨tb, tf + i, none⟩ = some (.string s) ∧ Row x 1 none (namesC (L.take 0)) ∧ Row x 1 none (namesC (L.drop 0))) := Lib.hid (fun x hx => ⟨kept_cell hx x0, by rw [← htk]; exact (hRw.below hx).take 0, by rw [← hdr]; exact hRw.below hx⟩)
                        have hd1 := fun ob => (HF.out ((wb.alloc ob).drew) ((Below.refl _ wb).alloc (Nat.le_refl _) ob).drew).1
                        have hd2 := fun ob ob' => (HF.out (((wb.alloc ob).alloc ob').drew) (((Below.refl _ wb).alloc (Nat.le_refl _) ob).alloc (by simp) ob').drew).1
                        clear hRw htk hdr
                        go_region_held3 (fun x : World => x.cell? ⟨tb, tf + i, none⟩ = some (.string s)) (first | with_reducible exact hd0 | with_reducible exact x0 | with_reducible exact hd1 _ | with_reducible exact hd2 _ _ | with_reducible exact hx10 | with_reducible exact hx11 | with_reducible assumption) (first
                          | (refine step_appendN E9 rfl rfl hown10 rfl rfl hldr.out hzdr (HF.out w10 hb10).2.2 names_one names_cell (by simp) (by decide) hb10.size ?_; intro v11 w11 hown11 hg11; have hb11 : Below wb.heap.size wb w11 := bapp hb10 hown10 hg11 hb10.size; have hx11 := (HF.out w11 hb11).1)
                          | (refine step_append1 E9 rfl rfl (Own.drew ((own_new0 wb _ _).alloc _)) rfl rfl (new_two _ _ _ _ _) rfl (by simp [Value.oneCell']) (by simp) (by decide) (by simp; omega) ?_; intro v10 w10 hown10 hg10; have hb10 : Below wb.heap.size wb w10 := (((Below.refl _ wb).alloc (Nat.le_refl _) _).alloc (by simp) _).drew.grown hg10 (by simp; omega) (by intro q hq; simp [Value.ownBlock] at hq; omega); have hx10 := (HF.out w10 hb10).1)
                          | (refine step_append1 E9 rfl rfl (Own.drew (own_new1 wb _ _ _)) rfl rfl (new_one _ _ _ _ _) rfl (by simp [Value.oneCell']) (by simp) (by decide) (by simp; omega) ?_; intro v10 w10 hown10 hg10; have hb10 : Below wb.heap.size wb w10 := (((Below.refl _ wb).alloc (Nat.le_refl _) _).alloc (by simp) _).drew.grown hg10 (by simp; omega) (by intro q hq; simp [Value.ownBlock] at hq; omega); have hx10 := (HF.out w10 hb10).1))
                        all_goals
                          have hbX := Lib.hid hb11
                          have hownX : Hid (Own w11 wb.heap.size 9 1 v11 (namesC (L.take 0 ++ (s, 0) :: L.drop 0))) := Lib.hid (by simpa [namesC, hLnil] using hown11)
                          clear hown10 hb10 hown11 hb11 HF
                          go_wp2_with fail
                          all_goals
                            go_meet
                            exact ⟨hbX, hownX⟩
                      · have hztk : (some (⟨gl, 0, none⟩ : Addr)) = none → lc = 0 := by intro h; cases h
                        have hzdr : (if lc = k then some (⟨gl, 0, none⟩ : Addr) else some ⟨gl, k, none⟩) = none → lc - k = 0 := by intro h; split at h <;> cases h
                        have HF : Hid (∀ x, Below wb.heap.size wb x → x.cell? ⟨tb, tf + i, none⟩ = some (.string s) ∧ Row x 1 (some ⟨gl, 0, none⟩) (namesC (L.take k)) ∧ Row x 1 (if lc = k then some (⟨gl, 0, none⟩ : Addr) else some ⟨gl, k, none⟩) (namesC (L.drop k))) := Lib.hid (fun x hx => ⟨kept_cell hx x0, by rw [← htk]; exact (hRw.below hx).take k, by
                          split
                          · rw [List.drop_eq_nil_of_le (by rw [HML.out]; omega)]; exact Row.nil _ _ _
                          · rw [← hdr]; have := (hRw.below hx).drop1 k; rw [Nat.zero_add] at this; exact this⟩)
                        have hd1 := fun ob => (HF.out ((wb.alloc ob).drew) ((Below.refl _ wb).alloc (Nat.le_refl _) ob).drew).1
                        have hd2 := fun ob ob' => (HF.out (((wb.alloc ob).alloc ob').drew) (((Below.refl _ wb).alloc (Nat.le_refl _) ob).alloc (by simp) ob').drew).1
                        clear hRw htk hdr
                        go_region_held3 (fun x : World => x.cell? ⟨tb, tf + i, none⟩ = some (.string s)) (first | with_reducible exact hd0 | with_reducible exact x0 | with_reducible exact hd1 _ | with_reducible exact hd2 _ _ | with_reducible exact hx8 | with_reducible exact hx9 | with_reducible exact hx10 | with_reducible exact kept_cell ((Below.refl _ _).alloc (Nat.le_refl _) _) hx8 | with_reducible assumption) (first
                          | (refine step_appendN E9 rfl rfl hown9 rfl rfl hldr.out hzdr (HF.out w9 hb9).2.2 names_one names_cell (by simp [namesC]; omega) (by decide) hb9.size ?_; intro v10 w10 hown10 hg10; have hb10 : Below wb.heap.size wb w10 := bapp hb9 hown9 hg10 hb9.size; have hx10 := (HF.out w10 hb10).1)
                          | (refine step_append1 E9 rfl rfl hown8 rfl rfl hc8 rfl (by simp [Value.oneCell']) (by simp [namesC]; omega) (by decide) hb8.size ?_; intro v9 w9 hown9 hg9; have hb9 : Below wb.heap.size wb w9 := bapp hb8 hown8 hg9 hb8.size; have hx9 := (HF.out w9 hb9).1)
                          | (refine step_append1 E9 rfl rfl (hown8.alloc _) rfl rfl (heap_alloc_new w8 _) rfl (by simp [Value.oneCell']) (by simp [namesC]; omega) (by decide) (by have := hb8.size; simp; omega) ?_; intro v9 w9 hown9 hg9; have hb9 : Below wb.heap.size wb w9 := bapp (hb8.alloc hb8.size _) (hown8.alloc _) hg9 (by have := hb8.size; simp; omega); have hx9 := (HF.out w9 hb9).1)
                          | (refine step_appendN E9 rfl rfl (Own.drew (own_new0 wb _ _)) rfl rfl hltk.out hztk (HF.out _ ((Below.refl _ wb).alloc (Nat.le_refl _) _).drew).2.1 names_one names_cell (by simp; omega) (by decide) (by simp) ?_; intro v8 w8 hown8 hg8; have hb8 : Below wb.heap.size wb w8 := ((Below.refl _ wb).alloc (Nat.le_refl _) _).drew.grown hg8 (by simp) (by intro q hq; simp [Value.ownBlock] at hq; omega); have hx8 := (HF.out w8 hb8).1)
                          | (refine step_appendN E9 rfl rfl (Own.drew ((own_new0 wb _ _).alloc _)) rfl rfl hltk.out hztk (HF.out _ (((Below.refl _ wb).alloc (Nat.le_refl _) _).alloc (by simp) _).drew).2.1 names_one names_cell (by simp; omega) (by decide) (by simp; omega) ?_; intro v8 w8 hown8 hg8; have hb8 : Below wb.heap.size wb w8 := (((Below.refl _ wb).alloc (Nat.le_refl _) _).alloc (by simp) _).drew.grown hg8 (by simp; omega) (by intro q hq; simp [Value.ownBlock] at hq; omega); have hx8 := (HF.out w8 hb8).1; have hc8 : w8.heap[wb.heap.size + 1]? = some (.cells [Value.string s].toArray 9 (0, 0)) := (hg8.block (wb.heap.size + 1) (by simp) (by simp [Value.ownBlock])).trans (new_two _ _ _ _ _))
                          | (refine step_appendN E9 rfl rfl (Own.drew (own_new1 wb _ _ _)) rfl rfl hltk.out hztk (HF.out _ (((Below.refl _ wb).alloc (Nat.le_refl _) _).alloc (by simp) _).drew).2.1 names_one names_cell (by simp; omega) (by decide) (by simp; omega) ?_; intro v8 w8 hown8 hg8; have hb8 : Below wb.heap.size wb w8 := (((Below.refl _ wb).alloc (Nat.le_refl _) _).alloc (by simp) _).drew.grown hg8 (by simp; omega) (by intro q hq; simp [Value.ownBlock] at hq; omega); have hx8 := (HF.out w8 hb8).1; have hc8 : w8.heap[wb.heap.size]? = some (.cells [Value.string s].toArray 9 (0, 0)) := (hg8.block wb.heap.size (by simp; omega) (by simp [Value.ownBlock])).trans (new_one _ _ _ _ _)))
                        all_goals
                          have hbX := Lib.hid hb10
                          have hownX : Hid (Own w10 wb.heap.size 9 1 v10 (namesC (L.take k ++ (s, 0) :: L.drop k))) := Lib.hid (by simpa [namesC] using hown10)
                          clear hown8 hown9 hown10 hb8 hb9 hb10 HF
                          go_wp2_with fail
                          all_goals
                            go_meet
                            exact ⟨hbX, hownX⟩
                    case rest =>
                      obtain ⟨hbX, hnX⟩ := hcut
                      rename World => wq
                      have hstq := Lib.hid (hst.out.moved hbX.out)
                      replace x0 := kept_cell hbX.out x0
                      go_upto_region 27 with fail
                      go_cut [9] from 123 to 133 (fun v9 wx => Hid (Below wq.heap.size wq wx) ∧ Hid (Own wx wq.heap.size 3 1 v9 (sumsC (L.take k ++ (s, 0) :: L.drop k))))
                      case first =>
                        have hltk : Hid ((sumsC (L.take k)).length = k) := Lib.hid (by rw [sumsC_len, List.length_take, HML.out]; omega)
                        have hldr : Hid ((sumsC (L.drop k)).length = mL - k) := Lib.hid (by rw [sumsC_len, List.length_drop, HML.out])
                        have htk : (sumsC L).take k = sumsC (L.take k) := by unfold sumsC; rw [List.map_take]
                        have hdr : (sumsC L).drop k = sumsC (L.drop k) := by unfold sumsC; rw [List.map_drop]
                        have hd0 : wq.drew.cell? ⟨tb, tf + i, none⟩ = some (.string s) := x0
                        have hRw := hstq.out.owns.here
                        rcases own_cases hstq.out.owns with ⟨rfl, hm00, rfl⟩ | ⟨gl, rfl⟩
                        · subst hm00
                          obtain rfl : k = 0 := by omega
                          have hLnil : L = [] := List.length_eq_zero_iff.1 HML.out
                          have hztk : (none : Option Addr) = none → 0 = 0 := fun _ => rfl
                          have hzdr : (none : Option Addr) = none → 0 = 0 := fun _ => rfl
                          have HF : Hid (∀ x, Below wq.heap.size wq x → x.cell? ⟨tb, tf + i, none⟩ = some (.string s) ∧ Row x 1 none (sumsC (L.take 0)) ∧ Row x 1 none (sumsC (L.drop 0))) := Lib.hid (fun x hx => ⟨kept_cell hx x0, by rw [← htk]; exact (hRw.below hx).take 0, by rw [← hdr]; exact hRw.below hx⟩)
                          have hd1 := fun ob => (HF.out ((wq.alloc ob).drew) ((Below.refl _ wq).alloc (Nat.le_refl _) ob).drew).1
                          have hd2 := fun ob ob' => (HF.out (((wq.alloc ob).alloc ob').drew) (((Below.refl _ wq).alloc (Nat.le_refl _) ob).alloc (by simp) ob').drew).1
                          clear hRw htk hdr
                          go_region_held3 (fun x : World => x.cell? ⟨tb, tf + i, none⟩ = some (.string s)) (first | with_reducible exact hd0 | with_reducible exact x0 | with_reducible exact hd1 _ | with_reducible exact hd2 _ _ | with_reducible exact hx10 | with_reducible exact hx11 | with_reducible assumption) (first
                            | (refine step_appendN E3 rfl rfl hown10 rfl rfl hldr.out hzdr (HF.out w10 hb10).2.2 sums_one sums_cell (by simp) (by decide) hb10.size ?_; intro v11 w11 hown11 hg11; have hb11 : Below wq.heap.size wq w11 := bapp hb10 hown10 hg11 hb10.size; have hx11 := (HF.out w11 hb11).1)
                            | (refine step_append1 E3 rfl rfl (Own.drew ((own_new0 wq _ _).alloc _)) rfl rfl (new_two _ _ _ _ _) rfl (by simp [Value.oneCell']) (by simp) (by decide) (by simp; omega) ?_; intro v10 w10 hown10 hg10; have hb10 : Below wq.heap.size wq w10 := (((Below.refl _ wq).alloc (Nat.le_refl _) _).alloc (by simp) _).drew.grown hg10 (by simp; omega) (by intro q hq; simp [Value.ownBlock] at hq; omega); have hx10 := (HF.out w10 hb10).1)
                            | (refine step_append1 E3 rfl rfl (Own.drew (own_new1 wq _ _ _)) rfl rfl (new_one _ _ _ _ _) rfl (by simp [Value.oneCell']) (by simp) (by decide) (by simp; omega) ?_; intro v10 w10 hown10 hg10; have hb10 : Below wq.heap.size wq w10 := (((Below.refl _ wq).alloc (Nat.le_refl _) _).alloc (by simp) _).drew.grown hg10 (by simp; omega) (by intro q hq; simp [Value.ownBlock] at hq; omega); have hx10 := (HF.out w10 hb10).1))
                          all_goals
                            have hbX := Lib.hid hb11
                            have hownX : Hid (Own w11 wq.heap.size 3 1 v11 (sumsC (L.take 0 ++ (s, 0) :: L.drop 0))) := Lib.hid (by simpa [sumsC, hLnil] using hown11)
                            clear hown10 hb10 hown11 hb11 HF
                            go_wp2_with fail
                            all_goals
                              go_meet
                              exact ⟨hbX, hownX⟩
                        · have hztk : (some (⟨gl, 0, none⟩ : Addr)) = none → sc = 0 := by intro h; cases h
                          have hzdr : (if sc = k then some (⟨gl, 0, none⟩ : Addr) else some ⟨gl, k, none⟩) = none → sc - k = 0 := by intro h; split at h <;> cases h
                          have HF : Hid (∀ x, Below wq.heap.size wq x → x.cell? ⟨tb, tf + i, none⟩ = some (.string s) ∧ Row x 1 (some ⟨gl, 0, none⟩) (sumsC (L.take k)) ∧ Row x 1 (if sc = k then some (⟨gl, 0, none⟩ : Addr) else some ⟨gl, k, none⟩) (sumsC (L.drop k))) := Lib.hid (fun x hx => ⟨kept_cell hx x0, by rw [← htk]; exact (hRw.below hx).take k, by
                            split
                            · rw [List.drop_eq_nil_of_le (by rw [HML.out]; omega)]; exact Row.nil _ _ _
                            · rw [← hdr]; have := (hRw.below hx).drop1 k; rw [Nat.zero_add] at this; exact this⟩)
                          have hd1 := fun ob => (HF.out ((wq.alloc ob).drew) ((Below.refl _ wq).alloc (Nat.le_refl _) ob).drew).1
                          have hd2 := fun ob ob' => (HF.out (((wq.alloc ob).alloc ob').drew) (((Below.refl _ wq).alloc (Nat.le_refl _) ob).alloc (by simp) ob').drew).1
                          clear hRw htk hdr
                          go_region_held3 (fun x : World => x.cell? ⟨tb, tf + i, none⟩ = some (.string s)) (first | with_reducible exact hd0 | with_reducible exact x0 | with_reducible exact hd1 _ | with_reducible exact hd2 _ _ | with_reducible exact hx8 | with_reducible exact hx9 | with_reducible exact hx10 | with_reducible exact kept_cell ((Below.refl _ _).alloc (Nat.le_refl _) _) hx8 | with_reducible assumption) (first
                            | (refine step_appendN E3 rfl rfl hown9 rfl rfl hldr.out hzdr (HF.out w9 hb9).2.2 sums_one sums_cell (by simp [sumsC]; omega) (by decide) hb9.size ?_; intro v10 w10 hown10 hg10; have hb10 : Below wq.heap.size wq w10 := bapp hb9 hown9 hg10 hb9.size; have hx10 := (HF.out w10 hb10).1)
                            | (refine step_append1 E3 rfl rfl hown8 rfl rfl hc8 rfl (by simp [Value.oneCell']) (by simp [sumsC]; omega) (by decide) hb8.size ?_; intro v9 w9 hown9 hg9; have hb9 : Below wq.heap.size wq w9 := bapp hb8 hown8 hg9 hb8.size; have hx9 := (HF.out w9 hb9).1)
                            | (refine step_append1 E3 rfl rfl (hown8.alloc _) rfl rfl (heap_alloc_new w8 _) rfl (by simp [Value.oneCell']) (by simp [sumsC]; omega) (by decide) (by have := hb8.size; simp; omega) ?_; intro v9 w9 hown9 hg9; have hb9 : Below wq.heap.size wq w9 := bapp (hb8.alloc hb8.size _) (hown8.alloc _) hg9 (by have := hb8.size; simp; omega); have hx9 := (HF.out w9 hb9).1)
                            | (refine step_appendN E3 rfl rfl (Own.drew (own_new0 wq _ _)) rfl rfl hltk.out hztk (HF.out _ ((Below.refl _ wq).alloc (Nat.le_refl _) _).drew).2.1 sums_one sums_cell (by simp; omega) (by decide) (by simp) ?_; intro v8 w8 hown8 hg8; have hb8 : Below wq.heap.size wq w8 := ((Below.refl _ wq).alloc (Nat.le_refl _) _).drew.grown hg8 (by simp) (by intro q hq; simp [Value.ownBlock] at hq; omega); have hx8 := (HF.out w8 hb8).1)
                            | (refine step_appendN E3 rfl rfl (Own.drew ((own_new0 wq _ _).alloc _)) rfl rfl hltk.out hztk (HF.out _ (((Below.refl _ wq).alloc (Nat.le_refl _) _).alloc (by simp) _).drew).2.1 sums_one sums_cell (by simp; omega) (by decide) (by simp; omega) ?_; intro v8 w8 hown8 hg8; have hb8 : Below wq.heap.size wq w8 := (((Below.refl _ wq).alloc (Nat.le_refl _) _).alloc (by simp) _).drew.grown hg8 (by simp; omega) (by intro q hq; simp [Value.ownBlock] at hq; omega); have hx8 := (HF.out w8 hb8).1; have hc8 : w8.heap[wq.heap.size + 1]? = some (.cells [Value.int .i64 0].toArray 3 (0, 0)) := (hg8.block (wq.heap.size + 1) (by simp) (by simp [Value.ownBlock])).trans (new_two _ _ _ _ _))
                            | (refine step_appendN E3 rfl rfl (Own.drew (own_new1 wq _ _ _)) rfl rfl hltk.out hztk (HF.out _ (((Below.refl _ wq).alloc (Nat.le_refl _) _).alloc (by simp) _).drew).2.1 sums_one sums_cell (by simp; omega) (by decide) (by simp; omega) ?_; intro v8 w8 hown8 hg8; have hb8 : Below wq.heap.size wq w8 := (((Below.refl _ wq).alloc (Nat.le_refl _) _).alloc (by simp) _).drew.grown hg8 (by simp; omega) (by intro q hq; simp [Value.ownBlock] at hq; omega); have hx8 := (HF.out w8 hb8).1; have hc8 : w8.heap[wq.heap.size]? = some (.cells [Value.int .i64 0].toArray 3 (0, 0)) := (hg8.block wq.heap.size (by simp; omega) (by simp [Value.ownBlock])).trans (new_one _ _ _ _ _)))
                          all_goals
                            have hbX := Lib.hid hb10
                            have hownX : Hid (Own w10 wq.heap.size 3 1 v10 (sumsC (L.take k ++ (s, 0) :: L.drop k))) := Lib.hid (by simpa [sumsC] using hown10)
                            clear hown8 hown9 hown10 hb8 hb9 hb10 HF
                            go_wp2_with fail
                            all_goals
                              go_meet
                              exact ⟨hbX, hownX⟩
                      case rest =>
                        obtain ⟨hbY, hsY⟩ := hcut
                        have hmLs : Hid ((L.take k ++ (s, 0) :: L.drop k).length ≤ i + 1 ∧ ∀ p ∈ L.take k ++ (s, 0) :: L.drop k, p.1.size ≤ 1000) := Lib.hid (by
                          refine ⟨?_, fun p hp => ?_⟩
                          · have := hLs.out.1
                            simp only [List.length_append, List.length_cons, List.length_take, List.length_drop]
                            omega
                          · rcases List.mem_append.1 hp with hp | hp
                            · exact hLs.out.2 p (List.mem_of_mem_take hp)
                            · rcases List.mem_cons.1 hp with rfl | hp
                              · exact hsl.out
                              · exact hLs.out.2 p (List.mem_of_mem_drop hp))
                        have hPl : Hid ((L.take k).length = k) := Lib.hid (by rw [List.length_take, HML.out]; omega)
                        have hstY : Hid (MeSt w wc g (L.take k ++ (s, 0) :: L.drop k) M' u8 u9) := Lib.hid (by
                          have h1 := hstq.out.moved hbY.out
                          exact ⟨h1.meter, (hnX.out.below hbY.out).mono hst.out.below.size, hsY.out.mono hstq.out.below.size, h1.below, h1.low⟩)
                        go_wp2_with fail
                        go_meet
                        exact ⟨_, _, _, hmid, hPl, hstY, hmLs⟩
                case rest =>
                  clear hst hlow hhi hbb
                  obtain ⟨P, R, x, hmid, hPl, hst, hLs2⟩ := hcut
                  have hx0 := hmid.out.x0
                  have hzr' := hzr
                  have hkx : (P ++ (s, x) :: R)[k]? = some (s, x) := by rw [List.getElem?_append_right (by rw [hPl.out]; exact Nat.le_refl _), hPl.out, Nat.sub_self]; rfl
                  obtain ⟨m2, hm2⟩ : ∃ m, m = (P ++ (s, x) :: R).length := ⟨_, rfl⟩
                  replace hm2 := Lib.hid hm2.symm
                  have hkm2 : (k : Int) < (m2 : Int) := by
                    have h1 := (List.getElem?_eq_some_iff.1 hkx).1
                    rw [hm2.out] at h1
                    omega
                  have hm260 : m2 ≤ 61 := by have := hLs2.out.1; rw [hm2.out] at this; omega
                  obtain ⟨lo2, lc2, rfl, hlc2, hlcm2, _, _⟩ := hst.out.ownl.rown (n := m2) (by rw [namesC_len, hm2.out])
                  obtain ⟨so2, sc2, rfl, hsc2, hscm2, _, _⟩ := hst.out.owns.rown (n := m2) (by rw [sumsC_len, hm2.out])
                  obtain ⟨gs, rfl, cx1, cx2, _⟩ := own_at' hst.out.owns (sumsC_at hkx)
                  have cz := hCZ.out wc hst.out.below
                  have hI3 := mid_done hmid.out hI.out hndM.out hM'.out
                  clear hkx
                  obtain ⟨c0, hc0⟩ : ∃ c, max z 0 = c := ⟨_, rfl⟩
                  obtain ⟨mr, hmr⟩ : ∃ m, min c0 4611686018427387904 = m := ⟨_, rfl⟩
                  have g5 : IntKind.i64.wrap (4611686018427387904 - mr) = 4611686018427387904 - mr := IntWalk.i64_in _ (by omega)
                  have f6 : Hid (m0 - (i + 1) < m0 - i) := Lib.hid (by omega)
                  have g8 : IntKind.i64.wrap ((i : Int) + 1) = (i : Int) + 1 := IntWalk.i64_in _ (by omega)
                  by_cases hov : 4611686018427387904 - mr < x
                  · have hov' := hov
                    have hnv : nvOf x z = 4611686018427387904 := by unfold nvOf; omega
                    have hst3 : Hid (MeSt w (wc.setCell ⟨gs, k, none⟩ (.int .i64 (4611686018427387904))) g (P ++ (s, 4611686018427387904) :: R) M' (.slice lo2 m2 lc2) (.slice (some ⟨gs, 0, none⟩) m2 sc2)) := Lib.hid (hst.out.store (x := 4611686018427387904) (by rw [List.length_append, hPl.out, List.length_cons]; omega) (by simp [namesC]) (by rw [← hPl.out]; simp [sumsC]))
                    rw [hnv] at hI3
                    have hI3' := Lib.hid hI3
                    have hLs3 : Hid ((P ++ (s, 4611686018427387904) :: R).length ≤ i + 1 ∧ ∀ p ∈ P ++ (s, 4611686018427387904) :: R, p.1.size ≤ 1000) := Lib.hid (by
                      refine ⟨by have := hLs2.out.1; simpa using this, fun p hp => ?_⟩
                      rcases List.mem_append.1 hp with hp | hp
                      · exact hLs2.out.2 p (List.mem_append.2 (.inl hp))
                      · rcases List.mem_cons.1 hp with rfl | hp
                        · exact hsl.out
                        · exact hLs2.out.2 p (List.mem_append.2 (.inr (List.mem_cons_of_mem _ hp))))
                    have hm3 : Hid ((P ++ (s, 4611686018427387904) :: R).length = m2) := Lib.hid (by rw [← hm2.out]; simp)
                    clear hI3 hnv
                    obtain ⟨L3, hL3⟩ : ∃ X, X = P ++ (s, 4611686018427387904) :: R := ⟨_, rfl⟩
                    rw [← hL3] at hst3 hI3' hLs3 hm3
                    clear hL3
                    go_wp2_with fail
                    go_loopg [15] m2 (fun q v15 wx => ∃ j : Nat, q = m2 - j ∧ j ≤ m2 ∧ v15 = .int .i64 j ∧ Hid (MeSt w wx g L3 M' (.slice lo2 m2 lc2) (.slice (some ⟨gs, 0, none⟩) m2 sc2)))
                    case atStart => exact ⟨0, rfl, Nat.zero_le _, rfl, hst3⟩
                    case round =>
                      obtain ⟨j, hq, hj, rfl, hst4⟩ := hrel
                      replace hq := hq.symm
                      subst hq
                      by_cases hjm : j < m2
                      · have hjm' : (j : Int) < m2 := by omega
                        have f5 : Hid (m2 - (j + 1) < m2 - j) := Lib.hid (by omega)
                        have g7 : IntKind.i64.wrap ((j : Int) + 1) = (j : Int) + 1 := IntWalk.i64_in _ (by omega)
                        obtain ⟨⟨t, y⟩, hLj⟩ : ∃ q, L3[j]? = some q := ⟨_, List.getElem?_eq_getElem (by rw [hm3.out]; exact hjm)⟩
                        obtain ⟨gl, rfl, y1, _, _⟩ := own_at' hst4.out.ownl (namesC_at hLj)
                        obtain ⟨gs', hgs', y2, _, _⟩ := own_at' hst4.out.owns (sumsC_at hLj)
                        simp only [Option.some.injEq, Addr.mk.injEq, and_true] at hgs'
                        subst hgs'
                        have HRd := Lib.hid (fun (W : World) (hW : Below wr.heap.size wr W) => read_st (hst4.out.moved hW) hI3'.out (hLs3.out.2 _ (List.mem_of_getElem? hLj)) (List.mem_of_getElem? hLj))
                        clear hLj
                        go_wp2_with fail
                        go_quiet ((go_at_call 17; exact Calls.quiet_of_same (HRd.out _ (draws_below' wr _))))
                        have hst5 := Lib.hid (hst4.out.moved (draws_below' wr nq))
                        go_wp2_with fail
                        go_roundg (m2 - (j + 1))
                        case measure => exact f5.out
                        case rel => exact ⟨j + 1, rfl, by omega, rfl, hst5⟩
                      · obtain rfl : j = m2 := by omega
                        have hjm' : ¬ (j : Int) < (j : Int) := by omega
                        go_wp2_with fail
                        go_roundg (m0 - (i + 1))
                        case measure => exact f6.out
                        case rel => exact ⟨i + 1, L3, M', rfl, by omega, rfl, hst4, hI3', hLs3⟩
                  · have hov' : ¬ 4611686018427387904 - mr < x := hov
                    have hnv : nvOf x z = x + mr := by unfold nvOf; omega
                    have g6 : IntKind.i64.wrap (x + mr) = x + mr := IntWalk.i64_in _ (by omega)
                    have hst3 : Hid (MeSt w (wc.setCell ⟨gs, k, none⟩ (.int .i64 (x + mr))) g (P ++ (s, x + mr) :: R) M' (.slice lo2 m2 lc2) (.slice (some ⟨gs, 0, none⟩) m2 sc2)) := Lib.hid (hst.out.store (x := x + mr) (by rw [List.length_append, hPl.out, List.length_cons]; omega) (by simp [namesC]) (by rw [← hPl.out]; simp [sumsC]))
                    rw [hnv] at hI3
                    have hI3' := Lib.hid hI3
                    have hLs3 : Hid ((P ++ (s, x + mr) :: R).length ≤ i + 1 ∧ ∀ p ∈ P ++ (s, x + mr) :: R, p.1.size ≤ 1000) := Lib.hid (by
                      refine ⟨by have := hLs2.out.1; simpa using this, fun p hp => ?_⟩
                      rcases List.mem_append.1 hp with hp | hp
                      · exact hLs2.out.2 p (List.mem_append.2 (.inl hp))
                      · rcases List.mem_cons.1 hp with rfl | hp
                        · exact hsl.out
                        · exact hLs2.out.2 p (List.mem_append.2 (.inr (List.mem_cons_of_mem _ hp))))
                    have hm3 : Hid ((P ++ (s, x + mr) :: R).length = m2) := Lib.hid (by rw [← hm2.out]; simp)
                    clear hI3 hnv
                    obtain ⟨L3, hL3⟩ : ∃ X, X = P ++ (s, x + mr) :: R := ⟨_, rfl⟩
                    rw [← hL3] at hst3 hI3' hLs3 hm3
                    clear hL3
                    go_wp2_with fail
                    go_loopg [15] m2 (fun q v15 wx => ∃ j : Nat, q = m2 - j ∧ j ≤ m2 ∧ v15 = .int .i64 j ∧ Hid (MeSt w wx g L3 M' (.slice lo2 m2 lc2) (.slice (some ⟨gs, 0, none⟩) m2 sc2)))
                    case atStart => exact ⟨0, rfl, Nat.zero_le _, rfl, hst3⟩
                    case round =>
                      obtain ⟨j, hq, hj, rfl, hst4⟩ := hrel
                      replace hq := hq.symm
                      subst hq
                      by_cases hjm : j < m2
                      · have hjm' : (j : Int) < m2 := by omega
                        have f5 : Hid (m2 - (j + 1) < m2 - j) := Lib.hid (by omega)
                        have g7 : IntKind.i64.wrap ((j : Int) + 1) = (j : Int) + 1 := IntWalk.i64_in _ (by omega)
                        obtain ⟨⟨t, y⟩, hLj⟩ : ∃ q, L3[j]? = some q := ⟨_, List.getElem?_eq_getElem (by rw [hm3.out]; exact hjm)⟩
                        obtain ⟨gl, rfl, y1, _, _⟩ := own_at' hst4.out.ownl (namesC_at hLj)
                        obtain ⟨gs', hgs', y2, _, _⟩ := own_at' hst4.out.owns (sumsC_at hLj)
                        simp only [Option.some.injEq, Addr.mk.injEq, and_true] at hgs'
                        subst hgs'
                        have HRd := Lib.hid (fun (W : World) (hW : Below wr.heap.size wr W) => read_st (hst4.out.moved hW) hI3'.out (hLs3.out.2 _ (List.mem_of_getElem? hLj)) (List.mem_of_getElem? hLj))
                        clear hLj
                        go_wp2_with fail
                        go_quiet ((go_at_call 17; exact Calls.quiet_of_same (HRd.out _ (draws_below' wr _))))
                        have hst5 := Lib.hid (hst4.out.moved (draws_below' wr nq))
                        go_wp2_with fail
                        go_roundg (m2 - (j + 1))
                        case measure => exact f5.out
                        case rel => exact ⟨j + 1, rfl, by omega, rfl, hst5⟩
                      · obtain rfl : j = m2 := by omega
                        have hjm' : ¬ (j : Int) < (j : Int) := by omega
                        go_wp2_with fail
                        go_roundg (m0 - (i + 1))
                        case measure => exact f6.out
                        case rel => exact ⟨i + 1, L3, M', rfl, by omega, rfl, hst4, hI3', hLs3⟩
      · obtain rfl : i = m0 := by omega
        have him' : ¬ (i : Int) < (i : Int) := by omega
        have HAw := Lib.hid (awake_any wr)
        go_wp2_with fail
        refine HAw.out.mono ?_
        rintro e w' ⟨rfl, hb⟩
        replace hb := Lib.hid hb
        go_wp2
        go_ret
        exact ⟨rfl, hst.out.below.trans (hb.out.mono hst.out.below.size)⟩
end Go.Proofs.Ytcfadekcdcphnaa
