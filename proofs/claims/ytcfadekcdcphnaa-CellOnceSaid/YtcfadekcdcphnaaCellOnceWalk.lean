/- CellOnce: the walk. -/
import Derived.Test.YtcfadekcdcphnaaCo3
import Derived.Test.YtcfadekcdcphnaaCe12
import Derived.Deep.CutRange
import Derived.Deep.Cut
import Derived.Deep.RegionHeld3
namespace Go.Proofs.Ytcfadekcdcphnaa
open Go.RowKit
set_option linter.unusedVariables false

theorem E27 : EI Try.prog 26 27 (.pointer none) 1 8 := ⟨Try.underlying26, by kernel_rfl, rfl, by decide⟩
theorem intRow_cell {w : World} {b o k : Nat} {A : List Int} {s : Int} (h : RowAt w 1 b o (A.map fun p => [.int .i64 p])) (hk : A[k]? = some s) : w.cell? ⟨b, o + k, none⟩ = some (.int .i64 s) := by
  have h1 : (A.map fun p => [Value.int .i64 p])[k]? = some [.int .i64 s] := by rw [List.getElem?_map, hk]; rfl
  have := h.cell h1 (j := 0) (u := .int .i64 s) rfl
  simpa using this

theorem told_bne (b : Bool) : ((if b = true then 1 else 0 : Int) != 0) = b := by cases b <;> rfl

theorem infoIntO : (Try.prog.info? 3).map (fun i => (i.zero, i.size, i.bytes)) = some (some (.int .i64 0), 1, 8) := by kernel_rfl
theorem infoBoolO : (Try.prog.info? 4).map (fun i => (i.zero, i.size, i.bytes)) = some (some (.bool false), 1, 1) := by kernel_rfl

set_option maxRecDepth 100000 in
set_option maxHeartbeats 2000000 in
theorem cellOnce_walk (A : List ByteArray) (hA : ∀ s ∈ A, s.size ≤ maxLen) (ao : Option Addr) (tc : Nat) (hc : A.length ≤ tc) (zs : List Int) (bo : Option Addr) (zc : Nat) (hzc : zs.length ≤ zc) (hzs : ∀ z ∈ zs, -9223372036854775808 ≤ z ∧ z ≤ 9223372036854775807) (w : World)
    (hrow : Row w 1 ao (A.map fun p => [.string p])) (hrz : Row w 1 bo (zs.map fun z => [.int .i64 z])) :
    Calls Try.prog 3 #[.slice ao A.length tc, .slice bo zs.length zc] w fun e w' => e = .returned (.bool true) ∧ Below w.heap.size w w' := by
  obtain ⟨n, hn⟩ : ∃ n, n = A.length := ⟨_, rfl⟩
  have HN : Hid (A.length = n) := Lib.hid hn.symm
  obtain ⟨nz, hnz⟩ : ∃ n, n = zs.length := ⟨_, rfl⟩
  have HZ : Hid (zs.length = nz) := Lib.hid hnz.symm
  rw [← hn] at hc ⊢
  rw [← hnz] at hzc ⊢
  have hrw := Lib.hid hrow
  have hrzw := Lib.hid hrz
  clear hnz hn hrow hrz
  replace hA := Lib.hid hA
  have HAw0 := Lib.hid (awake_any (w.alloc (.cells #[.slice ao n tc] 22)))
  have hBx : Below w.heap.size w (w.alloc (.cells #[.slice ao n tc] 22)) := (Below.refl _ w).alloc (Nat.le_refl _) _
  replace hBx := Lib.hid hBx
  by_cases h20 : (20 : Int) < n
  · go_enter Try.func3, Try.ntmps3
    go_wp2_with fail
    refine HAw0.out.mono ?_
    rintro e w' ⟨rfl, hb⟩
    replace hb := Lib.hid hb
    go_wp2
    go_ret
    exact ⟨rfl, hBx.out.trans (hb.out.mono hBx.out.size)⟩
  by_cases h100 : (100 : Int) < nz
  · go_enter Try.func3, Try.ntmps3
    go_wp2_with fail
    refine HAw0.out.mono ?_
    rintro e w' ⟨rfl, hb⟩
    replace hb := Lib.hid hb
    go_wp2
    go_ret
    exact ⟨rfl, hBx.out.trans (hb.out.mono hBx.out.size)⟩
  have HS : Hid (∀ W, Below w.heap.size w W → Calls Try.prog 6 #[.slice ao n tc, .int .i64 1000] W fun e w' => e = .returned (.bool (shortL A 1000)) ∧ w' = W) := Lib.hid fun W hb => by
    have h := short_any A ao tc 1000 (by omega) (by rw [HN.out]; exact hc) (by rw [HN.out]; unfold maxLen; omega) W (hrw.out.below hb)
    rw [HN.out] at h
    exact h
  have HS1 := Lib.hid (HS.out _ hBx.out)
  clear HS
  cases hsh : shortL A 1000 with
  | false =>
    rw [hsh] at HS1
    go_enter Try.func3, Try.ntmps3
    go_wp2_with fail
    refine HS1.out.mono ?_
    rintro e w' ⟨rfl, hw'⟩
    subst hw'
    go_wp2_with fail
    refine HAw0.out.mono ?_
    rintro e w' ⟨rfl, hb⟩
    replace hb := Lib.hid hb
    go_wp2
    go_ret
    exact ⟨rfl, hBx.out.trans (hb.out.mono hBx.out.size)⟩
  | true =>
    rw [hsh] at HS1
    clear HAw0
    have hsz := Lib.hid (shortL_at hsh).2
    have mkI := run_make_row' (P := Try.prog) 23 3 (.int .i64 0) 8 Try.underlying23 infoIntO rfl .i64 .i64 n (by omega) (by omega)
    have mkB := run_make_row' (P := Try.prog) 31 4 (.bool false) 1 Try.underlying31 infoBoolO rfl .i64 .i64 n (by omega) (by omega)
    obtain ⟨CI, hCI⟩ : ∃ C, C = madeCells #[Value.int .i64 0] n := ⟨_, rfl⟩
    obtain ⟨CB, hCB⟩ : ∃ C, C = madeCells #[Value.bool false] n := ⟨_, rfl⟩
    rw [← hCI] at mkI
    rw [← hCB] at mkB
    replace hCI := Lib.hid hCI
    replace hCB := Lib.hid hCB
    go_enter Try.func3, Try.ntmps3
    go_wp2_with fail
    refine HS1.out.mono ?_
    rintro e w' ⟨rfl, hw'⟩
    subst hw'
    clear HS1 hBx
    go_wp2_with fail
    rw [show w.heap.size + 1 + 1 + 1 = w.heap.size + 3 from rfl, show w.heap.size + 1 + 1 = w.heap.size + 2 from rfl]
    obtain ⟨wL, hwL⟩ : ∃ W, W = (((w.alloc (.cells #[.slice ao n tc] 22)).alloc (.cells CI 3)).alloc (.cells #[.slice (some ⟨w.heap.size + 1, 0, none⟩) n n] 23)).alloc (.cells #[.int .i64 0] 3) := ⟨_, rfl⟩
    rw [← hwL]
    have L0 := Lib.hid (loopO_start (A := A) (W := wL) (tc := tc) (CI := CI) (by rw [HN.out]; exact hCI.out) hrw.out (by rw [HN.out, hwL]))
    replace hwL := Lib.hid hwL
    obtain ⟨N, hN⟩ : ∃ N, N = w.heap.size := ⟨_, rfl⟩
    rw [← hN] at L0 ⊢
    replace hN := Lib.hid hN
    replace hzs := Lib.hid hzs
    go_loopg [5, 7] n (fun q v5 v7 w9 => ∃ (i vb : Nat) (gs vs : List Nat), q = n - i ∧ i ≤ n ∧ v7 = .pointer (some ⟨vb, 0, none⟩) ∧ Hid (LoopO w w9 N ao tc A i vb v5 gs vs))
    case atStart => exact ⟨0, N + 3, [], [], rfl, Nat.zero_le _, rfl, L0⟩
    case round =>
      obtain ⟨i, vb, gs, vs, hq, hi, rfl, hk⟩ := hrel
      replace hq := hq.symm
      subst hq
      have c0 : wr.cell? ⟨vb, 0, none⟩ = some (.int .i64 i) := Lib.cell_of_heap hk.out.var 0
      have c1 : wr.cell? ⟨N, 0, none⟩ = some (.slice ao n tc) := by rw [← HN.out]; exact Lib.cell_of_heap hk.out.at_.box 0
      by_cases hin : i < n
      · have hin' : (i : Int) < n := by omega
        have HNew : Hid (∀ W, Calls Try.prog 8 #[.func (.func 9) #[] #[.pointer (some ⟨N + 2, 0, none⟩), .pointer (some ⟨vb, 0, none⟩), .pointer (some ⟨N, 0, none⟩)]] W fun e w' => e = .returned (.pointer (some ⟨W.heap.size, 0, none⟩)) ∧ w' = W.alloc (.cells (cellC 0 0 (.func (.func 9) #[] #[.pointer (some ⟨N + 2, 0, none⟩), .pointer (some ⟨vb, 0, none⟩), .pointer (some ⟨N, 0, none⟩)]) 0 ByteArray.empty) 55)) := Lib.hid fun W => new_any _ _ W
        obtain ⟨O, hO⟩ : ∃ O, O = Obj.cells (cellC 0 0 (.func (.func 9) #[] #[.pointer (some ⟨N + 2, 0, none⟩), .pointer (some ⟨vb, 0, none⟩), .pointer (some ⟨N, 0, none⟩)]) 0 ByteArray.empty) 55 := ⟨_, rfl⟩
        rw [← hO] at HNew
        replace hO := Lib.hid hO
        have hOwn : Own (wr.alloc O) N 27 1 u5 (ptrsL gs) := hk.out.own.alloc O
        have hlenG : Hid ((ptrsL gs).length + 1 ≤ 1000000000) := Lib.hid (by have := hk.out.len; simp [ptrsL]; omega)
        have hsN : Hid (N ≤ (wr.alloc O).heap.size) := Lib.hid (by have := hk.out.lowv; have := lt_of_block hk.out.var; simp; omega)
        replace hOwn := Lib.hid hOwn
        go_wp2_with fail
        refine (HNew.out _).mono ?_
        rintro e w' ⟨rfl, hw'⟩
        subst hw'
        have hvar := Lib.hid (((Below.refl _ wr).alloc (Nat.le_refl _) O).block vb (lt_of_block hk.out.var) |>.trans hk.out.var)
        have g1 : IntKind.i64.wrap ((i : Int) + 1) = (i : Int) + 1 := IntWalk.i64_in _ (by omega)
        have f4 : Hid (n - (i + 1) < n - i) := Lib.hid (by omega)
        go_wp2_with (at_builtin; go_must (refine wpList_append1 E27 rfl rfl hOwn.out rfl rfl (news := [.pointer (some ⟨wr.heap.size, 0, none⟩)]) (by simp) rfl (by simp [Value.oneCell']) hlenG.out (by decide) hsN.out ?_); intro v9 w9 hown9 hg9; have hk9 := Lib.hid (others_app hOwn.out hg9); have hb9 := Lib.hid (bapp (Below.refl N _) hOwn.out hg9 hsN.out); replace hown9 := Lib.hid hown9; clear hg9; have c9 : w9.cell? ⟨vb, 0, none⟩ = some (.int .i64 i) := Lib.cell_of_heap (hk9.out vb _ hvar.out (by simp) (by intro c' fz' h'; simp only [Obj.cells.injEq] at h'; exact absurd h'.2.1 (by decide))) 0)
        go_roundg (n - (i + 1))
        case measure => exact f4.out
        case rel => exact ⟨i + 1, _, _, _, rfl, by omega, rfl, Lib.hid (loopO_next hk.out (by rw [HN.out]; exact hin) (hO.out.trans rfl) hown9.out hk9.out hb9.out rfl)⟩
      · obtain rfl : i = n := by omega
        have hin' : ¬ (i : Int) < (i : Int) := by omega
        obtain ⟨ar, ac, rfl, hac1, hac2, _, _⟩ := hk.out.own.rown (n := i) (by simp [ptrsL, hk.out.len])
        obtain ⟨wS, hwS⟩ : ∃ W, W = wr.alloc (.cells CB 4) := ⟨_, rfl⟩
        have S0 := Lib.hid (loopS_start (wd := wS) (CB := CB) hk.out (by rw [HN.out]) (by rw [HN.out]; exact hCB.out) hwS)
        replace hwS := Lib.hid hwS
        clear mkI hCI
        go_wp2_with fail
        rw [← hwS.out]
        obtain ⟨K, hK⟩ : ∃ K, K = wr.heap.size := ⟨_, rfl⟩
        rw [← hK] at S0 ⊢
        replace hK := Lib.hid hK
        clear c0 c1 hk mkB hCB hwS
        go_loopg [9, 10] nz (fun q v9 v10 w9 => ∃ (j : Nat) (m : Nat → Bool), q = nz - j ∧ j ≤ nz ∧ v9 = .int .i64 j ∧ Hid (LoopS w w9 N ao tc A gs vs ar K m))
        case atStart => exact ⟨0, _, rfl, Nat.zero_le _, rfl, S0⟩
        case round =>
          obtain ⟨j, m, hq, hj, rfl, hk⟩ := hrel
          replace hq := hq.symm
          subst hq
          have y9 : wr.cell? ⟨N, 0, none⟩ = some (.slice ao i tc) := by rw [← HN.out]; exact Lib.cell_of_heap hk.out.at_.box 0
          by_cases hgo : j < nz ∧ 0 < i
          · obtain ⟨hjn, hi0⟩ := hgo
            have hjn' : (j : Int) < nz := by omega
            have hi0' : (0 : Int) < i := by omega
            have f4 : Hid (nz - (j + 1) < nz - j) := Lib.hid (by omega)
            have g1 : IntKind.i64.wrap ((j : Int) + 1) = (j : Int) + 1 := IntWalk.i64_in _ (by omega)
            obtain ⟨z, hz⟩ : ∃ z, zs[j]? = some z := ⟨_, List.getElem?_eq_getElem (by rw [HZ.out]; exact hjn)⟩
            have hzr := hzs.out z (List.mem_of_getElem? hz)
            obtain ⟨zb, zo, rfl, hzat⟩ := hrzw.out (by intro e; simp at e; subst e; simp at hz)
            have cz0 := intRow_cell hzat hz
            have cz : wr.cell? ⟨zb, zo + j, none⟩ = some (.int .i64 z) := (below_cell_lt hk.out.below (by rw [hN.out]; exact cell_lt cz0)).trans cz0
            clear cz0 hzat hz
            have hrx := rndX_range z i (by omega)
            obtain ⟨k, hkx⟩ : ∃ k : Nat, (k : Int) = rndX z i := ⟨(rndX z i).toNat, by omega⟩
            have HR : Hid (∀ W, Calls Try.prog 10 #[.int .i64 z, .int .i64 i] W fun e w' => e = .returned (.int .i64 k) ∧ w' = W) := Lib.hid fun W => by rw [hkx]; exact roundX_any z i (by omega) (by omega) hzr W
            rw [← hkx] at hrx
            have hki : k < i := by omega
            have hki' : (k : Int) < i := by omega
            clear hkx hrx hzr
            obtain ⟨s, hs⟩ : ∃ s, A[k]? = some s := ⟨_, List.getElem?_eq_getElem (by rw [HN.out]; exact hki)⟩
            have hsl := hsz.out s (List.mem_of_getElem? hs)
            have hcat2 : s.size + 1 ≤ 9223372036854775807 := by omega
            have hcat3 : ¬ 9223372036854775807 < s.size + 1 := by omega
            have hcat : s.size + (⟨#[49]⟩ : ByteArray).size ≤ 9223372036854775807 := by show s.size + 1 ≤ _; omega
            go_wp2_with fail
            go_quiet ((go_at_call 10; exact Calls.quiet_of_same (HR.out _)))
            have hkq := hk.out.moved (draws_below wr nq)
            clear HR y9 cz hk
            generalize wr.drewN nq = wq at hkq ⊢
            replace hkq := Lib.hid hkq
            obtain ⟨g, v, ab, aoff, tb, tf, hg, hv, rfl, rfl, x1, x2, x3, x4, _, _, _, x5⟩ := loopS_reads hkq.out hs
            have HM : Hid (∀ W, W.cell? ⟨g, 4, none⟩ = some (.int .u32 (if m k then 1 else 0)) → Calls Try.prog 11 #[.pointer (some ⟨g, 0, none⟩)] W fun e w' => e = .returned (.bool (m k)) ∧ w' = W) := Lib.hid fun W hW => by
              have := made_any W hW
              rw [told_bne] at this
              exact this
            have HG := Lib.hid (fun (W : World) (hW : OnceAt W N (some ⟨tb, tf, none⟩) tc A gs vs m) => get_once hW (by rw [HN.out]; omega) hg hv hs hsl)
            have q1 : OnceAt wq.drew N (some ⟨tb, tf, none⟩) tc A gs vs m := hkq.out.at_.below (Below.refl _ wq).drew
            have HG1 := Lib.hid (HG.out _ q1)
            have HM1 := Lib.hid (HM.out wq.drew x5)
            have x9 : wq.cell? ⟨N, 0, none⟩ = some (.slice (some ⟨tb, tf, none⟩) i tc) := by rw [← HN.out]; exact Lib.cell_of_heap hkq.out.at_.box 0
            have y0 : wq.cell? ⟨ab, aoff + k, none⟩ = some (.pointer (some ⟨g, 0, none⟩)) ∧ wq.cell? ⟨tb, tf + k, none⟩ = some (.string s) ∧ wq.cell? ⟨K, k, none⟩ = some (.bool (m k)) ∧ wq.cell? ⟨N, 0, none⟩ = some (.slice (some ⟨tb, tf, none⟩) i tc) := ⟨x1, x2, x3, x9⟩
            have y1 : wq.drew.cell? ⟨ab, aoff + k, none⟩ = some (.pointer (some ⟨g, 0, none⟩)) ∧ wq.drew.cell? ⟨tb, tf + k, none⟩ = some (.string s) ∧ wq.drew.cell? ⟨K, k, none⟩ = some (.bool (m k)) ∧ wq.drew.cell? ⟨N, 0, none⟩ = some (.slice (some ⟨tb, tf, none⟩) i tc) := y0
            have hkA : k < A.length := by rw [HN.out]; exact hki
            have hkd := Lib.hid (hkq.out.moved (Below.refl _ wq).drew)
            have HY : Hid (∀ W, OnceAt W N (some ⟨tb, tf, none⟩) tc A gs vs (fun t => t == k || m t) → OnceFr N g wq.drew W → W.cell? ⟨ab, aoff + k, none⟩ = some (.pointer (some ⟨g, 0, none⟩)) ∧ W.cell? ⟨tb, tf + k, none⟩ = some (.string s) ∧ W.cell? ⟨K, k, none⟩ = some (.bool (m k)) ∧ W.cell? ⟨N, 0, none⟩ = some (.slice (some ⟨tb, tf, none⟩) i tc)) := Lib.hid (by
              intro W h' hf
              obtain ⟨hr, bs, b1, b2, b3⟩ := loopS_asked hkd.out hg hkA h' hf
              have hpk : (ptrsL gs)[k]? = some [.pointer (some ⟨g, 0, none⟩)] := by unfold ptrsL; rw [List.getElem?_map, hg]; rfl
              obtain ⟨ab', aoff', e1, hat⟩ := hr (by intro e; rw [e] at hpk; simp at hpk)
              simp only [Option.some.injEq, Addr.mk.injEq, and_true] at e1
              obtain ⟨rfl, rfl⟩ := e1
              obtain ⟨tb', tf', e1, _, e3⟩ := h'.txt k s hs
              simp only [Option.some.injEq, Addr.mk.injEq, and_true] at e1
              obtain ⟨rfl, rfl⟩ := e1
              refine ⟨?_, e3, (Lib.cell_of_heap b1 k).trans (b3 k hkA), by rw [← HN.out]; exact Lib.cell_of_heap h'.box 0⟩
              have := hat.cell hpk (j := 0) rfl
              simpa using this)
            have HF : Hid (∀ W, OnceAt W N (some ⟨tb, tf, none⟩) tc A gs vs (fun t => t == k || m t) → OnceFr N g wq.drew W → W.frozen? ⟨K, k, none⟩ = false) := Lib.hid (by
              intro W h' hf
              obtain ⟨hr, bs, b1, b2, b3⟩ := loopS_asked hkd.out hg hkA h' hf
              exact Lib.frozen_of_heap b1 k)
            generalize hbk : m k = bk at x3 HM1 y0 y1 HY
            replace hbk := Lib.hid hbk
            cases bk with
            | false =>
              go_wp2_with fail
              go_region_held3 (fun x : World => x.cell? ⟨ab, aoff + k, none⟩ = some (.pointer (some ⟨g, 0, none⟩)) ∧ x.cell? ⟨tb, tf + k, none⟩ = some (.string s) ∧ x.cell? ⟨K, k, none⟩ = some (.bool false) ∧ x.cell? ⟨N, 0, none⟩ = some (.slice (some ⟨tb, tf, none⟩) i tc)) (first | with_reducible exact y0 | with_reducible exact y1 | with_reducible exact y2 | with_reducible exact y3) (first
                | (go_at_call 11; (with_reducible refine HM1.out.mono ?_); rintro e w' ⟨rfl, hw'⟩; replace hw' := hw'.symm; subst hw')
                | (go_at_call 12; (with_reducible refine HG1.out.mono ?_); rintro e w1 ⟨rfl, q2, k1⟩; have y2 := HY.out w1 q2 k1))
              all_goals
                obtain ⟨y3, y4, y5, y6⟩ := y2
                have z5 := HF.out w1 q2 k1
                replace q2 := Lib.hid q2
                replace k1 := Lib.hid k1
                clear HM HG HG1 HM1 HY HF hkq
                go_wp2_with fail
                go_roundg (nz - (j + 1))
                case measure => exact f4.out
                case rel => exact ⟨j + 1, _, rfl, by omega, rfl, Lib.hid (loopS_next hkd.out hg hkA q2.out k1.out rfl)⟩
            | true =>
              go_wp2_with fail
              go_region_held3 (fun x : World => x.cell? ⟨ab, aoff + k, none⟩ = some (.pointer (some ⟨g, 0, none⟩)) ∧ x.cell? ⟨tb, tf + k, none⟩ = some (.string s) ∧ x.cell? ⟨K, k, none⟩ = some (.bool true) ∧ x.cell? ⟨N, 0, none⟩ = some (.slice (some ⟨tb, tf, none⟩) i tc)) (first | with_reducible exact y0 | with_reducible exact y1 | with_reducible exact y2 | with_reducible exact y3) (first
                | (go_at_call 11; (with_reducible refine HM1.out.mono ?_); rintro e w' ⟨rfl, hw'⟩; replace hw' := hw'.symm; subst hw')
                | (go_at_call 12; (with_reducible refine HG1.out.mono ?_); rintro e w1 ⟨rfl, q2, k1⟩; have y2 := HY.out w1 q2 k1))
              all_goals
                obtain ⟨y3, y4, y5, y6⟩ := y2
                have z5 := HF.out w1 q2 k1
                replace q2 := Lib.hid q2
                replace k1 := Lib.hid k1
                clear HM HG HG1 HM1 HY HF hkq
                go_wp2_with fail
                go_roundg (nz - (j + 1))
                case measure => exact f4.out
                case rel => exact ⟨j + 1, _, rfl, by omega, rfl, Lib.hid (loopS_next hkd.out hg hkA q2.out k1.out rfl)⟩
          · rename World => we
            have HAw := Lib.hid (fun (W : World) (hW : Below we.heap.size we W) => awake_any W)
            have hex : (¬ (j : Int) < (nz : Int)) ∨ ((j : Int) < (nz : Int) ∧ ¬ (0 : Int) < (i : Int)) := by omega
            have hrd := Lib.hid (fun (t : Nat) (s : ByteArray) (hs : A[t]? = some s) => loopS_reads hk.out hs)
            have hbl := Lib.hid hk.out.below
            have hNw := Lib.hid (lt_of_block hk.out.at_.box)
            clear hgo hk
            rcases hex with hx | ⟨hx, hx2⟩
            all_goals
              go_wp2_with fail
              go_loopg [11, 12] i (fun q v11 v12 w9 => ∃ t : Nat, q = i - t ∧ t ≤ i ∧ v11 = .int .i64 t ∧ Hid (Below we.heap.size we w9))
              case atStart => exact ⟨0, rfl, Nat.zero_le _, rfl, Lib.hid (Below.refl _ _)⟩
              case round =>
                obtain ⟨t, hq, ht, rfl, hkw⟩ := hrel
                replace hq := hq.symm
                subst hq
                have y8 := kept_cell hkw.out y9
                by_cases hti : t < i
                · have hti' : (t : Int) < i := by omega
                  have f4 : Hid (i - (t + 1) < i - t) := Lib.hid (by omega)
                  have g1 : IntKind.i64.wrap ((t : Int) + 1) = (t : Int) + 1 := IntWalk.i64_in _ (by omega)
                  obtain ⟨s, hs⟩ : ∃ s, A[t]? = some s := ⟨_, List.getElem?_eq_getElem (by rw [HN.out]; exact hti)⟩
                  obtain ⟨g, v, ab, aoff, tb, tf, hg, hv, rfl, rfl, x1, x2, x3, x4, x5, x6, x7, x8⟩ := hrd.out t s hs
                  rw [HN.out] at x6
                  have HM : Hid (∀ W, Below we.heap.size we W → Calls Try.prog 11 #[.pointer (some ⟨g, 0, none⟩)] W fun e w' => e = .returned (.bool (m t)) ∧ w' = W) := Lib.hid fun W hW => by
                    have := made_any W (kept_cell hW x8)
                    rw [told_bne] at this
                    exact this
                  clear x8 x2 x4 hs x5 y9
                  replace x1 := kept_cell hkw.out x1
                  replace x3 := kept_cell hkw.out x3
                  replace x6 := kept_cell hkw.out x6
                  replace x7 := kept_cell hkw.out x7
                  cases hmt : m t with
                  | false =>
                    rw [hmt] at x3 x7 HM
                    go_wp2_with fail
                    go_quiet ((go_at_call 11; exact Calls.quiet_of_same (HM.out _ (hkw.out.trans ((draws_below wr _).mono hkw.out.size)))))
                    have hkq := Lib.hid (hkw.out.trans ((draws_below wr nq).mono hkw.out.size))
                    go_wp2_with fail
                    go_roundg (i - (t + 1))
                    case measure => exact f4.out
                    case rel => exact ⟨t + 1, rfl, by omega, rfl, hkq⟩
                  | true =>
                    rw [hmt] at x3 x7 HM
                    go_wp2_with fail
                    go_quiet ((go_at_call 11; exact Calls.quiet_of_same (HM.out _ (hkw.out.trans ((draws_below wr _).mono hkw.out.size)))))
                    have hkq := Lib.hid (hkw.out.trans ((draws_below wr nq).mono hkw.out.size))
                    go_wp2_with fail
                    go_roundg (i - (t + 1))
                    case measure => exact f4.out
                    case rel => exact ⟨t + 1, rfl, by omega, rfl, hkq⟩
                · obtain rfl : t = i := by omega
                  have hti' : ¬ (t : Int) < (t : Int) := by omega
                  have HA1 := Lib.hid (HAw.out wr hkw.out)
                  go_wp2_with fail
                  refine HA1.out.mono ?_
                  rintro e w' ⟨rfl, hb⟩
                  replace hb := Lib.hid hb
                  go_wp2
                  go_ret
                  have hN' := hN.out
                  have h1 : Below w.heap.size we wr := hkw.out.mono (by rw [← hN']; exact Nat.le_of_lt hNw.out)
                  have h2 : Below w.heap.size w we := by rw [← hN']; exact hbl.out
                  exact ⟨rfl, (h2.trans h1).trans (hb.out.mono ((h2.trans h1).size))⟩
end Go.Proofs.Ytcfadekcdcphnaa
