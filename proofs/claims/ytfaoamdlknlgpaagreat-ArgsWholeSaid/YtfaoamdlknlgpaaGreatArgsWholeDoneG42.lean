/- Texts of this seat's proofs, laid into one file. -/
import Derived.Test.YtfaoamdlknlgpaaGreatArgsWholeDoneG29
import Derived.Test.YtfaoamdlknlgpaaGreatArgsWholeDoneG41
import Derived.Deep.RegionHeld3
/- ArgsWhole: the walk. -/
namespace Go.Proofs.YtfaoamdlknlgpaaGreat
open Go.RowKit
set_option linter.unusedVariables false

theorem Es9 : EI Tryz.prog 45 9 (.string ⟨#[]⟩) 1 16 := ⟨Tryz.underlying45, by kernel_rfl, rfl, by decide⟩

/-- the macro that is made, so many names in it -/
structure MpAt (w3 : World) (g i : Nat) (wx : World) : Prop where
  mac : ∃ pa pc, wx.heap[g]? = some (.cells #[.string .empty, .bool true, .bool true, .slice pa i pc, .slice none 0 0, .string .empty, .int .i64 0, .int .i64 0] 53 (0, 0)) ∧ ∃ names, Own wx w3.heap.size 9 1 (.slice pa i pc) names ∧ names.length = i
  below : Below w3.heap.size w3 wx

set_option maxHeartbeats 4000000 in
set_option maxRecDepth 100000 in
theorem argsWhole_walk (T : List (Tm × Value)) (ao : Option Addr) (cap : Nat) (hcap : T.length ≤ cap) (a1 : Int) (hw1 : (Lit.int .i64 a1).wf = true) (w : World) (hrow : Row w 8 ao (T.map tvC)) (hs : ∀ p ∈ T, SiteRd w p.2) :
    Calls Tryz.prog 7 #[.slice ao T.length cap, .int .i64 a1] w fun e w' => e = .returned (.bool true) ∧ Below w.heap.size w w' := by
  have HF := mFew_any T ao cap 60 (by decide) hcap w hrow hs
  have HX : (T.length ≤ 60 ∧ ∀ p ∈ T, siteLen p.2 ≤ 20 ∧ p.1.text.size ≤ 300) → ∃ X : List Tf, X.length = T.length ∧ (∀ (i : Nat) p x, T[i]? = some p → X[i]? = some x → p.1 = x.1 ∧ SiteIn w p.2 x.2 ∧ SiteTy x.2) := fun h => sites_of T hs (fun p hp => (h.2 p hp).1)
  obtain ⟨n, hn⟩ : ∃ n, n = T.length := ⟨_, rfl⟩
  have HN : Hid (T.length = n) := Lib.hid hn.symm
  rw [← hn] at hcap HF ⊢
  clear hn hs
  replace hrow := Lib.hid hrow
  replace HX := Lib.hid HX
  replace HF := Lib.hid HF
  have HA := Lib.hid (fun W => awake10_any W)
  go_enter Tryz.func7, Tryz.ntmps7
  go_wp2_with fail
  refine HF.out.mono ?_
  rintro e w1 ⟨b, rfl, hw, hfew⟩
  replace hw := hw.symm
  subst hw
  have hgo : b = true → 0 ≤ a1 → a1 ≤ 20 → ∃ (X : List Tf) (N : Nat), a1 = (N : Int) ∧ N ≤ 20 ∧ n ≤ 60 ∧ X.length = T.length ∧ (∀ (i : Nat) p x, T[i]? = some p → X[i]? = some x → p.1 = x.1 ∧ SiteIn w p.2 x.2 ∧ SiteTy x.2) := by
    intro h1 h2 h3
    obtain ⟨X, h4, h5⟩ := HX.out (hfew h1)
    refine ⟨X, a1.toNat, by omega, by omega, ?_, h4, h5⟩
    have := (hfew h1).1
    rw [HN.out] at this
    exact this
  replace hgo := Lib.hid hgo
  clear hfew HX
  by_cases hall : b = true ∧ 0 ≤ a1 ∧ a1 ≤ 20
  · obtain ⟨hb1, h1, h2⟩ := hall
    obtain ⟨X, N, rfl, hN, hn60, hXl, hs⟩ := hgo.out hb1 h1 h2
    subst hb1
    have hN0 : ¬ (N : Int) < 0 := by omega
    have hN20 : ¬ (20 : Int) < (N : Int) := by omega
    clear hgo h1 h2
    have hcollect := collect_any X T ao cap (by rw [HN.out]; omega) (by rw [HN.out]; exact hcap) w hrow.out hXl.symm (fun i p x hp hx => ⟨(hs i p x hp hx).1, (hs i p x hp hx).2.1⟩)
    rw [HN.out] at hcollect
    have hXt : T.map (·.1) = X.map (·.1) := by
      apply List.ext_getElem?
      intro i
      rw [List.getElem?_map, List.getElem?_map]
      cases hi : T[i]? with
      | none =>
        rw [List.getElem?_eq_none_iff, ← hXl, ← List.getElem?_eq_none_iff] at hi
        rw [hi]; rfl
      | some p =>
        obtain ⟨x, hx⟩ : ∃ x, X[i]? = some x := ⟨_, List.getElem?_eq_getElem (by rw [hXl]; exact (List.getElem?_eq_some_iff.1 hi).1)⟩
        rw [hx]
        simp [(hs i p x hi hx).1]
    have hok : ∀ x ∈ X, SitesOk x.2 := by
      intro x hx
      obtain ⟨i, hi⟩ := List.getElem?_of_mem hx
      obtain ⟨p, hp⟩ : ∃ p, T[i]? = some p := ⟨_, List.getElem?_eq_getElem (by rw [← hXl]; exact (List.getElem?_eq_some_iff.1 hi).1)⟩
      exact (hs i p x hp hi).2.1.ok
    replace hcollect := Lib.hid hcollect
    replace hs := Lib.hid hs
    replace hok := Lib.hid hok
    replace hXl := Lib.hid (hXl.trans HN.out)
    clear hXt
    go_wp2_with fail
    refine hcollect.out.mono ?_
    rintro e w2 ⟨hp2, hb2⟩
    cases hr : partsL (X.map (·.1)) with
    | none =>
      have hcn : colP X = ([], [], 0) := col_none hr
      rw [hcn] at hp2
      obtain ⟨v2, v3, rfl, ho2, ho3⟩ := hp2
      obtain ⟨la, lc, rfl⟩ := ho2.slice (n := 0) rfl
      obtain ⟨ca, cc, rfl⟩ := ho3.slice (n := 0) rfl
      clear ho2 ho3 hcn hr hcollect
      go_wp2_with fail
      refine (HA.out w2).mono ?_
      rintro e w3 ⟨rfl, hb3⟩
      have hB3 := hb2.trans (hb3.mono hb2.size)
      go_wp2
      go_ret
      exact ⟨by simp, hB3⟩
    | some r =>
      obtain ⟨ps, u⟩ := r
      have hnum := col_nums hr
      have hpo := partsL_ok hr
      have hch := partsL_chain hr
      rw [List.length_map] at hpo
      simp only at hnum hpo hch
      obtain ⟨hq1, hne, hu2, hun⟩ := hpo
      have hcol : colP X = (argsOf X ps, commasOf X ps, u) := by unfold colP colL; rw [hr]; rfl
      rw [hcol] at hp2 hnum
      simp only at hnum
      obtain ⟨hw_, hcl, _, _⟩ := hnum
      obtain ⟨v2, v3, rfl, ho2, ho3⟩ := hp2
      simp only at ho2 ho3
      obtain ⟨m, hm⟩ : ∃ m, m = ps.length := ⟨_, rfl⟩
      have HM : Hid (ps.length = m) := Lib.hid hm.symm
      have hm0 : 0 < m := by rw [hm]; exact List.length_pos_iff.2 hne
      have hal : (argsOf X ps).length = m := by unfold argsOf; rw [List.length_map, hm]
      rw [← hm] at hcl
      obtain ⟨la0, lc, rfl⟩ := ho2.slice hal
      obtain ⟨ca, cc, rfl⟩ := ho3.slice hcl
      obtain ⟨lb, lo, hla⟩ : ∃ b o, la0 = some ⟨b, o, none⟩ := by
        obtain ⟨Y, hY⟩ : ∃ Y, (argsOf X ps)[0]? = some Y := ⟨_, List.getElem?_eq_getElem (by rw [hal]; exact hm0)⟩
        obtain ⟨b, o, _, _, h, _⟩ := ho2.cell hY
        exact ⟨b, o, h⟩
      subst hla
      have hXn : X.length = n := hXl.out
      obtain ⟨tb, tq, rfl, hat⟩ := hrow.out (by intro h; have h2 := HN.out; simp at h; rw [h] at h2; simp at h2; omega)
      obtain ⟨st0, stn⟩ := chain_start ps 1 u hch
      have HC := Lib.hid (fun (i f t : Nat) (hp : ps[i]? = some (f, t)) => whole_cell (X := X) (T := T) (w := w) (w2 := w2) hat (by rw [hXn, HN.out]) hs.out hb2 ho2 hp (hq1.all _ (List.mem_of_getElem? hp)).2.1 (Nat.le_of_lt (hq1.all _ (List.mem_of_getElem? hp)).2.2))
      have hstm : stA ps u m = u := by
        unfold stA
        rw [List.getElem?_eq_none (by omega)]
        rfl
      have hps : ∀ (i f t : Nat), ps[i]? = some (f, t) → 1 ≤ f ∧ f ≤ t ∧ t < n := fun i f t hp => by
        have := hq1.all _ (List.mem_of_getElem? hp)
        rw [hXn] at this
        exact this
      have hmn : m ≤ n := by
        have := partsL_cnt hr
        rw [List.length_map, hXn] at this
        rw [hm]
        exact this
      have hun' : u ≤ n := by rw [← hXn]; exact hun
      have g0 : IntKind.i64.wrap (((m - 1 : Nat) : Int) + 1) = (m : Int) := by rw [IntWalk.i64_in _ (by omega)]; omega
      have gu2 : ¬ (u : Int) < 2 := by omega
      have gun : ¬ (n : Int) < u := by omega
      have gu0 : (0 : Int) < u := by omega
      have gd0 : decide (0 < u) = true := decide_eq_true (by omega)
      replace st0 := Lib.hid st0
      replace stn := Lib.hid stn
      replace hstm := Lib.hid hstm
      replace hps := Lib.hid hps
      replace ho2 := Lib.hid ho2
      replace ho3 := Lib.hid ho3
      replace hcol := Lib.hid hcol
      replace hw_ := Lib.hid hw_
      replace hcl := Lib.hid hcl
      replace hal := Lib.hid hal
      replace hch := Lib.hid hch
      replace hb2 := Lib.hid hb2
      clear hr hq1 hne hu2 hun hm hXn hat hcollect
      rw [gd0]
      go_wp2_with fail
      go_loopg [9, 10, 11] m (fun q v9 v10 v11 wx => ∃ i : Nat, q = m - i ∧ i ≤ m ∧ v10 = .int .i64 i ∧ v9 = .int .i64 (stA ps u i) ∧ Hid (Below w2.heap.size w2 wx))
      case atStart => exact ⟨0, rfl, Nat.zero_le _, rfl, by rw [st0.out]; rfl, Lib.hid (Below.refl _ _)⟩
      case round =>
        obtain ⟨i, hq, hi, rfl, hv9, hb⟩ := hrel
        replace hq := hq.symm
        subst hq
        by_cases him : i < m
        · have him' : (i : Int) < m := by omega
          have f4 : Hid (m - (i + 1) < m - i) := Lib.hid (by omega)
          have g1 : IntKind.i64.wrap ((i : Int) + 1) = (i : Int) + 1 := IntWalk.i64_in _ (by omega)
          obtain ⟨⟨f, t⟩, hp⟩ : ∃ p, ps[i]? = some p := ⟨_, List.getElem?_eq_getElem (by rw [HM.out]; exact him)⟩
          obtain ⟨z1, z2, _⟩ := stn.out i _ hp
          simp only at z1 z2
          rw [z2] at hv9
          subst hv9
          obtain ⟨hf1, hft, htn⟩ := hps.out i f t hp
          obtain ⟨la, lcc, hcell, hdl, htok⟩ := HC.out i f t hp
          obtain ⟨d, hd⟩ : ∃ d, d = t - f := ⟨_, rfl⟩
          rw [← hd] at hcell hdl htok
          have hfd : f + d = t := by omega
          have z1' : Hid (stA ps u (i + 1) = f + d + 1) := Lib.hid (by rw [z1, hfd])
          replace hcell := Lib.hid hcell
          replace htok := Lib.hid htok
          have hfdn : f + d < n := by omega
          clear z1 z2 hp hd hfd hft htn
          go_wp2_with fail
          go_loopg [9, 11] d (fun q v9 v11 wx => ∃ k a : Nat, q = d - k ∧ k ≤ d ∧ v11 = .int .i64 k ∧ v9 = .int .i64 a ∧ Hid (f + k = a) ∧ Hid (Below w2.heap.size w2 wx))
          case atStart => exact ⟨0, f, rfl, Nat.zero_le _, rfl, rfl, Lib.hid rfl, hb⟩
          case round =>
            clear hb
            obtain ⟨k, a, hq2, hk, rfl, rfl, hfa, hb⟩ := hrel
            have hfa' := hfa.out
            have han : a < n := by omega
            replace hq2 := hq2.symm
            subst hq2
            have x0 := hcell.out wr hb.out
            by_cases hkd : k < d
            · have hkd' : (k : Int) < d := by omega
              have f5 : Hid (d - (k + 1) < d - k) := Lib.hid (by omega)
              have g2 : IntKind.i64.wrap ((k : Int) + 1) = (k : Int) + 1 := IntWalk.i64_in _ (by omega)
              have g3 : IntKind.i64.wrap ((a : Int) + 1) = ((a + 1 : Nat) : Int) := by rw [IntWalk.i64_in _ (by omega)]; omega
              obtain ⟨ab, aq, tm, sa1, sa2, sn, sc1, sc2, rfl, htk⟩ := htok.out k hkd
              have hfk : (a : Int) < n := by omega
              have hfk2 : ¬ (n : Int) ≤ (a : Int) := by omega
              have hfk3 : decide ((n : Int) ≤ (a : Int)) = false := decide_eq_false hfk2
              have hfk4 : decide (n ≤ a) = false := decide_eq_false (by omega)
              rw [hfa'] at htk
              clear hfa'
              replace htk := Lib.hid htk
              go_upto_region 15 with fail
              go_cut [103] from 85 to 103 (fun v wx => v = .bool false ∧ Hid (Below w2.heap.size w2 wx))
              case first =>
                have HFx : Hid (∀ x, Below w2.heap.size w2 x → x.cell? ⟨lb, lo + i, none⟩ = some (.slice (some ⟨ab, aq, none⟩) d lcc) ∧ x.cell? ⟨tb, tq + a * 8, none⟩ = some (.int .i64 tm.kind) ∧ x.cell? ⟨tb, tq + a * 8 + 1, none⟩ = some (.string tm.text) ∧ x.cell? ⟨tb, tq + a * 8 + 2, none⟩ = some (.bool tm.sp) ∧ x.cell? ⟨tb, tq + a * 8 + 3, none⟩ = some (.string tm.file) ∧ x.cell? ⟨tb, tq + a * 8 + 4, none⟩ = some (.int .i64 tm.f) ∧ x.cell? ⟨tb, tq + a * 8 + 5, none⟩ = some (.int .i64 tm.t) ∧ x.cell? ⟨tb, tq + a * 8 + 6, none⟩ = some (.bool tm.made) ∧ x.cell? ⟨tb, tq + a * 8 + 7, none⟩ = some (.slice sa1 sn sc1) ∧ x.cell? ⟨ab, aq + k * 8, none⟩ = some (.int .i64 tm.kind) ∧ x.cell? ⟨ab, aq + k * 8 + 1, none⟩ = some (.string tm.text) ∧ x.cell? ⟨ab, aq + k * 8 + 2, none⟩ = some (.bool tm.sp) ∧ x.cell? ⟨ab, aq + k * 8 + 3, none⟩ = some (.string tm.file) ∧ x.cell? ⟨ab, aq + k * 8 + 4, none⟩ = some (.int .i64 tm.f) ∧ x.cell? ⟨ab, aq + k * 8 + 5, none⟩ = some (.int .i64 tm.t) ∧ x.cell? ⟨ab, aq + k * 8 + 6, none⟩ = some (.bool tm.made) ∧ x.cell? ⟨ab, aq + k * 8 + 7, none⟩ = some (.slice sa2 sn sc2)) := Lib.hid fun x hx => by
                  obtain ⟨⟨h0, h1, h2, h3, h4, h5, h6, h7⟩, ⟨k0, k1, k2, k3, k4, k5, k6, k7⟩, _⟩ := htk.out x hx
                  exact ⟨hcell.out x hx, h0, h1, h2, h3, h4, h5, h6, h7, k0, k1, k2, k3, k4, k5, k6, k7⟩
                have HSm : Hid (∀ x, Below w2.heap.size w2 x → Calls Tryz.prog 31 #[.agg #[.int .i64 tm.kind, .string tm.text, .bool tm.sp, .string tm.file, .int .i64 tm.f, .int .i64 tm.t, .bool tm.made, .slice sa1 sn sc1], .agg #[.int .i64 tm.kind, .string tm.text, .bool tm.sp, .string tm.file, .int .i64 tm.f, .int .i64 tm.t, .bool tm.made, .slice sa2 sn sc2]] x fun e w' => e = .returned (.bool true) ∧ Below w2.heap.size w2 w') := Lib.hid fun x hx => ((htk.out x hx).2.2).mono fun e w' ⟨h1, h2⟩ => ⟨h1, hx.trans (h2.mono hx.size)⟩
                have hb0' := hb.out.drew
                obtain ⟨s0, s1, s2, s3, s4, s5, s6, s7, s8, s9, s10, s11, s12, s13, s14, s15, s16⟩ := HFx.out _ hb0'
                clear x0
                go_region_held3 (fun x : World => x.cell? ⟨lb, lo + i, none⟩ = some (.slice (some ⟨ab, aq, none⟩) d lcc) ∧ x.cell? ⟨tb, tq + a * 8, none⟩ = some (.int .i64 tm.kind) ∧ x.cell? ⟨tb, tq + a * 8 + 1, none⟩ = some (.string tm.text) ∧ x.cell? ⟨tb, tq + a * 8 + 2, none⟩ = some (.bool tm.sp) ∧ x.cell? ⟨tb, tq + a * 8 + 3, none⟩ = some (.string tm.file) ∧ x.cell? ⟨tb, tq + a * 8 + 4, none⟩ = some (.int .i64 tm.f) ∧ x.cell? ⟨tb, tq + a * 8 + 5, none⟩ = some (.int .i64 tm.t) ∧ x.cell? ⟨tb, tq + a * 8 + 6, none⟩ = some (.bool tm.made) ∧ x.cell? ⟨tb, tq + a * 8 + 7, none⟩ = some (.slice sa1 sn sc1) ∧ x.cell? ⟨ab, aq + k * 8, none⟩ = some (.int .i64 tm.kind) ∧ x.cell? ⟨ab, aq + k * 8 + 1, none⟩ = some (.string tm.text) ∧ x.cell? ⟨ab, aq + k * 8 + 2, none⟩ = some (.bool tm.sp) ∧ x.cell? ⟨ab, aq + k * 8 + 3, none⟩ = some (.string tm.file) ∧ x.cell? ⟨ab, aq + k * 8 + 4, none⟩ = some (.int .i64 tm.f) ∧ x.cell? ⟨ab, aq + k * 8 + 5, none⟩ = some (.int .i64 tm.t) ∧ x.cell? ⟨ab, aq + k * 8 + 6, none⟩ = some (.bool tm.made) ∧ x.cell? ⟨ab, aq + k * 8 + 7, none⟩ = some (.slice sa2 sn sc2)) (first | with_reducible exact ⟨s0, s1, s2, s3, s4, s5, s6, s7, s8, s9, s10, s11, s12, s13, s14, s15, s16⟩ | with_reducible exact HFx.out _ hb5) (first | (go_at_call 31; refine (HSm.out _ (by assumption)).mono ?_; rintro e w5 ⟨rfl, hb5⟩))
                all_goals
                  go_wp2_with fail
                  go_meet
                  case rel => exact ⟨rfl, Lib.hid hb5⟩
              case rest =>
                obtain ⟨rfl, hbc⟩ := hcut
                go_wp2_with fail
                go_roundg (d - (k + 1))
                case measure => exact f5.out
                case rel => exact ⟨k + 1, a + 1, rfl, hkd, by simp, by simp, Lib.hid (by have := hfa.out; omega), hbc⟩
            · have hkd' : ¬ (k : Int) < d := by omega
              have hke : k = d := by omega
              have g3 : IntKind.i64.wrap ((a : Int) + 1) = ((a + 1 : Nat) : Int) := by rw [IntWalk.i64_in _ (by omega)]; omega
              clear hfa'
              replace hke := Lib.hid hke
              go_wp2_with fail
              go_roundg (m - (i + 1))
              case measure => exact f4.out
              case rel => exact ⟨i + 1, rfl, him, by simp, by rw [z1'.out]; have := hke.out; have := hfa.out; congr 1; omega, hb⟩
        · have him' : ¬ (i : Int) < m := by omega
          have hie : i = m := by omega
          rw [hie, hstm.out] at hv9
          subst hv9
          replace hie := Lib.hid hie
          clear him
          obtain ⟨w3, hw3⟩ : ∃ w3, w3 = wr := ⟨_, rfl⟩
          subst hw3
          go_wp2_with fail
          go_loopg [13] (N + 1) (fun q v13 wx => ∃ j : Nat, q = N + 1 - j ∧ j ≤ N + 1 ∧ v13 = .int .i64 j ∧ Hid (MpAt w3 w3.heap.size j wx))
          case atStart => exact ⟨0, rfl, Nat.zero_le _, rfl, Lib.hid ⟨⟨none, 0, heap_alloc_new w3 _, [], Own.nil _ _ _ _, rfl⟩, (Below.refl _ w3).alloc (Nat.le_refl _) _⟩⟩
          case round =>
            obtain ⟨j, hq, hj, rfl, hM⟩ := hrel
            replace hq := hq.symm
            subst hq
            obtain ⟨⟨pa, pc, hm, names, hown, hnl⟩, hbm⟩ := hM.out
            by_cases hjn : j ≤ N
            · have hjn' : (j : Int) ≤ N := by omega
              have f4 : Hid (N + 1 - (j + 1) < N + 1 - j) := Lib.hid (by omega)
              have g1 : IntKind.i64.wrap ((j : Int) + 1) = (j : Int) + 1 := IntWalk.i64_in _ (by omega)
              have g2 : IntKind.i64.wrap (97 + (j : Int)) = 97 + (j : Int) := IntWalk.i64_in _ (by omega)
              have g3 : IntKind.u8.wrap (97 + (j : Int)) = 97 + (j : Int) := by
                simp [IntKind.wrap, IntKind.signed, IntKind.bits]
                omega
              obtain ⟨c0, c1, c2, c3, c4, c5, c6, c7⟩ := cells8 hm
              have hcv := conv_a (i := j) (by omega) wr
              obtain ⟨ch, hch⟩ : ∃ c, c = UInt8.ofNat (97 + j) := ⟨_, rfl⟩
              rw [← hch] at hcv
              replace hch := Lib.hid hch
              have hs2 : (⟨#[112]⟩ : ByteArray).size + (⟨#[ch]⟩ : ByteArray).size ≤ 9223372036854775807 := by show 1 + 1 ≤ 9223372036854775807; omega
              have hOw : Hid (Own (wr.alloc (.cells #[.int .u8 (97 + (j : Int))] 5)) w3.heap.size 9 1 (.slice pa j pc) names) := Lib.hid (hown.alloc _)
              have hBw : Hid (w3.heap.size ≤ (wr.alloc (.cells #[.int .u8 (97 + (j : Int))] 5)).heap.size) := Lib.hid (by have := hbm.size; simp; omega)
              have hmA : Hid ((wr.alloc (.cells #[.int .u8 (97 + (j : Int))] 5)).heap[w3.heap.size]? = some (.cells #[.string .empty, .bool true, .bool true, .slice pa j pc, .slice none 0 0, .string .empty, .int .i64 0, .int .i64 0] 53 (0, 0))) := Lib.hid ((Lib.alloc_old wr _ _ (lt_of_block hm)).trans hm)
              have hbA : Hid (Below w3.heap.size w3 (wr.alloc (.cells #[.int .u8 (97 + (j : Int))] 5))) := Lib.hid (hbm.alloc hbm.size _)
              have hne : Hid (∀ kk, (Value.slice pa j pc).ownBlock = some kk → kk ≠ w3.heap.size) := Lib.hid (fun kk hkk e => by
                obtain ⟨c, fz, hh⟩ := hown.size_lt kk hkk
                rw [e, hm] at hh
                simp at hh)
              have hlen : Hid (names.length + 1 ≤ 1000000000) := Lib.hid (by omega)
              replace hnl := Lib.hid hnl
              replace hm := Lib.hid hm
              replace hown := Lib.hid hown
              replace hbm := Lib.hid hbm
              go_wp2_with (at_builtin; go_must (refine wpList_append1X Es9 rfl rfl hOw.out rfl rfl (news := [.string ((⟨#[112]⟩ : ByteArray) ++ (⟨#[ch]⟩ : ByteArray))]) (by simp) rfl (by simp [Value.oneCell']) hlen.out (by decide) hBw.out ?_); intro g5 cp5 w5 hown5 hg5 hd5 hs5; have hm5 := (hg5.block w3.heap.size (lt_of_block hmA.out) (by intro e; exact hne.out _ e.symm rfl)).trans hmA.out; have fr := fun jj => Lib.frozen_of_heap hm5 jj; obtain ⟨d0, d1, d2, d3, d4, d5, d6, d7⟩ := cells8 hm5; have hb5 := Lib.hid (bapp hbA.out hOw.out hg5 hBw.out))
              go_roundg (N + 1 - (j + 1))
              case measure => exact f4.out
              case rel =>
                refine ⟨j + 1, rfl, by omega, by simp, Lib.hid ⟨⟨some ⟨g5, 0, none⟩, cp5, ?_, names ++ [[.string ((⟨#[112]⟩ : ByteArray) ++ (⟨#[ch]⟩ : ByteArray))]], ?_, by simp [hnl.out]⟩, hb5.out.setCell (p := ⟨w3.heap.size, 3, none⟩) (Nat.le_refl _) _⟩⟩
                · have := set_at hm5 3 (.slice (some ⟨g5, 0, none⟩) (names.length + 1) cp5)
                  rw [hnl.out] at this ⊢
                  simpa using this
                · have := hown5.setType hm5 (by decide) 3 (.slice (some ⟨g5, 0, none⟩) (names.length + 1) cp5)
                  rw [hnl.out] at this ⊢
                  exact this
            · have hjn' : ¬ (j : Int) ≤ N := by omega
              have hje : j = N + 1 := by omega
              subst hje
              obtain ⟨c0, c1, c2, c3, c4, c5, c6, c7⟩ := cells8 hm
              have hb2r : Below w2.heap.size w2 wr := hb.out.trans (hbm.mono hb.out.size)
              have hL : LsIn wr (.slice (some ⟨lb, lo, none⟩) m lc) (argsOf X ps) := (ho2.out.inn (fun Y hY x hx => hok.out x (args_mem hY hx))).below hb2r
              have hC : ToksIn wr (.slice ca (m - 1) cc) (commasOf X ps) := (ho3.out.toks (fun x hx => hok.out x (commas_mem hx))).below hb2r
              have hFit := fit_any (argsOf X ps) (commasOf X ps) .empty true true pa (N + 1) pc (.slice none 0 0) .empty 0 0 (.slice (some ⟨lb, lo, none⟩) m lc) (.slice ca (m - 1) cc) (by omega) (by rw [hal.out]; omega) (by rw [hcl.out]; omega) (fun Y hY => by
                obtain ⟨p, _, rfl⟩ := List.mem_map.1 hY
                rw [List.length_take, List.length_drop, hXl.out]
                omega) (by intro e; have := hal.out; rw [e] at this; simp at this; omega) wr hL hC
              have hbWr : Hid (Below w.heap.size w wr) := Lib.hid (hb2.out.trans (hb2r.mono hb2.out.size))
              obtain ⟨d1, d2, d3⟩ := fit_dots (XX := argsOf X ps) (CC := commasOf X ps) (n := N) (by rw [hal.out, hcl.out]; omega)
              rw [hal.out] at d1 d2 d3
              rw [hcl.out] at d2
              have hsm : 1 + (((argsOf X ps).map List.length).sum + m) = u := by
                rw [hw_.out, ← HM.out]
                exact chain_sum ps 1 u hch.out
              generalize fitP (N + 1) true (argsOf X ps) (commasOf X ps) = FP at hFit d1 d2 d3
              obtain ⟨F, fb⟩ := FP
              simp only at hFit d1 d2 d3
              subst d1
              replace hFit := Lib.hid hFit
              replace hsm := Lib.hid hsm
              replace hm := Lib.hid hm
              replace hown := Lib.hid hown
              replace hnl := Lib.hid hnl
              clear hL hC hbm hb2r
              by_cases hNm : N ≤ m
              · have hNm' : (N : Int) ≤ m := by omega
                have hNd : decide (N ≤ m) = true := decide_eq_true hNm
                have hNd' : decide ((N : Int) ≤ m) = true := decide_eq_true hNm'
                obtain ⟨hFl, hsum2⟩ := d2 hNm
                have hFit2 := hFit.out
                rw [hNd] at hFit2
                replace hFit := Lib.hid hFit2
                clear hFit2 d2 d3
                have hFs : Hid ((F.map List.length).sum ≤ 100) := Lib.hid (by have := hsm.out; omega)
                replace hsum2 := Lib.hid hsum2
                have gN : IntKind.i64.wrap ((N : Int) + 1) = ((N + 1 : Nat) : Int) := by rw [IntWalk.i64_in _ (by omega)]; omega
                obtain ⟨FL, hFLe⟩ : ∃ FL, FL = N + 1 := ⟨_, rfl⟩
                rw [← hFLe] at hFl
                have gN2 : IntKind.i64.wrap ((N : Int) + 1) = (FL : Int) := by rw [gN, hFLe]
                have hFL60 : FL ≤ 100 := by omega
                replace hFLe := Lib.hid hFLe
                have hFL := Lib.hid hFl
                clear gN hFl
                go_wp2_with fail
                refine hFit.out.mono ?_
                rintro e w5 ⟨⟨v, rfl, hOF⟩, hb5⟩
                obtain ⟨fa, fc, rfl⟩ := hOF.slice hFL.out
                replace hOF := Lib.hid hOF
                have hbW5 := Lib.hid (hbWr.out.trans (hb5.mono hbWr.out.size))
                clear hb5
                go_wp2_with fail
                go_loopg [16, 17] FL (fun q v16 v17 wx => ∃ k : Nat, q = FL - k ∧ k ≤ FL ∧ v17 = .int .i64 k ∧ v16 = .int .i64 (((F.map List.length).take k).sum : Nat) ∧ Hid (Below w5.heap.size w5 wx))
                case atStart => exact ⟨0, rfl, Nat.zero_le _, rfl, rfl, Lib.hid (Below.refl _ _)⟩
                case round =>
                  obtain ⟨k, hq, hk, rfl, hv16, hbk⟩ := hrel
                  replace hq := hq.symm
                  subst hq
                  obtain ⟨S, hS⟩ : ∃ S, S = ((F.map List.length).take k).sum := ⟨_, rfl⟩
                  rw [← hS] at hv16
                  subst hv16
                  have hSle : S ≤ 100 := by rw [hS]; exact Nat.le_trans (take_sum _ k) hFs.out
                  by_cases hkn : k < FL
                  · have hkn' : (k : Int) < FL := by omega
                    have f4 : Hid (FL - (k + 1) < FL - k) := Lib.hid (by omega)
                    have g1 : IntKind.i64.wrap ((k : Int) + 1) = (k : Int) + 1 := IntWalk.i64_in _ (by omega)
                    obtain ⟨Y, hY⟩ : ∃ Y, F[k]? = some Y := ⟨_, List.getElem?_eq_getElem (by rw [hFL.out]; exact hkn)⟩
                    obtain ⟨fb', fo', la', lc', hfa, hcY, _⟩ := hOF.out.cell hY
                    subst hfa
                    have x0 := kept_cell hbk.out hcY
                    have hst : Hid (((F.map List.length).take (k + 1)).sum = S + Y.length) := Lib.hid (by
                      rw [List.take_add_one, List.getElem?_map, hY, hS]
                      simp)
                    have hle2 : S + Y.length ≤ 100 := by rw [← hst.out]; exact Nat.le_trans (take_sum _ _) hFs.out
                    have g2 : IntKind.i64.wrap ((S : Int) + (Y.length : Int)) = ((S + Y.length : Nat) : Int) := by rw [IntWalk.i64_in _ (by omega)]; omega
                    clear hcY hS
                    generalize Y.length = yl at *
                    go_wp2_with fail
                    go_roundg (FL - (k + 1))
                    case measure => exact f4.out
                    case rel => exact ⟨k + 1, rfl, hkn, by simp, by rw [hst.out]; simp, hbk⟩
                  · have hkn' : ¬ (k : Int) < FL := by omega
                    have hke : k = FL := by omega
                    have hSt : Hid (S = (F.map List.length).sum) := Lib.hid (by rw [hS, hke, List.take_of_length_le (by rw [List.length_map, hFL.out]; exact Nat.le_refl _)])
                    replace hke := Lib.hid hke
                    clear hS
                    obtain ⟨mn, hmn⟩ : ∃ mn, mn = min N (m - 1) := ⟨_, rfl⟩
                    have hmn1 : min (N : Int) ((m - 1 : Nat) : Int) = (mn : Int) := by omega
                    have hfin : S + mn = u - 2 := by have := hSt.out; have := hsum2.out; rw [← hmn] at this; have := hsm.out; omega
                    have g2 : IntKind.i64.wrap ((u : Int) - 2) = ((u - 2 : Nat) : Int) := by rw [IntWalk.i64_in _ (by omega)]; omega
                    have g3 : IntKind.i64.wrap (((u - 2 : Nat) : Int) - (mn : Int)) = (S : Int) := by rw [IntWalk.i64_in _ (by omega)]; omega
                    replace hmn := Lib.hid hmn
                    replace hfin := Lib.hid hfin
                    have hBe := hbW5.out.trans (hbk.out.mono hbW5.out.size)
                    go_wp2_with fail
                    refine (HA.out _).mono ?_
                    rintro e w7 ⟨rfl, hb7⟩
                    go_wp2
                    go_ret
                    exact ⟨by simp, hBe.trans (hb7.mono hBe.size)⟩
              · have hNm' : ¬ (N : Int) ≤ m := by omega
                have hNd : decide (N ≤ m) = false := decide_eq_false hNm
                have hNd' : decide ((N : Int) ≤ m) = false := decide_eq_false hNm'
                have hF0 := d3 hNm
                have hFit2 := hFit.out
                rw [hNd] at hFit2
                replace hFit := Lib.hid hFit2
                clear hFit2 d2 d3
                have hFs : Hid ((F.map List.length).sum ≤ 100) := Lib.hid (by rw [hF0]; exact Nat.zero_le _)
                obtain ⟨FL, hFLe⟩ : ∃ FL, FL = 0 := ⟨_, rfl⟩
                have hFL : Hid (F.length = FL) := Lib.hid (by rw [hF0, hFLe]; rfl)
                have hFL60 : FL ≤ 100 := by omega
                replace hFLe := Lib.hid hFLe
                replace hF0 := Lib.hid hF0
                go_wp2_with fail
                refine hFit.out.mono ?_
                rintro e w5 ⟨⟨v, rfl, hOF⟩, hb5⟩
                obtain ⟨fa, fc, rfl⟩ := hOF.slice hFL.out
                replace hOF := Lib.hid hOF
                have hbW5 := Lib.hid (hbWr.out.trans (hb5.mono hbWr.out.size))
                clear hb5
                go_wp2_with fail
                go_loopg [16, 17] FL (fun q v16 v17 wx => ∃ k : Nat, q = FL - k ∧ k ≤ FL ∧ v17 = .int .i64 k ∧ v16 = .int .i64 (((F.map List.length).take k).sum : Nat) ∧ Hid (Below w5.heap.size w5 wx))
                case atStart => exact ⟨0, rfl, Nat.zero_le _, rfl, rfl, Lib.hid (Below.refl _ _)⟩
                case round =>
                  obtain ⟨k, hq, hk, rfl, hv16, hbk⟩ := hrel
                  replace hq := hq.symm
                  subst hq
                  obtain ⟨S, hS⟩ : ∃ S, S = ((F.map List.length).take k).sum := ⟨_, rfl⟩
                  rw [← hS] at hv16
                  subst hv16
                  have hSle : S ≤ 100 := by rw [hS]; exact Nat.le_trans (take_sum _ k) hFs.out
                  by_cases hkn : k < FL
                  · have hkn' : (k : Int) < FL := by omega
                    have f4 : Hid (FL - (k + 1) < FL - k) := Lib.hid (by omega)
                    have g1 : IntKind.i64.wrap ((k : Int) + 1) = (k : Int) + 1 := IntWalk.i64_in _ (by omega)
                    obtain ⟨Y, hY⟩ : ∃ Y, F[k]? = some Y := ⟨_, List.getElem?_eq_getElem (by rw [hFL.out]; exact hkn)⟩
                    obtain ⟨fb', fo', la', lc', hfa, hcY, _⟩ := hOF.out.cell hY
                    subst hfa
                    have x0 := kept_cell hbk.out hcY
                    have hst : Hid (((F.map List.length).take (k + 1)).sum = S + Y.length) := Lib.hid (by
                      rw [List.take_add_one, List.getElem?_map, hY, hS]
                      simp)
                    have hle2 : S + Y.length ≤ 100 := by rw [← hst.out]; exact Nat.le_trans (take_sum _ _) hFs.out
                    have g2 : IntKind.i64.wrap ((S : Int) + (Y.length : Int)) = ((S + Y.length : Nat) : Int) := by rw [IntWalk.i64_in _ (by omega)]; omega
                    clear hcY hS
                    generalize Y.length = yl at *
                    go_wp2_with fail
                    go_roundg (FL - (k + 1))
                    case measure => exact f4.out
                    case rel => exact ⟨k + 1, rfl, hkn, by simp, by rw [hst.out]; simp, hbk⟩
                  · have hkn' : ¬ (k : Int) < FL := by omega
                    have hke : k = FL := by omega
                    have hSt : Hid (S = (F.map List.length).sum) := Lib.hid (by rw [hS, hke, List.take_of_length_le (by rw [List.length_map, hFL.out]; exact Nat.le_refl _)])
                    replace hke := Lib.hid hke
                    clear hS
                    have hBe := hbW5.out.trans (hbk.out.mono hbW5.out.size)
                    go_wp2_with fail
                    refine (HA.out _).mono ?_
                    rintro e w7 ⟨rfl, hb7⟩
                    go_wp2
                    go_ret
                    exact ⟨by simp, hBe.trans (hb7.mono hBe.size)⟩
  · by_cases hb1 : b = false
    · subst hb1
      clear hgo
      go_wp2_with fail
      refine (HA.out w).mono ?_
      rintro e w3 ⟨rfl, hb3⟩
      go_wp2
      go_ret
      exact ⟨rfl, hb3⟩
    · have hbt : b = true := by cases b with | true => rfl | false => exact absurd rfl hb1
      subst hbt
      clear hgo
      by_cases h0 : a1 < 0
      · go_wp2_with fail
        refine (HA.out w).mono ?_
        rintro e w3 ⟨rfl, hb3⟩
        go_wp2
        go_ret
        exact ⟨rfl, hb3⟩
      · have h20 : 20 < a1 := by
          by_cases h : 20 < a1
          · exact h
          · exact absurd ⟨rfl, by omega, by omega⟩ hall
        clear hall
        go_wp2_with fail
        refine (HA.out w).mono ?_
        rintro e w3 ⟨rfl, hb3⟩
        go_wp2
        go_ret
        exact ⟨rfl, hb3⟩
end Go.Proofs.YtfaoamdlknlgpaaGreat
