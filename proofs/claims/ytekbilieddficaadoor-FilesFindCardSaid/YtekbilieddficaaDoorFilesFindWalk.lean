/- FilesFind: the walk. -/
import Derived.Test.YtekbilieddficaaDoorFfSpec
import Derived.Test.YtekbilieddficaaDoorAlike
namespace Go.Proofs.YtekbilieddficaaDoor
open Go.RowKit
set_option linter.unusedVariables false

theorem rmade_below {B g : Nat} {dv : Value} {P N : List ByteArray} {s : ByteArray} {w w' : World} (h : RMade B g dv P N s w w') (hB : B ≤ g) (hw : B ≤ w.heap.size) : Below B w w' := by
  obtain ⟨k, _, _, _, _, hg⟩ := h
  exact ⟨hg.os, hg.tape, hg.output, hg.size, fun j hj => hg.block j (by omega) (by intro e; cases e; omega)⟩

set_option maxRecDepth 100000 in
set_option maxHeartbeats 2000000 in
theorem filesFind_walk (D : List ByteArray) (ao : Option Addr) (c : Nat) (hc : D.length ≤ c) (hcm : c ≤ maxLen) (hz : ao = none → D = [] ∧ c = 0) (A : List ByteArray) (ao2 : Option Addr) (c2 : Nat) (hc2 : A.length ≤ c2) (hcm2 : c2 ≤ maxLen) (hz2 : ao2 = none → A = [] ∧ c2 = 0) (fr : ByteArray) (hfr : fr.size ≤ maxLen) (nm : ByteArray) (hnm : nm.size ≤ maxLen) (q : Bool) (w : World) (hrow0 : Row w 1 ao (strsB D)) (hrow2 : Row w 1 ao2 (strsB A)) :
    Calls Tryd.prog 3 #[.slice ao D.length c, .slice ao2 A.length c2, .string fr, .string nm, .bool q] w fun e w' => e = .returned (.bool true) ∧ Below w.heap.size w w' := by
  unfold maxLen at hcm hcm2 hfr hnm
  have HA0 := Lib.hid (awake_any w)
  obtain ⟨n, hn⟩ : ∃ n, n = A.length := ⟨_, rfl⟩
  have HN : Hid (A.length = n) := Lib.hid hn.symm
  have HS1 : Hid (Calls Tryd.prog 7 #[.slice ao D.length c, .int .i64 200] w fun e w' => e = .returned (.bool (shortL D 200)) ∧ w' = w) := Lib.hid (short_any D ao c 200 (by omega) hc (by unfold maxLen; omega) w hrow0)
  have HS2 : Hid (Calls Tryd.prog 7 #[.slice ao2 n c2, .int .i64 400] w fun e w' => e = .returned (.bool (shortL A 400)) ∧ w' = w) := Lib.hid (by rw [hn]; exact short_any A ao2 c2 400 (by omega) hc2 (by unfold maxLen; omega) w hrow2)
  rw [← hn] at hc2 ⊢
  clear hn
  obtain ⟨m, hm⟩ : ∃ m, m = D.length := ⟨_, rfl⟩
  have HM : Hid (D.length = m) := Lib.hid hm.symm
  cases hs1 : shortL D 200 with
  | false =>
    rw [hs1] at HS1
    rw [← hm] at HS1 ⊢
    clear hm hz hrow0 hrow2
    go_enter Tryd.func3, Tryd.ntmps3
    go_wp2_with fail
    refine HS1.out.mono ?_
    rintro e w' ⟨rfl, hw'⟩
    replace hw' := hw'.symm
    subst hw'
    go_wp2_with fail
    refine HA0.out.mono ?_
    rintro e w' ⟨rfl, hb⟩
    replace hb := Lib.hid hb
    go_wp2
    go_ret
    exact ⟨rfl, hb.out⟩
  | true =>
    rw [hs1] at HS1
    rw [← hm] at HS1
    have hD := shortL_at hs1
    have HMD : Hid (Calls Tryd.prog 8 #[.slice ao m c] w fun e w' => e = .returned (.bool (mayD D)) ∧ Below w.heap.size w w') := Lib.hid (by rw [hm]; exact mayDirs_any D (fun d hd => by have := hD.2 d hd; omega) ao c hc (by omega) w hrow0)
    cases hs2 : shortL A 400 with
    | false =>
      rw [hs2] at HS2
      rw [← hm]
      clear hm hz hrow0 hrow2 HMD
      go_enter Tryd.func3, Tryd.ntmps3
      go_wp2_with fail
      refine HS1.out.mono ?_
      rintro e w' ⟨rfl, hw'⟩
      replace hw' := hw'.symm
      subst hw'
      go_wp2_with fail
      refine HS2.out.mono ?_
      rintro e w' ⟨rfl, hw'⟩
      replace hw' := hw'.symm
      subst hw'
      go_wp2_with fail
      refine HA0.out.mono ?_
      rintro e w' ⟨rfl, hb⟩
      replace hb := Lib.hid hb
      go_wp2
      go_ret
      exact ⟨rfl, hb.out⟩
    | true =>
      rw [hs2] at HS2
      by_cases h40 : (40 : Int) < n
      · rw [← hm]
        clear hm hz hrow0 hrow2 HMD
        go_enter Tryd.func3, Tryd.ntmps3
        go_wp2_with fail
        refine HS1.out.mono ?_
        rintro e w' ⟨rfl, hw'⟩
        replace hw' := hw'.symm
        subst hw'
        go_wp2_with fail
        refine HS2.out.mono ?_
        rintro e w' ⟨rfl, hw'⟩
        replace hw' := hw'.symm
        subst hw'
        go_wp2_with fail
        refine HA0.out.mono ?_
        rintro e w' ⟨rfl, hb⟩
        replace hb := Lib.hid hb
        go_wp2
        go_ret
        exact ⟨rfl, hb.out⟩
      by_cases h200 : (200 : Int) < fr.size
      · rw [← hm]
        clear hm hz hrow0 hrow2 HMD
        go_enter Tryd.func3, Tryd.ntmps3
        go_wp2_with fail
        refine HS1.out.mono ?_
        rintro e w' ⟨rfl, hw'⟩
        replace hw' := hw'.symm
        subst hw'
        go_wp2_with fail
        refine HS2.out.mono ?_
        rintro e w' ⟨rfl, hw'⟩
        replace hw' := hw'.symm
        subst hw'
        go_wp2_with fail
        refine HA0.out.mono ?_
        rintro e w' ⟨rfl, hb⟩
        replace hb := Lib.hid hb
        go_wp2
        go_ret
        exact ⟨rfl, hb.out⟩
      by_cases h201 : (200 : Int) < nm.size
      · rw [← hm]
        clear hm hz hrow0 hrow2 HMD
        go_enter Tryd.func3, Tryd.ntmps3
        go_wp2_with fail
        refine HS1.out.mono ?_
        rintro e w' ⟨rfl, hw'⟩
        replace hw' := hw'.symm
        subst hw'
        go_wp2_with fail
        refine HS2.out.mono ?_
        rintro e w' ⟨rfl, hw'⟩
        replace hw' := hw'.symm
        subst hw'
        go_wp2_with fail
        refine HA0.out.mono ?_
        rintro e w' ⟨rfl, hb⟩
        replace hb := Lib.hid hb
        go_wp2
        go_ret
        exact ⟨rfl, hb.out⟩
      have e1 : decide ((40 : Int) < (n : Int)) = false := decide_eq_false (by omega)
      have e2 : decide ((200 : Int) < (fr.size : Int)) = false := decide_eq_false (by omega)
      have e3 : decide ((200 : Int) < (nm.size : Int)) = false := decide_eq_false (by omega)
      have e1' : decide (40 < n) = false := decide_eq_false (by omega)
      have e2' : decide (200 < fr.size) = false := decide_eq_false (by omega)
      have e3' : decide (200 < nm.size) = false := decide_eq_false (by omega)
      cases hmd : mayD D with
      | false =>
        rw [hmd] at HMD
        rw [← hm]
        clear hm hz hrow0 hrow2 hmd
        go_enter Tryd.func3, Tryd.ntmps3
        go_wp2_with fail
        refine HS1.out.mono ?_
        rintro e w' ⟨rfl, hw'⟩
        replace hw' := hw'.symm
        subst hw'
        go_wp2_with fail
        refine HS2.out.mono ?_
        rintro e w' ⟨rfl, hw'⟩
        replace hw' := hw'.symm
        subst hw'
        go_wp2_with fail
        refine HMD.out.mono ?_
        rintro e w1 ⟨rfl, b1⟩
        have HA1 := Lib.hid (awake_any w1)
        replace b1 := Lib.hid b1
        go_wp2_with fail
        refine HA1.out.mono ?_
        rintro e w2 ⟨rfl, b2⟩
        replace b2 := Lib.hid b2
        go_wp2
        go_ret
        exact ⟨rfl, b1.out.trans (b2.out.mono b1.out.size)⟩
      | true =>
        rw [hmd] at HMD
        clear HA0
        have hD10 := (mayD_get hmd).1
        have hAs := Lib.hid (shortL_at hs2).2
        have HF0 : Hid (∀ W, Below w.heap.size w W → Row W 1 ao (strsB D) ∧ Row W 1 ao2 (strsB A)) := Lib.hid fun W hW => ⟨hrow0.below hW, hrow2.below hW⟩
        have HNw : Hid (∀ W, Below w.heap.size w W → Calls Tryd.prog 10 #[.slice ao m c] W fun e w' => ∃ g fm vm dv, e = .returned (.tuple #[.pointer (some ⟨g, 0, none⟩), .int .i64 0]) ∧ FAt w' W.heap.size g fm vm dv D [] [] ∧ Below W.heap.size W w') := Lib.hid fun W hW => by
          rw [hm]; exact new_yes (fun d hd => by have := hD.2 d hd; omega) ao c hc hz W (HF0.out W hW).1 hmd
        obtain ⟨d0l, hd0, hd0s⟩ := dirOf_exists fr.data.toList
        obtain ⟨d0, hd0e⟩ : ∃ d0 : ByteArray, d0.data.toList = d0l := ⟨⟨d0l.toArray⟩, rfl⟩
        rw [← hd0e] at hd0 hd0s
        have hd0s' : d0.size ≤ 200 := by
          have : fr.data.toList.length = fr.size := Array.length_toList
          have h2 : d0.data.toList.length = d0.size := Array.length_toList
          omega
        have hdirs : Hid ((D.length ≤ 100 ∧ ∀ d ∈ D, d.size ≤ 1000) ∧ DirOf fr.data.toList d0.data.toList) := Lib.hid ⟨⟨by omega, fun d hd => by have := hD.2 d hd; omega⟩, hd0⟩
        have hcm' : m ≤ c := by omega
        have hcD : Hid (D.length ≤ c ∧ (ao = none → c = 0)) := Lib.hid ⟨hc, fun e => (hz e).2⟩
        have hn40 : n ≤ 40 := by omega
        rw [← hm]
        clear hm hz hrow0 hrow2 hmd hD hd0 hd0s hs1 hs2 hc hd0e
        obtain ⟨B, hB⟩ : ∃ B, B = w.heap.size := ⟨_, rfl⟩
        have hsz : Hid (∀ W, Below B w W → B ≤ W.heap.size) := Lib.hid fun W hW => by rw [hB]; rw [hB] at hW; exact hW.size
        rw [← hB] at HF0 HNw HMD ⊢
        replace hB := Lib.hid hB
        go_enter Tryd.func3, Tryd.ntmps3
        go_wp2_with fail
        refine HS1.out.mono ?_
        rintro e w' ⟨rfl, hw'⟩
        replace hw' := hw'.symm
        subst hw'
        go_wp2_with fail
        refine HS2.out.mono ?_
        rintro e w' ⟨rfl, hw'⟩
        replace hw' := hw'.symm
        subst hw'
        go_wp2_with fail
        refine HMD.out.mono ?_
        rintro e w1 ⟨rfl, b1⟩
        have HN1 := Lib.hid (HNw.out w1 b1)
        have hs1 := hsz.out w1 b1
        replace b1 := Lib.hid b1
        clear HMD HNw HS1 HS2
        go_wp2_with fail
        refine HN1.out.mono ?_
        rintro e w2 ⟨g, fm, vm, dv, rfl, f2, b2⟩
        have f2' : FAt w2 B g fm vm dv D [] [] := ⟨f2.tab, f2.dirs, f2.files, f2.fnd, f2.fsz, by simp, f2.vers, f2.vnd, f2.vsz, f2.cnts, f2.vblk, f2.ne, ⟨Nat.le_trans hs1 f2.low.1, Nat.le_trans hs1 f2.low.2.1, Nat.le_trans hs1 f2.low.2.2.1, by simp⟩⟩
        have hb2 := Lib.hid (b1.out.trans (b2.mono hs1))
        have hs2 := hsz.out w2 hb2.out
        have hst0 : Hid (FfSt (w2.alloc (.cells #[.slice ao m c, .slice none 0 0, .slice none 0 0, .slice none 0 0] 34)) B g fm vm w2.heap.size c dv ao D 0 [] [] [] []) := Lib.hid
          ⟨f2'.moved ((Below.refl _ _).alloc (Nat.le_refl _) _), ⟨⟨.slice none 0 0, .slice none 0 0, .slice none 0 0, by rw [HM.out]; exact heap_alloc_new _ _, Own.nil _ _ _ _, Own.nil _ _ _ _, Own.nil _ _ _ _⟩, hs2, by simp⟩, List.Pairwise.nil, fun _ => rfl, rfl, by simp, Nat.le_refl _, Nat.le_refl _, fun _ => Int.le_refl _⟩
        have hb0 := Lib.hid (hb2.out.alloc hs2 (.cells #[.slice ao m c, .slice none 0 0, .slice none 0 0, .slice none 0 0] 34))
        clear f2 f2' HN1 b2
        go_wp2_with fail
        go_loopg [14] n (fun qq v14 wx => ∃ (i : Nat) (F : List (ByteArray × Nat × RT)) (V : List (ByteArray × Nat × Int)) (P N : List ByteArray), qq = n - i ∧ i ≤ n ∧ v14 = .int .i64 i ∧ Hid (FfSt wx B g fm vm w2.heap.size c dv ao D i F V P N) ∧ Hid (Below B w wx))
        case atStart => exact ⟨0, [], [], [], [], rfl, Nat.zero_le _, rfl, hst0, hb0⟩
        case round =>
          clear hst0 hb0
          obtain ⟨i, F, V, P, N, hq, hi, rfl, hst, hbw⟩ := hrel
          replace hq := hq.symm
          subst hq
          have hsB := hsz.out wr hbw.out
          by_cases hin : i < n
          · have hin' : (i : Int) < n := by omega
            have f4 : Hid (n - (i + 1) < n - i) := Lib.hid (by omega)
            have g1 : IntKind.i64.wrap ((i : Int) + 1) = (i : Int) + 1 := IntWalk.i64_in _ (by omega)
            obtain ⟨s, hs⟩ : ∃ x, A[i]? = some x := ⟨_, List.getElem?_eq_getElem (by rw [HN.out]; omega)⟩
            have hs4 := hAs.out s (List.mem_of_getElem? hs)
            obtain ⟨rb, ro, rfl, _⟩ := (HF0.out wr hbw.out).2 (by intro e; unfold strsB at e; simp at e; subst e; simp at hs)
            have y0 : Hid (∀ W, Below B w W → W.cell? ⟨rb, ro + i, none⟩ = some (.string s)) := Lib.hid fun W hW => by
              obtain ⟨rb', ro', e, hat⟩ := (HF0.out W hW).2 (by intro e; unfold strsB at e; simp at e; subst e; simp at hs)
              simp only [Option.some.injEq, Addr.mk.injEq, and_true] at e
              obtain ⟨rfl, rfl⟩ := e
              exact strRow_cell hat hs
            have x0 := y0.out wr hbw.out
            have x1 : wr.drew.cell? ⟨rb, ro + i, none⟩ = some (.string s) := x0
            have hd0 := Lib.hid (Below.refl wr.heap.size wr).drew
            have hNs : Hid (s ∉ P → ∀ x ∈ N, x ≠ s) := Lib.hid fun hsP x hx e => hsP (e ▸ hst.out.sub x hx)
            replace hs := Lib.hid hs
            cases hbc : badC P s with
            | some x =>
              have HC : Hid (∀ W, Below wr.heap.size wr W → Calls Tryd.prog 11 #[.pointer (some ⟨g, 0, none⟩), .string s, .string ⟨#[]⟩] W fun e w' => e = .returned (.int .i64 x) ∧ Below W.heap.size W w') := Lib.hid fun W hW => pcreate_bad (hst.out.moved hW) s ⟨#[]⟩ (by omega) hbc
              have HR : Hid (∀ W, Below wr.heap.size wr W → Calls Tryd.prog 12 #[.pointer (some ⟨w2.heap.size, 0, none⟩), .string s, .string ⟨#[]⟩] W fun e w' => e = .returned (.int .i64 x) ∧ Below W.heap.size W w') := Lib.hid fun W hW =>
                (rcreate_any W (hst.out.r.moved hW) (Nat.le_trans hsB hW.size) hst.out.rise (by have := hst.out.ln; omega) (by have := hst.out.lp; omega) s (by omega) hNs.out).mono fun e w' hh => by
                  rcases hh with ⟨cc, h1, h2, h3⟩ | ⟨h1, _⟩
                  · rw [hbc] at h1; cases h1; exact ⟨h2, h3⟩
                  · rw [hbc] at h1; cases h1
              clear hbc hNs
              go_wp2_with fail
              go_region_held3 (fun x : World => x.cell? ⟨rb, ro + i, none⟩ = some (.string s)) (first | with_reducible exact x0 | with_reducible exact x1 | with_reducible exact x2 | with_reducible exact x3) (first
                | (go_at_call 11; (with_reducible refine (HC.out _ hd0.out).mono ?_); rintro e w3 ⟨rfl, b3⟩; replace b3 := hd0.out.trans b3; have x2 := y0.out w3 (hbw.out.trans (b3.mono hsB)); have HR3 := Lib.hid (HR.out w3 b3); replace b3 := Lib.hid b3)
                | (go_at_call 12; (with_reducible refine HR3.out.mono ?_); rintro e w4 ⟨rfl, b4⟩; replace b4 := b3.out.trans (b4.mono b3.out.size); have x3 := y0.out w4 (hbw.out.trans (b4.mono hsB))))
              have hst4 := Lib.hid ((hst.out.moved b4).next)
              have hb4 := Lib.hid (hbw.out.trans (b4.mono hsB))
              clear x0 x1 x2 x3 hd0 HC HR b4 b3 HR3
              go_wp2_with fail
              go_roundg (n - (i + 1))
              case measure => exact f4.out
              case rel => exact ⟨i + 1, F, V, P, N, rfl, by omega, rfl, hst4, hb4⟩
            | none =>
              have HC : Hid (∀ W, Below wr.heap.size wr W → Calls Tryd.prog 11 #[.pointer (some ⟨g, 0, none⟩), .string s, .string ⟨#[]⟩] W fun e w' => Created B g fm vm dv D F V s [] W e w') := Lib.hid fun W hW => pcreate_yes (hst.out.moved hW) (Nat.le_trans hsB hW.size) (by omega) s hbc
              have HR : Hid (∀ W0 W, Below wr.heap.size wr W0 → RopesKept W0 W → Below B W0 W → Calls Tryd.prog 12 #[.pointer (some ⟨w2.heap.size, 0, none⟩), .string s, .string ⟨#[]⟩] W fun e w' => e = .returned (.int .i64 0) ∧ RMade B w2.heap.size (.slice ao D.length c) P N s W w') := Lib.hid fun W0 W hW0 hk hW =>
                (rcreate_any W ((hst.out.r.moved hW0).rk hk) (Nat.le_trans (Nat.le_trans hsB hW0.size) hW.size) hst.out.rise (by have := hst.out.ln; omega) (by have := hst.out.lp; omega) s (by omega) hNs.out).mono fun e w' hh => by
                  rcases hh with ⟨cc, h1, _⟩ | ⟨_, h2, h3⟩
                  · rw [hbc] at h1; cases h1
                  · exact ⟨h2, h3⟩
              replace hbc := Lib.hid hbc
              clear hNs
              go_wp2_with fail
              go_region_held3 (fun x : World => x.cell? ⟨rb, ro + i, none⟩ = some (.string s)) (first | with_reducible exact x0 | with_reducible exact x1 | with_reducible exact x2 | with_reducible exact x3) (first
                | (go_at_call 11; (with_reducible refine (HC.out _ hd0.out).mono ?_); rintro e w3 ⟨rfl, pb, pt, pn, _, f3, c3, k3⟩; have c3' := (hd0.out.mono hsB).trans c3; have x2 := y0.out w3 (hbw.out.trans c3'); have HR3 := Lib.hid (HR.out _ w3 hd0.out k3 c3); have k3' := (RopesKept.of_below hd0.out).trans k3)
                | (go_at_call 12; (with_reducible refine HR3.out.mono ?_); rintro e w4 ⟨rfl, m4⟩; have b4 := hbw.out.trans (c3'.trans (rmade_below m4 hs2 (Nat.le_trans hsB c3'.size))); have x3 := y0.out w4 b4))
              obtain ⟨P', N', hst4⟩ := hst.out.made hbc.out f3 k3' m4
              replace hst4 := Lib.hid hst4
              have hb4 := Lib.hid b4
              clear x0 x1 x2 x3 hd0 HC HR b4 HR3 f3 c3 c3' k3 k3' m4
              go_wp2_with fail
              go_roundg (n - (i + 1))
              case measure => exact f4.out
              case rel => exact ⟨i + 1, _, _, P', N', rfl, by omega, rfl, hst4, hb4⟩
          · obtain rfl : i = n := by omega
            have hin' : ¬ (i : Int) < (i : Int) := by omega
            have hfn := find_any wr hst.out.f hdirs.out.1 fr nm (by omega) (by omega) q d0 hdirs.out.2 (by omega)
            rw [foundR_L hst.out.same] at hfn
            replace hfn := Lib.hid hfn
            have hrf : Hid (∀ W, Below wr.heap.size wr W → Calls Tryd.prog 14 #[.pointer (some ⟨w2.heap.size, 0, none⟩), .string fr, .string nm, .bool q] W fun e w' => e = .returned (findV (foundR nm.data.toList P (withDir q d0 D))) ∧ Below W.heap.size W w') := Lib.hid fun W hW =>
              rfind_any W (hst.out.r.moved hW) hst.out.rise (by have := hst.out.lp; omega) hcD.out.1 (HF0.out W (hbw.out.trans (hW.mono hsB))).1 hcD.out.2 hdirs.out.1 fr nm (by omega) (by omega) q d0 hdirs.out.2 (by omega)
            generalize foundR nm.data.toList P (withDir q d0 D) = R at hfn hrf
            clear hst
            cases R
            all_goals
              unfold findV at hfn hrf
              go_wp2_with fail
              refine hfn.out.mono ?_
              rintro e w3 ⟨rfl, b3⟩
              have HR3 := Lib.hid (hrf.out w3 b3)
              replace b3 := Lib.hid b3
              go_wp2_with fail
              refine HR3.out.mono ?_
              rintro e w4 ⟨rfl, b4⟩
              have b5 := b3.out.trans (b4.mono b3.out.size)
              have HAw := Lib.hid (awake_any w4)
              replace b5 := Lib.hid b5
              clear b4
              go_wp2_with fail
              refine HAw.out.mono ?_
              rintro e w5 ⟨rfl, b6⟩
              have b7 := Lib.hid (hbw.out.trans ((b5.out.trans (b6.mono b5.out.size)).mono hsB))
              clear b6
              go_wp2
              go_ret
              exact ⟨rfl, b7.out⟩
end Go.Proofs.YtekbilieddficaaDoor
