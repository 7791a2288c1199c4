/- MacroWhole: the walk. -/
import Derived.Test.YthbicbfdldpemaaMacroWholeSpec
import Derived.Test.YthbicbfdldpemaaMc14
namespace Go.Proofs.Ythbicbfdldpemaa
open Go.RowKit
set_option linter.unusedVariables false

/-- a token's sites as an argument has them -/
def SiteRd (w : World) (v : Value) : Prop :=
  ∃ ao cap css, v = .slice ao css.length cap ∧ (ao = none → css = [] ∧ cap = 0) ∧ Row w 5 ao css ∧ (∀ c ∈ css, c.length = 5) ∧ ∀ u ∈ css.flatten, u.oneCell' = true

def siteLen : Value → Nat
  | .slice _ n _ => n
  | _ => 0

def FewPost (T : List (Tm × Value)) (most : Nat) (w : World) (e : Ending) (w' : World) : Prop := ∃ b, e = .returned (.bool b) ∧ w' = w ∧ (b = true → T.length ≤ most ∧ ∀ p ∈ T, siteLen p.2 ≤ 20)

set_option maxRecDepth 100000 in
theorem mFew_any (T : List (Tm × Value)) (ao : Option Addr) (cap most : Nat) (hm : most ≤ 1000) (hcap : T.length ≤ cap) (w : World) (hrow : Row w 8 ao (T.map tvC)) (hs : ∀ p ∈ T, SiteRd w p.2) :
    Calls Try.prog 19 #[.slice ao T.length cap, .int .i64 most] w fun e w' => FewPost T most w e w' := by
  obtain ⟨n, hn⟩ : ∃ n, n = T.length := ⟨_, rfl⟩
  have HN : Hid (T.length = n) := Lib.hid hn.symm
  rw [← hn] at hcap ⊢
  clear hn
  have HS := Lib.hid hs
  clear hs
  go_enter Try.func19, Try.ntmps19
  by_cases hnm : most < n
  · have h1 : (most : Int) < n := by omega
    go_wp2
    go_ret
    exact ⟨false, rfl, rfl, by simp⟩
  · have h1 : ¬ (most : Int) < n := by omega
    go_wp2
    go_loopg [5] n (fun u i wr => ∃ k : Nat, u = n - k ∧ k ≤ n ∧ i = .int .i64 k ∧ wr = w ∧ Hid (∀ j, j < k → ∀ p, T[j]? = some p → siteLen p.2 ≤ 20))
    case atStart => exact ⟨0, rfl, Nat.zero_le _, rfl, rfl, Lib.hid (fun j hj => absurd hj (Nat.not_lt_zero _))⟩
    case round =>
      obtain ⟨k, rfl, hk, rfl, hw, HJ⟩ := hrel
      replace hw := hw.symm
      subst hw
      by_cases hlt : k < n
      · obtain ⟨⟨t, v⟩, hp⟩ : ∃ p, T[k]? = some p := ⟨T[k]'(by rw [HN.out]; exact hlt), by simp⟩
        obtain ⟨sa, sc, css, hv, _⟩ := HS.out _ (List.mem_of_getElem? hp)
        simp only at hv
        subst hv
        obtain ⟨rb, o, rfl, hat⟩ := hrow (by intro h; simp at h; subst h; simp at hp)
        obtain ⟨t0, t1, t2, t3, t4, t5, t6, t7⟩ := tok8 (tok_at hat hp)
        obtain ⟨sn, hsn⟩ : ∃ sn, sn = css.length := ⟨_, rfl⟩
        rw [← hsn] at t7 hp
        clear hat hsn
        replace hp := Lib.hid hp
        by_cases h3 : 300 < t.text.size
        · have e3 : (300 : Int) < t.text.size := by omega
          go_wp2
          go_ret
          exact ⟨false, rfl, rfl, by simp⟩
        · have e3 : ¬ (300 : Int) < t.text.size := by omega
          by_cases h20 : 20 < sn
          · have e4 : (20 : Int) < sn := by omega
            go_wp2
            go_ret
            exact ⟨false, rfl, rfl, by simp⟩
          · have e4 : ¬ (20 : Int) < sn := by omega
            have HJ2 : Hid (∀ j, j < k + 1 → ∀ p, T[j]? = some p → siteLen p.2 ≤ 20) := Lib.hid (by
              intro j hj p hjp
              by_cases hjk : j = k
              · subst hjk
                rw [hp.out] at hjp
                injection hjp with hjp
                subst hjp
                show sn ≤ 20
                omega
              · exact HJ.out j (by omega) p hjp)
            go_wp2_with fail
            go_roundg (n - (k + 1))
            case measure => omega
            case rel => exact ⟨k + 1, rfl, by omega, by go_num, rfl, HJ2⟩
      · have hkn : k = n := by omega
        go_wp2
        go_ret
        refine ⟨true, rfl, rfl, fun _ => ⟨by have := HN.out; omega, fun p hp => ?_⟩⟩
        obtain ⟨j, hj, e⟩ := List.mem_iff_getElem.1 hp
        exact HJ.out j (by rw [HN.out] at hj; omega) p (by rw [List.getElem?_eq_getElem hj, e])

theorem SiteRd.inn {w : World} {v : Value} (h : SiteRd w v) (hl : siteLen v ≤ 20) : ∃ css, SiteIn w v css := by
  obtain ⟨ao, cap, css, rfl, h1, h2, h3, h4⟩ := h
  exact ⟨css, ao, cap, rfl, by simp only [siteLen] at hl; omega, h1, h2, h3, h4⟩

theorem two_new (w : World) (x y : Array Value) (e f : TypeId) : ((w.alloc (.cells x e)).alloc (.cells y f)).heap[w.heap.size]? = some (.cells x e (0, 0)) ∧ ((w.alloc (.cells x e)).alloc (.cells y f)).heap[w.heap.size + 1]? = some (.cells y f (0, 0)) :=
  ⟨(Lib.alloc_old _ _ _ (by simp)).trans (heap_alloc_new w _), by have := heap_alloc_new (w.alloc (.cells x e)) (.cells y f); simpa using this⟩

set_option maxHeartbeats 2000000 in
set_option maxRecDepth 100000 in
theorem macroWhole_walk (T : List (Tm × Value)) (ao : Option Addr) (cap : Nat) (hcap : T.length ≤ cap) (w : World) (hrow : Row w 8 ao (T.map tvC)) (hs : ∀ p ∈ T, SiteRd w p.2) :
    Calls Try.prog 4 #[.slice ao T.length cap] w fun e w' => e = .returned (.bool true) ∧ Below w.heap.size w w' := by
  have HF := mFew_any T ao cap 60 (by decide) hcap w hrow hs
  have HP := fun (h : T.length ≤ 60 ∧ ∀ p ∈ T, siteLen p.2 ≤ 20) => mParse_any T ao cap (by omega) hcap w hrow (fun p hp => (hs p hp).inn (h.2 p hp))
  obtain ⟨n, hn⟩ : ∃ n, n = T.length := ⟨_, rfl⟩
  have HN : Hid (T.length = n) := Lib.hid hn.symm
  rw [← hn] at hcap HF HP ⊢
  clear hn
  replace hs := Lib.hid hs
  replace HP := Lib.hid HP
  replace HF := Lib.hid HF
  go_enter Try.func4, Try.ntmps4
  go_wp2_with fail
  refine HF.out.mono ?_
  rintro e w1 ⟨b, rfl, hw, hfew⟩
  replace hw := hw.symm
  subst hw
  cases b with
  | false =>
    clear hfew
    go_wp2_with (go_at_call 13; refine (mAwake_any _).mono ?_; rintro e w' ⟨rfl, hb⟩)
    go_ret
    exact ⟨rfl, hb⟩
  | true =>
    have hf := hfew rfl
    have hn60 : n ≤ 60 := by have := hf.1; rw [HN.out] at this; exact this
    have HPa := HP.out (by rw [HN.out] at hf; exact hf)
    replace HPa := Lib.hid HPa
    replace hf := Lib.hid hf
    clear hfew
    go_wp2_with fail
    refine HPa.out.mono ?_
    rintro e w2 ⟨hb2, hp⟩
    cases hr : parseL (T.map (·.1)) with
    | inr x =>
      rw [hr] at hp
      obtain ⟨vd, rfl, hd⟩ := hp
      obtain ⟨g, cg, rfl, _⟩ := hd.cons_at (by simp)
      have hd8 := hd.below ((Below.refl _ w2).alloc (Nat.le_refl _) (.cells #[.string .empty, .bool false, .bool false, .slice none 0 0, .slice none 0 0, .string .empty, .int .i64 0, .int .i64 0] 29))
      obtain ⟨q5, o5, e5, hat5⟩ := hd8.here (by simp)
      simp only [Option.some.injEq, Addr.mk.injEq] at e5
      obtain ⟨rfl, rfl, _⟩ := e5
      have c5 := hat5.cell (i := 0) rfl (j := 0) (u := .int .i64 x.code) rfl
      simp only [Nat.zero_mul, Nat.add_zero] at c5
      have hc := parseL_code hr
      unfold mcC
      clear hd hd8 hat5
      replace hr := Lib.hid hr
      rcases hc with hc | hc
      all_goals
        rw [hc] at c5
        replace hc := Lib.hid hc
        go_wp2_with fail
        refine (mAwake_any _).mono ?_
        rintro e w8 ⟨rfl, hb8⟩
        go_wp2
        go_ret
        exact ⟨rfl, (hb2.alloc hb2.size _).trans (hb8.mono (by simp; exact Nat.le_succ_of_le hb2.size))⟩
    | inl m =>
      rw [hr] at hp
      obtain ⟨psv, bov, T', rfl, hP, hB, hTs, hS, _⟩ := hp
      obtain ⟨k, hW⟩ := parseL_whole hr
      obtain ⟨t, r, hTl, hname, hfile, hff, htt, hkind⟩ := hW.head
      obtain ⟨np, hnp⟩ : ∃ x, x = m.params.length := ⟨_, rfl⟩
      obtain ⟨nb, hnb⟩ : ∃ x, x = m.body.length := ⟨_, rfl⟩
      have hTl' : T'.length = nb := by rw [hnb, ← hTs, List.length_map]
      have hnk : nb = n - k := by rw [hnb, hW.len, List.length_map, HN.out]
      have hk1 := hW.k1
      have hkn : k ≤ n := by have := hW.k2; rw [List.length_map, HN.out] at this; exact this
      obtain ⟨pao, pcp, rfl, _, _, _, _⟩ := hP.rown (n := np) (by rw [hnp]; simp)
      obtain ⟨bao, bcp, rfl, hbc, _, _, _⟩ := hB.rown (n := nb) (by rw [List.length_map, hTl'])
      obtain ⟨⟨t', v⟩, R, hTc⟩ : ∃ p R, T = p :: R := by
        cases hT : T with
        | nil => rw [hT] at hTl; simp at hTl
        | cons p R => exact ⟨p, R, rfl⟩
      have htt' : t' = t := by
        rw [hTc] at hTl
        simp only [List.map_cons, List.cons.injEq] at hTl
        exact hTl.1
      subst htt'
      rw [hname, hfile, hff, htt]
      obtain ⟨W3, hW3⟩ : ∃ W3, W3 = w2.alloc (.cells #[.string t'.text, .bool m.fn, .bool m.va, .slice pao np pcp, .slice bao nb bcp, .string t'.file, .int .i64 t'.f, .int .i64 t'.t] 29) := ⟨_, rfl⟩
      have hb3 : Below w2.heap.size w2 W3 := by rw [hW3]; exact (Below.refl _ w2).alloc (Nat.le_refl _) _
      have hB3 : Below w.heap.size w W3 := hb2.trans (hb3.mono hb2.size)
      have hm3 : W3.heap[w2.heap.size]? = some (.cells #[.string t'.text, .bool m.fn, .bool m.va, .slice pao np pcp, .slice bao nb bcp, .string t'.file, .int .i64 t'.f, .int .i64 t'.t] 29 (0, 0)) := by rw [hW3]; exact heap_alloc_new w2 _
      have hbB := hB.below hb3
      have hS3 : Hid (∀ p ∈ T', ∃ css, Own W3 w.heap.size 126 5 p.2 css) := Lib.hid (fun p hp => let ⟨css, h⟩ := hS p hp; ⟨css, h.below hb3⟩)
      obtain ⟨rb, o, rfl, hat⟩ := (hrow.below hB3) (by rw [hTc]; simp)
      have hat0 := hat
      rw [hTc] at hat0
      obtain ⟨t0, t1, t2, t3, t4, t5, t6, t7⟩ := tok8 hat0
      rw [hkind] at t0
      have HA : Hid (∀ i, i < nb → ∃ a b va vb, T'[i]? = some (a, va) ∧ T[k + i]? = some (b, vb) ∧ SameTm i a b) := Lib.hid (by
        intro i hi
        obtain ⟨a, b, ha, hb, hs⟩ := hW.at (i := i) (by rw [← hnb]; exact hi)
        rw [← hTs, List.getElem?_map] at ha
        rw [List.getElem?_map] at hb
        cases h1 : T'[i]? with
        | none => rw [h1] at ha; simp at ha
        | some p1 =>
          cases h2 : T[k + i]? with
          | none => rw [h2] at hb; simp at hb
          | some p2 =>
            rw [h1] at ha
            rw [h2] at hb
            simp only [Option.map_some, Option.some.injEq] at ha hb
            subst ha hb
            exact ⟨p1.1, p2.1, p1.2, p2.2, rfl, rfl, hs⟩)
      have hplain := hW.plain
      have hfunc := hW.func
      have hmore := hW.more
      have hn0 : 0 < n := by omega
      have hn0i : (0 : Int) < n := by omega
      have hnz : ((n : Int) == 0) = false := by simp; omega
      replace hW := Lib.hid hW
      replace hr := Lib.hid hr
      replace hplain := Lib.hid hplain
      replace hfunc := Lib.hid hfunc
      replace hmore := Lib.hid hmore
      replace hnp := Lib.hid hnp
      replace hnb := Lib.hid hnb
      replace hnk := Lib.hid hnk
      replace hTc := Lib.hid hTc
      replace hTs := Lib.hid hTs
      replace hTl := Lib.hid hTl
      replace hTl' := Lib.hid hTl'
      replace hat := Lib.hid hat
      clear hat0 hP hB hS hb2 HPa HP HF hname hfile hff htt hkind
      obtain ⟨m0, m1, m2, m3, m4, m5, m6, m7⟩ := cells8 hm3
      unfold mcC
      go_upto_region 6 with fail
      rw [← hW3]
      replace hW3 := Lib.hid hW3
      generalize w2.heap.size = g1 at *
      go_cut [79] from 52 to 79 (fun s wx => s = .bool false ∧ Below W3.heap.size W3 wx)
      case first =>
        go_region
        all_goals
          go_wp2_with fail
          go_meet
          case rel => exact ⟨rfl, (Below.refl _ W3).drew⟩
      case rest =>
        obtain ⟨rfl, hbx⟩ := hcut
        have hB4 : Below w.heap.size w wc := hB3.trans (hbx.mono hB3.size)
        have hm4 := (hbx.block _ (lt_of_block hm3)).trans hm3
        have hbB4 := hbB.below hbx
        have hS4 : Hid (∀ p ∈ T', ∃ css, Own wc w.heap.size 126 5 p.2 css) := Lib.hid (fun p hp => let ⟨css, h⟩ := hS3.out p hp; ⟨css, h.below hbx⟩)
        have hat4 := hat.out.below hbx
        replace hat4 := Lib.hid hat4
        have hfk : m.fn = false → k = 1 ∧ np = 0 := fun h => by
          have := hplain.out h
          rw [hnp.out]
          exact ⟨this.1, by rw [this.2]; rfl⟩
        have hfk2 := hfunc.out
        have hnk2 : nb + k ≤ n := by have := hnk.out; omega
        have hnk3 : n ≤ nb + k := by have := hnk.out; omega
        have e1 : ¬ (n : Int) - 1 < nb := by omega
        clear m0 m1 m2 m3 m4 m5 m6 m7 t0 t1 t2 t3 t4 t5 t6 t7 hm3 hbB hS3 hat hB3 hbx
        obtain ⟨m0, m1, m2, m3, m4, m5, m6, m7⟩ := cells8 hm4
        go_upto_region 9 with fail
        go_cut [116] from 83 to 116 (fun s wx => s = .bool false ∧ wx = wc)
        case first =>
          by_cases hfn : m.fn = true
          · have h3 := hfk2 hfn
            have e4 : ¬ (n : Int) < 3 + nb := by omega
            rw [hfn] at m1
            replace hfn := Lib.hid hfn
            replace hfk := Lib.hid hfk
            replace hfk2 := Lib.hid hfk2
            go_wp2_with fail
            go_meet
            case rel => exact ⟨rfl, rfl⟩
          · have hfn' : m.fn = false := by simpa using hfn
            obtain ⟨hk1', hnp0⟩ := hfk hfn'
            obtain rfl : n = nb + 1 := by omega
            subst hnp0
            rw [hfn'] at m1
            clear hfn
            replace hfn' := Lib.hid hfn'
            replace hfk := Lib.hid hfk
            replace hfk2 := Lib.hid hfk2
            replace hk1' := Lib.hid hk1'
            go_wp2_with fail
            go_meet
            case rel => exact ⟨rfl, rfl⟩
        case rest =>
          obtain ⟨rfl, hwc⟩ := hcut
          subst hwc
          replace hfk := Lib.hid hfk
          replace hfk2 := Lib.hid hfk2
          go_wp2_with fail
          go_loopg [6] nb (fun u i wr => ∃ j : Nat, u = nb - j ∧ j ≤ nb ∧ i = .int .i64 j ∧ Below wc.heap.size wc wr)
          case atStart => exact ⟨0, rfl, Nat.zero_le _, rfl, Below.refl _ _⟩
          case round =>
            obtain ⟨j, rfl, hj, rfl, hbr⟩ := hrel
            have hm5 := (hbr.block _ (lt_of_block hm4)).trans hm4
            clear m0 m1 m2 m3 m4 m5 m6 m7
            have hmA : ∀ o, (wr.alloc o).heap[g1]? = _ := fun o => (Lib.alloc_old wr o g1 (lt_of_block hm5)).trans hm5
            by_cases hlt : j < nb
            · obtain ⟨a, b, va, vb, ha, hb, hsame⟩ := HA.out j hlt
              obtain ⟨acs, hao⟩ := hS4.out (a, va) (List.mem_of_getElem? ha)
              obtain ⟨ava, avc, hva, _⟩ := hao.rown (n := acs.length) rfl
              obtain ⟨bva, bvc, bcs, hvb, _⟩ := hs.out (b, vb) (List.mem_of_getElem? hb)
              simp only at hva hvb
              subst hva hvb
              obtain ⟨rb2, o2, rfl, hat2⟩ := (hbB4.below hbr).here (by intro h; rw [List.map_eq_nil_iff] at h; subst h; simp at ha)
              obtain ⟨a0, a1, a2, a3, a4, a5, a6, a7⟩ := tok8 (tok_at hat2 ha)
              obtain ⟨b0, b1, b2, b3, b4, b5, b6, b7⟩ := tok8 (tok_at (hat4.out.below hbr) hb)
              obtain ⟨an, han⟩ : ∃ x, x = acs.length := ⟨_, rfl⟩
              obtain ⟨bn, hbn⟩ : ∃ x, x = bcs.length := ⟨_, rfl⟩
              rw [← han] at a7
              rw [← hbn] at b7
              clear hao han hbn hat2 hmA
              replace ha := Lib.hid ha
              replace hb := Lib.hid hb
              obtain ⟨m0, m1, m2, m3, m4, m5, m6, m7⟩ := cells8 hm5
              have ho : ∀ o, Below wr.heap.size wr (wr.alloc o) := fun o => (Below.refl _ wr).alloc (Nat.le_refl _) o
              have ho2 : ∀ o o', Below wr.heap.size wr ((wr.alloc o).alloc o') := fun o o' => (ho o).alloc (by simp) o'
              have ya0 := fun o => kept_cell (ho o) a0
              have yb0 := fun o => kept_cell (ho o) b0
              have za0 := fun o o' => kept_cell (ho2 o o') a0
              have zb0 := fun o o' => kept_cell (ho2 o o') b0
              have ya1 := fun o => kept_cell (ho o) a1
              have yb1 := fun o => kept_cell (ho o) b1
              have za1 := fun o o' => kept_cell (ho2 o o') a1
              have zb1 := fun o o' => kept_cell (ho2 o o') b1
              have ya2 := fun o => kept_cell (ho o) a2
              have yb2 := fun o => kept_cell (ho o) b2
              have za2 := fun o o' => kept_cell (ho2 o o') a2
              have zb2 := fun o o' => kept_cell (ho2 o o') b2
              have ya3 := fun o => kept_cell (ho o) a3
              have yb3 := fun o => kept_cell (ho o) b3
              have za3 := fun o o' => kept_cell (ho2 o o') a3
              have zb3 := fun o o' => kept_cell (ho2 o o') b3
              have ya4 := fun o => kept_cell (ho o) a4
              have yb4 := fun o => kept_cell (ho o) b4
              have za4 := fun o o' => kept_cell (ho2 o o') a4
              have zb4 := fun o o' => kept_cell (ho2 o o') b4
              have ya5 := fun o => kept_cell (ho o) a5
              have yb5 := fun o => kept_cell (ho o) b5
              have za5 := fun o o' => kept_cell (ho2 o o') a5
              have zb5 := fun o o' => kept_cell (ho2 o o') b5
              have ya6 := fun o => kept_cell (ho o) a6
              have yb6 := fun o => kept_cell (ho o) b6
              have za6 := fun o o' => kept_cell (ho2 o o') a6
              have zb6 := fun o o' => kept_cell (ho2 o o') b6
              have ya7 := fun o => kept_cell (ho o) a7
              have yb7 := fun o => kept_cell (ho o) b7
              have za7 := fun o o' => kept_cell (ho2 o o') a7
              have zb7 := fun o o' => kept_cell (ho2 o o') b7
              have ym4 := fun o => kept_cell (ho o) m4
              have zm4 := fun o o' => kept_cell (ho2 o o') m4
              have q1 : IntKind.i64.wrap ((n : Int) - nb) = (n : Int) - nb := IntWalk.i64_in _ (by omega)
              have q2 : IntKind.i64.wrap ((n : Int) - nb + j) = (n : Int) - nb + j := IntWalk.i64_in _ (by omega)
              have q3 : (0 : Int) ≤ (n : Int) - nb + j := by omega
              have q4 : (n : Int) - nb + j < n := by omega
              have q5 : ((n : Int) - nb + j).toNat = k + j := by omega
              go_upto_region 14 with fail
              go_cut [7, 8] from 122 to 135 (fun s7 s8 wx => ∃ ga gb, s7 = .pointer (some ⟨ga, 0, none⟩) ∧ s8 = .pointer (some ⟨gb, 0, none⟩) ∧ wx.heap[ga]? = some (.cells #[.int .i64 a.kind, .string a.text, .bool a.sp, .string a.file, .int .i64 a.f, .int .i64 a.t, .bool a.made, .slice ava an avc] 43 (0, 0)) ∧ wx.heap[gb]? = some (.cells #[.int .i64 b.kind, .string b.text, .bool b.sp, .string b.file, .int .i64 b.f, .int .i64 b.t, .bool b.made, .slice bva bn bvc] 43 (0, 0)) ∧ Below wc.heap.size wc wx)
              case first =>
                go_region
                all_goals
                  go_wp2_with fail
                  go_meet
                  case rel =>
                    have hB2 := fun o o' => ((hbr.alloc hbr.size o).alloc (by have := hbr.size; simp; omega) o').drew
                    first
                      | exact ⟨_, _, rfl, rfl, (two_new wr _ _ _ _).1, (two_new wr _ _ _ _).2, hB2 _ _⟩
                      | exact ⟨_, _, rfl, rfl, (two_new wr _ _ _ _).2, (two_new wr _ _ _ _).1, hB2 _ _⟩
              case rest =>
                obtain ⟨ga, gb, rfl, rfl, hga, hgb, hbX⟩ := hcut
                clear ya0 yb0 za0 zb0 a0 b0 m0
                clear ya1 yb1 za1 zb1 a1 b1 m1
                clear ya2 yb2 za2 zb2 a2 b2 m2
                clear ya3 yb3 za3 zb3 a3 b3 m3
                clear ya4 yb4 za4 zb4 a4 b4 m4
                clear ya5 yb5 za5 zb5 a5 b5 m5
                clear ya6 yb6 za6 zb6 a6 b6 m6
                clear ya7 yb7 za7 zb7 a7 b7 m7
                obtain ⟨s1, s2, s3, s4, s5, s6, s7⟩ := hsame
                rw [← s1, ← s2, ← s3, ← s4, ← s5] at hgb
                obtain ⟨a0, a1, a2, a3, a4, a5, a6, a7⟩ := cells8 hga
                obtain ⟨b0, b1, b2, b3, b4, b5, b6, b7⟩ := cells8 hgb
                clear ym4 zm4 hga hgb s1 s2 s3 s4 s5
                by_cases hj0 : j = 0
                · have hs7 := s7 hj0
                  rw [hs7] at a2
                  have hji : ¬ 0 < j := by omega
                  have hjz : ((j : Int) == 0) = true := by simp [hj0]
                  clear s6 s7
                  replace hs7 := Lib.hid hs7
                  replace hj0 := Lib.hid hj0
                  go_wp2_with fail
                  go_roundg (nb - (j + 1))
                  case measure => omega
                  case rel => exact ⟨j + 1, rfl, by omega, by go_num, hbX⟩
                · have hs6 := s6 (by omega)
                  rw [← hs6] at b2
                  have hji : 0 < j := by omega
                  have hjz : ((j : Int) == 0) = false := by simp; omega
                  clear s6 s7
                  replace hs6 := Lib.hid hs6
                  go_wp2_with fail
                  go_roundg (nb - (j + 1))
                  case measure => omega
                  case rel => exact ⟨j + 1, rfl, by omega, by go_num, hbX⟩
            · have hjn : j = nb := by omega
              subst hjn
              have hmr := hmore.out
              obtain ⟨m0, m1, m2, m3, m4, m5, m6, m7⟩ := cells8 hm5
              have hB5 := hB4.trans (hbr.mono hB4.size)
              clear hmA
              by_cases hva : m.va = true
              · obtain ⟨hfn, hpn⟩ := hmr hva
                have hnp0 : 0 < np := by
                  rw [hnp.out]
                  cases hp0 : m.params with
                  | nil => exact absurd hp0 hpn
                  | cons => simp
                have hnpi : (0 : Int) < np := by omega
                rw [hva] at m2
                rw [hfn] at m1
                clear hmr hpn hva hfn
                go_wp2_with fail
                refine (mAwake_any _).mono ?_
                rintro e w8 ⟨rfl, hb8⟩
                go_wp2
                go_ret
                exact ⟨rfl, hB5.trans (hb8.mono hB5.size)⟩
              · have hva' : m.va = false := by simpa using hva
                rw [hva'] at m2
                clear hmr hva hva'
                go_wp2_with fail
                refine (mAwake_any _).mono ?_
                rintro e w8 ⟨rfl, hb8⟩
                go_wp2
                go_ret
                exact ⟨rfl, hB5.trans (hb8.mono hB5.size)⟩
end Go.Proofs.Ythbicbfdldpemaa
