/- Texts of this seat's proofs, laid into one file. -/
import Derived.Test.YtfaoamdlknlgpaaGreatArgsCollectDoneG31
import Derived.Test.YtfaoamdlknlgpaaGreatArgsCollectDoneG32
import Derived.Test.YtfaoamdlknlgpaaGreatArgsCollectDoneG30
import Derived.Test.YtfaoamdlknlgpaaGreatArgsCollectDoneG44
import Derived.Test.YtfaoamdlknlgpaaGreatArgsCollectDoneG45
/- ArgsCollect: the walk. -/
namespace Go.Proofs.YtfaoamdlknlgpaaGreat
open Go.RowKit
set_option linter.unusedVariables false

theorem OwnLs.below {XX : List (List Tf)} {B : Nat} {v : Value} {w w' : World} (h : OwnLs XX B v w) (hb : Below w.heap.size w w') : OwnLs XX B v w' := by
  obtain ⟨vs, h1, h2, h3⟩ := h
  exact ⟨vs, h1.below hb, h2, fun i u X hu hX => (h3 i u X hu hX).below hb⟩

theorem rest_mem (pl : Nat) (CC : List Tf) {x : Tf} : ∀ (XX : List (List Tf)) (i : Nat), x ∈ restF pl CC i XX → x ∈ CC ∨ ∃ X ∈ XX, x ∈ X
  | [], i, h => by simp [restF] at h
  | X :: r, i, h => by
    rw [restF, List.mem_append, List.mem_append] at h
    rcases h with (h | h) | h
    · split at h
      · cases hc : CC[pl + i - 1]? with
        | none => rw [hc] at h; simp at h
        | some y =>
          rw [hc] at h
          simp at h
          subst h
          exact .inl (List.mem_of_getElem? hc)
      · simp at h
    · exact .inr ⟨X, by simp, h⟩
    · rcases rest_mem pl CC r (i + 1) h with h | ⟨Y, hY, hy⟩
      · exact .inl h
      · exact .inr ⟨Y, by simp [hY], hy⟩

theorem fit_mem {np : Nat} {va : Bool} {XX : List (List Tf)} {CC : List Tf} {Y : List Tf} {x : Tf} (hY : Y ∈ (fitP np va XX CC).1) (hx : x ∈ Y) : x ∈ CC ∨ ∃ X ∈ XX, x ∈ X := by
  unfold fitP at hY
  split at hY
  · cases hY
  · rcases List.mem_append.1 hY with h | h
    · exact .inr ⟨Y, List.mem_of_mem_take h, hx⟩
    · split at h
      · simp only [List.mem_singleton] at h
        subst h
        rcases rest_mem _ CC _ 0 hx with h | ⟨X, hX, hx'⟩
        · exact .inl h
        · exact .inr ⟨X, List.mem_of_mem_drop hX, hx'⟩
      · cases h

theorem fit_len {np : Nat} {va : Bool} {XX : List (List Tf)} {CC : List Tf} {m : Nat} (hm : XX.length ≤ m) (hX : ∀ X ∈ XX, X.length ≤ m) : (fitP np va XX CC).1.length ≤ m + 1 ∧ ∀ Y ∈ (fitP np va XX CC).1, Y.length ≤ m * (m + 1) + m := by
  unfold fitP
  split
  · exact ⟨Nat.zero_le _, by simp⟩
  · refine ⟨?_, fun Y hY => ?_⟩
    · simp only [List.length_append, List.length_take]
      split <;> simp <;> omega
    · rcases List.mem_append.1 hY with h | h
      · have := hX Y (List.mem_of_mem_take h); omega
      · split at h
        · simp only [List.mem_singleton] at h
          subst h
          have h1 := restF_len (shapeL np va XX.length (emptyB XX)).1 CC (m := m) (XX.drop (shapeL np va XX.length (emptyB XX)).1) 0 (fun X hX' => hX X (List.mem_of_mem_drop hX'))
          have h2 : (XX.drop (shapeL np va XX.length (emptyB XX)).1).length ≤ m := by rw [List.length_drop]; omega
          have h3 := Nat.mul_le_mul_right (m + 1) h2
          omega
        · cases h
set_option maxRecDepth 100000 in
set_option maxHeartbeats 4000000 in
theorem argsCollect_walk (T : List (Tm × Value)) (ao : Option Addr) (cap : Nat) (hcap : T.length ≤ cap) (name : ByteArray) (fn va : Bool) (ws : List ByteArray) (pao : Option Addr) (pcap : Nat) (bao : Option Addr) (bn bcap : Nat) (file : ByteArray) (f t : Int) (hpc : ws.length ≤ pcap) (hpm : pcap ≤ maxLen) (w : World) (hrow : Row w 8 ao (T.map tvC)) (hs : ∀ p ∈ T, SiteRd w p.2) (hprow : Row w 1 pao (ws.map fun p => [.string p])) :
    Calls Tryz.prog 6 #[.slice ao T.length cap, .agg #[.string name, .bool fn, .bool va, .slice pao ws.length pcap, .slice bao bn bcap, .string file, .int .i64 f, .int .i64 t]] w fun e w' => e = .returned (.bool true) ∧ Below w.heap.size w w' := by
  obtain ⟨np, hnp⟩ : ∃ np, np = ws.length := ⟨_, rfl⟩
  have HNp : Hid (ws.length = np) := Lib.hid hnp.symm
  obtain ⟨W1, hW1⟩ : ∃ W1, W1 = w.alloc (.cells #[.string name, .bool fn, .bool va, .slice pao np pcap, .slice bao bn bcap, .string file, .int .i64 f, .int .i64 t] 47) := ⟨_, rfl⟩
  have b1 : Hid (Below w.heap.size w W1) := Lib.hid (by rw [hW1]; exact (Below.refl _ w).alloc (Nat.le_refl _) _)
  have hbx : Hid (W1.heap[w.heap.size]? = some (.cells #[.string name, .bool fn, .bool va, .slice pao np pcap, .slice bao bn bcap, .string file, .int .i64 f, .int .i64 t] 47 (0, 0))) := Lib.hid (by rw [hW1]; exact heap_alloc_new w _)
  have hs1 : ∀ p ∈ T, SiteRd W1 p.2 := fun p hp => by
    obtain ⟨a, c, css, h1, h2, h3, h4⟩ := hs p hp
    exact ⟨a, c, css, h1, h2, h3.below b1.out, h4⟩
  have HF := mFew_any T ao cap 60 (by decide) hcap W1 (hrow.below b1.out) hs1
  have HX : (T.length ≤ 60 ∧ ∀ p ∈ T, siteLen p.2 ≤ 20 ∧ p.1.text.size ≤ 300) → ∃ X : List Tf, X.length = T.length ∧ (∀ (i : Nat) p x, T[i]? = some p → X[i]? = some x → p.1 = x.1 ∧ SiteIn w p.2 x.2 ∧ SiteTy x.2) := fun h => sites_of T hs (fun p hp => (h.2 p hp).1)
  have HSh := short_any ws pao pcap 200 (by decide) hpc (by omega) W1 (hprow.below b1.out)
  have hshl : shortL ws 200 = true → ws.length ≤ 200 := by
    intro h
    unfold shortL at h
    have := of_decide_eq_true h
    omega
  obtain ⟨n, hn⟩ : ∃ n, n = T.length := ⟨_, rfl⟩
  have HN : Hid (T.length = n) := Lib.hid hn.symm
  rw [← hn] at hcap HF ⊢
  rw [← hnp] at HSh hshl ⊢
  generalize shortL ws 200 = sb at HSh hshl
  clear hn hnp hs hs1 hpc hpm hprow
  replace hrow := Lib.hid hrow
  replace HX := Lib.hid HX
  replace HF := Lib.hid HF
  replace HSh := Lib.hid HSh
  replace hshl := Lib.hid hshl
  have HA := Lib.hid (fun W => awake10_any W)
  obtain ⟨x0, x1, x2, x3, x4, x5, x6, x7⟩ := cells8 hbx.out
  go_enter Tryz.func6, Tryz.ntmps6
  go_wp2_with fail
  rw [← hW1]
  replace hW1 := Lib.hid hW1
  refine HF.out.mono ?_
  rintro e w1 ⟨b, rfl, hw, hfew⟩
  replace hw := hw.symm
  subst hw
  replace hfew := Lib.hid hfew
  cases b with
  | false =>
    go_wp2_with fail
    refine (HA.out _).mono ?_
    rintro e w' ⟨rfl, hb⟩
    have hB := b1.out.trans (hb.mono b1.out.size)
    go_wp2
    go_ret
    exact ⟨rfl, hB⟩
  | true =>
    go_wp2_with fail
    refine HSh.out.mono ?_
    rintro e w2 ⟨rfl, hw⟩
    replace hw := hw.symm
    subst hw
    cases sb with
    | false =>
      go_wp2_with fail
      refine (HA.out _).mono ?_
      rintro e w' ⟨rfl, hb⟩
      have hB := b1.out.trans (hb.mono b1.out.size)
      go_wp2
      go_ret
      exact ⟨rfl, hB⟩
    | true =>
      obtain ⟨X, hXl, hs⟩ := HX.out (hfew.out trivial)
      have hn60 : n ≤ 60 := by have := (hfew.out trivial).1; rw [HN.out] at this; exact this
      have hnp2 := hshl.out rfl
      have hXn : X.length = n := hXl.trans HN.out
      have hs1 : ∀ (i : Nat) p x, T[i]? = some p → X[i]? = some x → p.1 = x.1 ∧ SiteIn W1 p.2 x.2 := fun i p x hp hx => ⟨(hs i p x hp hx).1, (hs i p x hp hx).2.1.below b1.out⟩
      have hok : ∀ x ∈ X, SitesOk x.2 ∧ SiteTy x.2 := by
        intro x hx
        obtain ⟨i, hi⟩ := List.getElem?_of_mem hx
        obtain ⟨p, hp⟩ : ∃ p, T[i]? = some p := ⟨_, List.getElem?_eq_getElem (by rw [← hXl]; exact (List.getElem?_eq_some_iff.1 hi).1)⟩
        exact ⟨(hs i p x hp hi).2.1.ok, (hs i p x hp hi).2.2⟩
      have HC1 := collect_any X T ao cap (by rw [HN.out]; omega) (by rw [HN.out]; exact hcap) W1 (hrow.out.below b1.out) hXl.symm hs1
      have HC2 := fun W (hW : Below W1.heap.size W1 W) => rCollect_any X T ao cap (by rw [HN.out]; omega) (by rw [HN.out]; exact hcap) W ((hrow.out.below b1.out).below hW) hXl.symm (fun i p x hp hx => ⟨(hs1 i p x hp hx).1, (hs1 i p x hp hx).2.below hW⟩)
      rw [HN.out] at HC1 HC2
      -- what both give
      obtain ⟨XX, CC, u, hcol⟩ : ∃ XX CC u, colP X = (XX, CC, u) := ⟨_, _, _, rfl⟩
      have hXX : (∀ Y ∈ XX, ∀ x ∈ Y, x ∈ X) ∧ (∀ x ∈ CC, x ∈ X) ∧ XX.length ≤ n ∧ CC.length ≤ n ∧ (∀ Y ∈ XX, Y.length ≤ n) := by
        cases hr : partsL (X.map (·.1)) with
        | none =>
          rw [col_none hr] at hcol
          simp only [Prod.mk.injEq] at hcol
          obtain ⟨rfl, rfl, rfl⟩ := hcol
          simp
        | some r =>
          have e : colP X = (argsOf X r.1, commasOf X r.1, r.2) := by unfold colP colL; rw [hr]; rfl
          rw [e] at hcol
          simp only [Prod.mk.injEq] at hcol
          obtain ⟨rfl, rfl, rfl⟩ := hcol
          have hct := partsL_cnt hr
          rw [List.length_map, hXn] at hct
          refine ⟨fun Y hY x hx => args_mem hY hx, fun x hx => commas_mem hx, by unfold argsOf; rw [List.length_map]; exact hct, ?_, fun Y hY => ?_⟩
          · have h1 : (commasOf X r.1).length ≤ (r.1.drop 1).length := List.length_filterMap_le _ _
            rw [List.length_drop] at h1
            omega
          · obtain ⟨p, _, rfl⟩ := List.mem_map.1 hY
            rw [List.length_take, List.length_drop, hXn]
            omega
      obtain ⟨m1, m2, m3, m4, m5⟩ := hXX
      have hflen := fit_len (np := np) (va := va) (XX := XX) (CC := CC) (m := 60) (by omega) (fun Y hY => by have := m5 Y hY; omega)
      have hfty : ∀ Y ∈ (fitP np va XX CC).1, Y.length ≤ 1000000 ∧ TyX Y := fun Y hY => ⟨by have := hflen.2 Y hY; omega, fun x hx => by
        rcases fit_mem hY hx with h | ⟨Z, hZ, h⟩
        · exact (hok x (m2 x h)).2
        · exact (hok x (m1 Z hZ x h)).2⟩
      have hfok : ∀ Y ∈ (fitP np va XX CC).1, ∀ x ∈ Y, SitesOk x.2 := fun Y hY x hx => by
        rcases fit_mem hY hx with h | ⟨Z, hZ, h⟩
        · exact (hok x (m2 x h)).1
        · exact (hok x (m1 Z hZ x h)).1
      have HFe : Hid (∀ (W : World) (v2 v3 : Value) (B : Nat), OwnLs XX B v2 W → OwnT CC B v3 W → Calls Tryz.prog 28 #[.agg #[.string name, .bool fn, .bool va, .slice pao np pcap, .slice bao bn bcap, .string file, .int .i64 f, .int .i64 t], v2, v3] W fun e w' => (∃ v, e = .returned (.tuple #[v, .bool (fitP np va XX CC).2]) ∧ OwnLs (fitP np va XX CC).1 W.heap.size v w') ∧ Below W.heap.size W w') := Lib.hid fun W v2 v3 B h2 h3 => by
        by_cases hne : XX = []
        · have hCe : CC = [] := by
            cases hr : partsL (X.map (·.1)) with
            | none =>
              rw [col_none hr] at hcol
              simp only [Prod.mk.injEq] at hcol
              exact hcol.2.1.symm
            | some r =>
              have e : colP X = (argsOf X r.1, commasOf X r.1, r.2) := by unfold colP colL; rw [hr]; rfl
              rw [e] at hcol
              simp only [Prod.mk.injEq] at hcol
              have hz := (partsL_ok hr).2.1
              rw [hne] at hcol
              have := congrArg List.length hcol.1
              unfold argsOf at this
              rw [List.length_map] at this
              exact absurd (List.eq_nil_of_length_eq_zero this) hz
          subst hne hCe
          obtain ⟨a2, c2, rfl⟩ := h2.slice (n := 0) rfl
          obtain ⟨a3, c3, rfl⟩ := h3.slice (n := 0) rfl
          exact fit_none name fn va pao np pcap (.slice bao bn bcap) file f t a2 c2 a3 c3 (by omega) W
        · exact fit_any XX CC name fn va pao np pcap (.slice bao bn bcap) file f t v2 v3 (by omega) (by omega) (by omega) (fun Y hY => by have := m5 Y hY; omega) hne W (h2.inn fun Y hY x hx => (hok x (m1 Y hY x hx)).1) (h3.toks fun x hx => (hok x (m2 x hx)).1)
      have HFr : Hid (∀ (W : World) (v2 v3 : Value), LsIn W v2 XX → ToksIn W v3 CC → Calls Tryz.prog 30 #[.agg #[.string name, .bool fn, .bool va, .slice pao np pcap, .slice bao bn bcap, .string file, .int .i64 f, .int .i64 t], v2, v3] W fun e w' => (∃ v, e = .returned (.tuple #[v, .bool (fitP np va XX CC).2]) ∧ LsIn w' v (fitP np va XX CC).1) ∧ Below W.heap.size W w') := Lib.hid fun W v2 v3 h2 h3 =>
        rFit_any XX CC name fn va pao np pcap (.slice bao bn bcap) file f t v2 v3 (by omega) (by omega) (by omega) (fun Y hY => by have := m5 Y hY; omega) W h2 h3
      have HL1 : Hid (∀ (W : World) (v1 v2 : Value), LsIn W v1 XX → LsIn W v2 XX → Calls Tryz.prog 26 #[v1, v2] W fun e w' => e = .returned (.bool true) ∧ Below W.heap.size W w') := Lib.hid fun W v1 v2 h1 h2 => listsT_any XX v1 v2 (by omega) (fun Y hY => ⟨by have := m5 Y hY; omega, fun x hx => (hok x (m1 Y hY x hx)).2⟩) W h1 h2
      have HT1 : Hid (∀ (W : World) (v1 v2 : Value), ToksIn W v1 CC → ToksIn W v2 CC → Calls Tryz.prog 27 #[v1, v2] W fun e w' => e = .returned (.bool true) ∧ Below W.heap.size W w') := Lib.hid fun W v1 v2 h1 h2 => sameToksT_any CC v1 v2 (by omega) (fun x hx => (hok x (m2 x hx)).2) W h1 h2
      have HL2 : Hid (∀ (W : World) (v1 v2 : Value), LsIn W v1 (fitP np va XX CC).1 → LsIn W v2 (fitP np va XX CC).1 → Calls Tryz.prog 26 #[v1, v2] W fun e w' => e = .returned (.bool true) ∧ Below W.heap.size W w') := Lib.hid fun W v1 v2 h1 h2 => listsT_any _ v1 v2 (by have := hflen.1; omega) hfty W h1 h2
      have HMd := Lib.hid (fun W => made10_any name fn va (.slice pao np pcap) (.slice bao bn bcap) file f t ⟨_, _, _, rfl⟩ ⟨_, _, _, rfl⟩ W)
      have hokX : Hid (∀ Y ∈ XX, ∀ x ∈ Y, SitesOk x.2) := Lib.hid fun Y hY x hx => (hok x (m1 Y hY x hx)).1
      have hokC : Hid (∀ x ∈ CC, SitesOk x.2) := Lib.hid fun x hx => (hok x (m2 x hx)).1
      rw [hcol] at HC1 HC2
      replace HC1 := Lib.hid HC1
      replace HC2 := Lib.hid HC2
      replace hfok := Lib.hid hfok
      clear hcol m1 m2 m3 m4 m5 hflen hfty hok hs hs1 hXl hXn hfew
      generalize fitP np va XX CC = FP at HFe HFr HL2 hfok
      obtain ⟨F, fb⟩ := FP
      go_wp2_with fail
      refine HC1.out.mono ?_
      rintro e w2 ⟨⟨v2, v3, rfl, ho2, ho3⟩, hb2⟩
      have hdb : (decide (0 < u) != decide (0 < u)) = false := by simp
      have hdb2 : (fb == fb) = true := by simp
      replace ho2 := Lib.hid ho2
      replace ho3 := Lib.hid ho3
      clear x0 x1 x2 x3 x4 x5 x6 x7
      replace hb2 := Lib.hid hb2
      go_wp2_with fail
      refine (HC2.out w2 hb2.out).mono ?_
      rintro e w3 ⟨⟨y2, y3, rfl, hl2, hl3⟩, hb3⟩
      have hB3 := Lib.hid (hb2.out.trans (hb3.mono hb2.out.size))
      have ho2' := Lib.hid (ho2.out.below hb3)
      have ho3' := Lib.hid (ho3.out.below hb3)
      replace hl2 := Lib.hid hl2
      replace hl3 := Lib.hid hl3
      clear hb3
      go_wp2_with fail
      refine (HL1.out w3 v2 y2 (ho2'.out.inn hokX.out) hl2.out).mono ?_
      rintro e w4 ⟨rfl, b4⟩
      replace b4 := Lib.hid b4
      go_wp2_with fail
      refine (HT1.out w4 v3 y3 ((ho3'.out.toks hokC.out).below b4.out) (hl3.out.below b4.out)).mono ?_
      rintro e w5 ⟨rfl, b5⟩
      have b35 := Lib.hid (b4.out.trans (b5.mono b4.out.size))
      have hB5 := Lib.hid (hB3.out.trans (b35.out.mono hB3.out.size))
      clear b4 b5
      obtain ⟨x0, x1, x2, x3, x4, x5, x6, x7⟩ := cells8 ((hB5.out.block _ (lt_of_block hbx.out)).trans hbx.out)
      go_wp2_with fail
      refine (HMd.out w5).mono ?_
      rintro e w6 ⟨rfl, b6⟩
      have b36 := Lib.hid (b35.out.trans (b6.mono b35.out.size))
      clear b6
      go_wp2_with fail
      refine (HFe.out w6 v2 v3 _ (ho2'.out.below b36.out) (ho3'.out.below b36.out)).mono ?_
      rintro e w7 ⟨⟨z1, rfl, hF1⟩, b7⟩
      have b37 := Lib.hid (b36.out.trans (b7.mono b36.out.size))
      have hB7 := Lib.hid (hB3.out.trans (b37.out.mono hB3.out.size))
      replace hF1 := Lib.hid hF1
      clear b7 x0 x1 x2 x3 x4 x5 x6 x7
      obtain ⟨x0, x1, x2, x3, x4, x5, x6, x7⟩ := cells8 ((hB7.out.block _ (lt_of_block hbx.out)).trans hbx.out)
      go_wp2_with fail
      refine (HFr.out w7 y2 y3 (hl2.out.below b37.out) (hl3.out.below b37.out)).mono ?_
      rintro e w8 ⟨⟨z2, rfl, hF2⟩, b8⟩
      replace hF2 := Lib.hid hF2
      replace b8 := Lib.hid b8
      clear x0 x1 x2 x3 x4 x5 x6 x7
      go_wp2_with fail
      refine (HL2.out w8 z1 z2 ((hF1.out.below b8.out).inn hfok.out) hF2.out).mono ?_
      rintro e w9 ⟨rfl, b9⟩
      have b79 := Lib.hid (b8.out.trans (b9.mono b8.out.size))
      clear b9
      go_wp2_with fail
      refine (HA.out w9).mono ?_
      rintro e w10 ⟨rfl, b10⟩
      have hB9 := hB7.out.trans (b79.out.mono hB7.out.size)
      have hB10 := b1.out.trans ((hB9.trans (b10.mono hB9.size)).mono b1.out.size)
      go_wp2
      go_ret
      exact ⟨by simp, hB10⟩
end Go.Proofs.YtfaoamdlknlgpaaGreat
