/- Texts of this seat's proofs, laid into one file. -/
import Derived.Test.YtfaoamdlknlgpaaGreatSubstPasteDoneG43
import Derived.Test.YtfaoamdlknlgpaaGreatSubstPasteDoneG25
/- SubstPaste: the walk. -/
namespace Go.Proofs.YtfaoamdlknlgpaaGreat
open Go.RowKit
set_option linter.unusedVariables false

theorem SiteRd.both {w : World} {v : Value} (h : SiteRd w v) (hl : siteLen v ≤ 20) : ∃ css, SiteIn w v css ∧ SiteTy css ∧ SitesOk css := by
  obtain ⟨ao, cap, css, rfl, h2, h3, h4, h5, h6⟩ := h
  have hl' : css.length ≤ 20 := hl
  exact ⟨css, ⟨ao, cap, rfl, by omega, h2, h3, h4, h5⟩, h6, ⟨by omega, h4, h5⟩⟩

theorem SiteRd.slv {w : World} {v : Value} (h : SiteRd w v) : SlV v := by
  obtain ⟨ao, cap, css, rfl, _⟩ := h
  exact ⟨ao, _, cap, rfl⟩

theorem SiteRd.below {w w' : World} {v : Value} (h : SiteRd w v) (hb : Below w.heap.size w w') : SiteRd w' v := by
  obtain ⟨ao, cap, css, h1, h2, h3, h4⟩ := h
  exact ⟨ao, cap, css, h1, h2, h3.below hb, h4⟩

/-- what both pastes give: the same token, with the same sites -/
theorem pastes_same (ta tb : Tm) (va vb : Value) (css : List (List Value)) (hsz : ta.text.size + tb.text.size ≤ 1000) (hok : SitesOk css) (hslb : SlV vb) : ∃ (tk : Tm) (ok : Bool) (cs : List (List Value)), (cs = css ∨ cs = []) ∧ (ok = true → tk.text = ta.text ++ tb.text ∧ tk.sp = ta.sp ∧ tk.file = ta.file ∧ tk.f = ta.f ∧ tk.t = ta.t ∧ tk.made = true) ∧
    (∀ w, SiteIn w va css → Calls Tryz.prog 33 #[.agg (tmC ta va).toArray, .agg (tmC tb vb).toArray] w fun e w' => (∃ sa sn sc, e = .returned (.tuple #[.agg (tmC tk (.slice sa sn sc)).toArray, .bool ok]) ∧ SiteIn w' (.slice sa sn sc) cs) ∧ Below w.heap.size w w') ∧
    (∀ w, SiteIn w va css → Calls Tryz.prog 34 #[.agg (tmC ta va).toArray, .agg (tmC tb vb).toArray] w fun e w' => (∃ sa sn sc, e = .returned (.tuple #[.agg (tmC tk (.slice sa sn sc)).toArray, .bool ok]) ∧ SiteIn w' (.slice sa sn sc) cs) ∧ Below w.heap.size w w') := by
  cases ho : oneK (ta.text ++ tb.text).data.toList with
  | none =>
    have hr : oneR (ta.text ++ tb.text).data.toList = none := by rw [← one_same, ho]
    refine ⟨⟨0, ⟨#[]⟩, false, ⟨#[]⟩, 0, 0, false⟩, false, [], .inr rfl, by simp, fun w hw => ?_, fun w hw => ?_⟩
    · refine (sPaste_any ta tb va vb css hsz w hw hslb).mono ?_
      rintro e w' ⟨h, hb⟩
      unfold PastePost at h
      rw [ho] at h
      exact ⟨⟨none, 0, 0, h, SiteIn.nil _⟩, hb⟩
    · obtain ⟨ao, cap, hva, _⟩ := id hw
      refine (rPaste_any ta tb va vb hsz w ⟨ao, _, cap, hva⟩ hslb).mono ?_
      rintro e w' ⟨h, hb⟩
      unfold RPastePost at h
      rw [hr] at h
      exact ⟨⟨none, 0, 0, h, SiteIn.nil _⟩, hb⟩
  | some k =>
    have hr : oneR (ta.text ++ tb.text).data.toList = some k := by rw [← one_same, ho]
    refine ⟨⟨k, ta.text ++ tb.text, ta.sp, ta.file, ta.f, ta.t, true⟩, true, css, .inl rfl, fun _ => ⟨rfl, rfl, rfl, rfl, rfl, rfl⟩, fun w hw => ?_, fun w hw => ?_⟩
    · refine (sPaste_any ta tb va vb css hsz w hw hslb).mono ?_
      rintro e w' ⟨h, hb⟩
      unfold PastePost at h
      rw [ho] at h
      obtain ⟨v', h1, h2⟩ := h
      obtain ⟨sa, sc, rfl, _⟩ := h2.row
      exact ⟨⟨sa, _, sc, h1, own_siteIn h2 hok⟩, hb⟩
    · obtain ⟨ao, cap, hva, _⟩ := id hw
      refine (rPaste_any ta tb va vb hsz w ⟨ao, _, cap, hva⟩ hslb).mono ?_
      rintro e w' ⟨h, hb⟩
      unfold RPastePost at h
      rw [hr] at h
      subst hva
      exact ⟨⟨ao, _, cap, h, hw.below hb⟩, hb⟩

set_option maxHeartbeats 4000000 in
set_option maxRecDepth 100000 in
theorem substPaste_walk (ta tb : Tm) (va vb : Value) (w : World) (hsa : SiteRd w va) (hsb : SiteRd w vb) :
    Calls Tryz.prog 8 #[.agg (tmC ta va).toArray, .agg (tmC tb vb).toArray] w fun e w' => e = .returned (.bool true) ∧ Below w.heap.size w w' := by
  obtain ⟨aa, an, ac, hva⟩ := hsa.slv
  obtain ⟨ba, bn, bc, hvb⟩ := hsb.slv
  subst hva hvb
  have HPP := fun css h1 h2 => pastes_same ta tb (.slice aa an ac) (.slice ba bn bc) css h1 h2 hsb.slv
  have HAw := awake11_any
  have hsm := fun tm v1 v2 css w h1 h2 h3 => sameTok_any tm v1 v2 css w h1 h2 h3
  have HFw := fun W hr hs => mFew_any [(ta, .slice aa an ac), (tb, .slice ba bn bc)] (some ⟨w.heap.size + 2, 0, none⟩) 2 2 (by decide) (by simp) W hr hs
  obtain ⟨ka, xa, pa, fa, f1, t1, ma⟩ := ta
  obtain ⟨kb, xb, pb, fb, f2, t2, mb⟩ := tb
  unfold tmC at *
  simp only at *
  obtain ⟨W1, hW1⟩ : ∃ W1, W1 = w.alloc (.cells #[.int .i64 ka, .string xa, .bool pa, .string fa, .int .i64 f1, .int .i64 t1, .bool ma, .slice aa an ac] 34) := ⟨_, rfl⟩
  obtain ⟨W2, hW2⟩ : ∃ W2, W2 = W1.alloc (.cells #[.int .i64 kb, .string xb, .bool pb, .string fb, .int .i64 f2, .int .i64 t2, .bool mb, .slice ba bn bc] 34) := ⟨_, rfl⟩
  have hs1 : W1.heap.size = w.heap.size + 1 := by rw [hW1]; simp
  have hs2 : W2.heap.size = w.heap.size + 2 := by rw [hW2]; simp [hs1]
  have b1 : Below w.heap.size w W1 := by rw [hW1]; exact (Below.refl _ w).alloc (Nat.le_refl _) _
  have b2 : Below w.heap.size w W2 := by rw [hW2]; exact b1.alloc b1.size _
  have hA2 : W2.heap[w.heap.size]? = some (.cells #[.int .i64 ka, .string xa, .bool pa, .string fa, .int .i64 f1, .int .i64 t1, .bool ma, .slice aa an ac] 34 (0, 0)) := by
    rw [hW2]
    refine (Lib.alloc_old _ _ _ (by omega)).trans ?_
    rw [hW1]
    exact heap_alloc_new w _
  have hB2 : W2.heap[w.heap.size + 1]? = some (.cells #[.int .i64 kb, .string xb, .bool pb, .string fb, .int .i64 f2, .int .i64 t2, .bool mb, .slice ba bn bc] 34 (0, 0)) := by rw [hW2, ← hs1]; exact heap_alloc_new W1 _
  obtain ⟨W3, hW3⟩ : ∃ W3, W3 = W2.alloc (.cells #[.int .i64 ka, .string xa, .bool pa, .string fa, .int .i64 f1, .int .i64 t1, .bool ma, .slice aa an ac, .int .i64 kb, .string xb, .bool pb, .string fb, .int .i64 f2, .int .i64 t2, .bool mb, .slice ba bn bc] 34) := ⟨_, rfl⟩
  have b23 : Below W2.heap.size W2 W3 := by rw [hW3]; exact (Below.refl _ W2).alloc (Nat.le_refl _) _
  have b3 : Below w.heap.size w W3 := b2.trans (b23.mono b2.size)
  have hA3 := (b23.block _ (lt_of_block hA2)).trans hA2
  have hB3 := (b23.block _ (lt_of_block hB2)).trans hB2
  have hrow3 : Row W3 8 (some ⟨w.heap.size + 2, 0, none⟩) ([(⟨ka, xa, pa, fa, f1, t1, ma⟩, .slice aa an ac), (⟨kb, xb, pb, fb, f2, t2, mb⟩, .slice ba bn bc)].map tvC) := by
    rw [hW3]
    refine row_new W2 (sz := 8) ?_ _ ?_ hs2.symm
    · intro c hc
      obtain ⟨q, _, rfl⟩ := List.mem_map.1 hc
      rfl
    · rfl
  have HF3 := HFw W3 hrow3 (by
    intro q hq
    simp only [List.mem_cons, List.not_mem_nil, or_false] at hq
    rcases hq with rfl | rfl
    · exact hsa.below b3
    · exact hsb.below b3)
  obtain ⟨k0, k1, k2, k3, k4, k5, k6, k7⟩ := cells8 hA2
  obtain ⟨m0, m1, m2, m3, m4, m5, m6, m7⟩ := cells8 hB2
  replace HF3 := Lib.hid HF3
  replace HPP := Lib.hid HPP
  replace HAw := Lib.hid HAw
  replace hsm := Lib.hid hsm
  replace hsa := Lib.hid hsa
  replace hsb := Lib.hid hsb
  replace hA3 := Lib.hid hA3
  replace hB3 := Lib.hid hB3
  replace b3 := Lib.hid b3
  clear HFw hrow3 hA2 hB2 b1 b2 b23
  go_enter Tryz.func8, Tryz.ntmps8
  go_upto_region 1 with fail
  rw [← hW1, ← hW2]
  replace hW1 := Lib.hid hW1
  replace hW2 := Lib.hid hW2
  go_wp2_with fail
  rw [← hW3]
  replace hW3 := Lib.hid hW3
  refine HF3.out.mono ?_
  rintro e w4 ⟨b, rfl, hw4, hfew⟩
  replace hw4 := hw4.symm
  subst hw4
  clear k0 k1 k2 k3 k4 k5 k6 k7 m0 m1 m2 m3 m4 m5 m6 m7 HF3
  cases b with
  | false =>
    go_wp2_with fail
    refine (HAw.out _).mono ?_
    rintro e w5 ⟨rfl, hb5⟩
    go_wp2
    go_ret
    exact ⟨rfl, b3.out.trans (hb5.mono b3.out.size)⟩
  | true =>
    obtain ⟨_, hf⟩ := hfew rfl
    obtain ⟨hfa1, hfa2⟩ := hf _ (List.mem_cons_self ..)
    obtain ⟨hfb1, hfb2⟩ := hf _ (List.mem_cons_of_mem _ (List.mem_cons_self ..))
    simp only at hfa1 hfa2 hfb1 hfb2
    obtain ⟨css, hi, hty, hok⟩ := hsa.out.both hfa1
    obtain ⟨tk, ok, cs, hcs, hoks, HPa, HPr⟩ := HPP.out css (by omega) hok
    have htyc : SiteTy cs := by rcases hcs with rfl | rfl; exact hty; intro c hc; simp at hc
    have hcat : ¬ 9223372036854775807 < xa.size + xb.size := by omega
    obtain ⟨tkk, tkx, tks, tkf, tk1, tk2, tkm⟩ := tk
    simp only at hoks HPa HPr
    have HS := fun v1 v2 W h1 h2 => hsm.out ⟨tkk, tkx, tks, tkf, tk1, tk2, tkm⟩ v1 v2 cs W h1 h2 htyc
    simp only at HS
    replace HS := Lib.hid HS
    replace HPr := Lib.hid HPr
    have HPa3 := Lib.hid (HPa W3 (hi.below b3.out))
    replace hi := Lib.hid hi
    replace hcs := Lib.hid hcs
    replace hoks := Lib.hid hoks
    replace htyc := Lib.hid htyc
    replace hty := Lib.hid hty
    replace hok := Lib.hid hok
    clear HPa hf hfew hfa1 hfb1 hfa2 hfb2 HPP hsm
    obtain ⟨k0, k1, k2, k3, k4, k5, k6, k7⟩ := cells8 hA3.out
    obtain ⟨m0, m1, m2, m3, m4, m5, m6, m7⟩ := cells8 hB3.out
    go_wp2_with fail
    refine HPa3.out.mono ?_
    rintro e w5 ⟨⟨sa, sn, sc, rfl, hs5⟩, hb5⟩
    obtain ⟨W6, hW6⟩ : ∃ W6, W6 = w5.alloc (.cells #[.int .i64 tkk, .string tkx, .bool tks, .string tkf, .int .i64 tk1, .int .i64 tk2, .bool tkm, .slice sa sn sc] 34) := ⟨_, rfl⟩
    have b36 : Below W3.heap.size W3 W6 := by rw [hW6]; exact hb5.alloc hb5.size _
    have b56 : Below w5.heap.size w5 W6 := by rw [hW6]; exact (Below.refl _ w5).alloc (Nat.le_refl _) _
    have hx6 : W6.heap[w5.heap.size]? = some (.cells #[.int .i64 tkk, .string tkx, .bool tks, .string tkf, .int .i64 tk1, .int .i64 tk2, .bool tkm, .slice sa sn sc] 34 (0, 0)) := by rw [hW6]; exact heap_alloc_new w5 _
    have hs6 := hs5.below b56
    have hA6 := (b36.block _ (lt_of_block hA3.out)).trans hA3.out
    have hB6 := (b36.block _ (lt_of_block hB3.out)).trans hB3.out
    have HPr6 := Lib.hid (HPr.out W6 (hi.out.below (b3.out.trans (b36.mono b3.out.size))))
    obtain ⟨gt, hgt⟩ : ∃ g, g = w5.heap.size := ⟨_, rfl⟩
    rw [← hgt] at hx6
    clear k0 k1 k2 k3 k4 k5 k6 k7 m0 m1 m2 m3 m4 m5 m6 m7 hb5 b56 hs5 HPa3 HPr
    obtain ⟨k0, k1, k2, k3, k4, k5, k6, k7⟩ := cells8 hA6
    obtain ⟨m0, m1, m2, m3, m4, m5, m6, m7⟩ := cells8 hB6
    replace hA6 := Lib.hid hA6
    replace hB6 := Lib.hid hB6
    replace hx6 := Lib.hid hx6
    replace hs6 := Lib.hid hs6
    replace b36 := Lib.hid b36
    go_upto_region 4 with fail
    rw [← hW6, ← hgt]
    replace hW6 := Lib.hid hW6
    replace hgt := Lib.hid hgt
    go_wp2_with fail
    refine HPr6.out.mono ?_
    rintro e w7 ⟨⟨ra, rn, rc, rfl, hs7⟩, hb7⟩
    obtain ⟨W8, hW8⟩ : ∃ W8, W8 = w7.alloc (.cells #[.int .i64 tkk, .string tkx, .bool tks, .string tkf, .int .i64 tk1, .int .i64 tk2, .bool tkm, .slice ra rn rc] 34) := ⟨_, rfl⟩
    have b78 : Below w7.heap.size w7 W8 := by rw [hW8]; exact (Below.refl _ w7).alloc (Nat.le_refl _) _
    have b68 : Below W6.heap.size W6 W8 := hb7.trans (b78.mono hb7.size)
    have b38 : Below W3.heap.size W3 W8 := b36.out.trans (b68.mono b36.out.size)
    have hu8 : W8.heap[w7.heap.size]? = some (.cells #[.int .i64 tkk, .string tkx, .bool tks, .string tkf, .int .i64 tk1, .int .i64 tk2, .bool tkm, .slice ra rn rc] 34 (0, 0)) := by rw [hW8]; exact heap_alloc_new w7 _
    have hx8 := (b68.block _ (lt_of_block hx6.out)).trans hx6.out
    have hA8 := Lib.hid ((b68.block _ (lt_of_block hA6.out)).trans hA6.out)
    have hB8 := Lib.hid ((b68.block _ (lt_of_block hB6.out)).trans hB6.out)
    have HS8 := Lib.hid (HS.out _ _ W8 (hs6.out.below b68) (hs7.below b78))
    obtain ⟨gu, hgu⟩ : ∃ g, g = w7.heap.size := ⟨_, rfl⟩
    rw [← hgu] at hu8
    clear k0 k1 k2 k3 k4 k5 k6 k7 m0 m1 m2 m3 m4 m5 m6 m7 hb7 b78 hs7 HPr6 HS
    obtain ⟨k0, k1, k2, k3, k4, k5, k6, k7⟩ := cells8 hx8
    obtain ⟨m0, m1, m2, m3, m4, m5, m6, m7⟩ := cells8 hu8
    replace hx8 := Lib.hid hx8
    replace hu8 := Lib.hid hu8
    replace b38 := Lib.hid b38
    replace b68 := Lib.hid b68
    go_upto_region 5 with fail
    rw [← hW8, ← hgu]
    replace hW8 := Lib.hid hW8
    replace hgu := Lib.hid hgu
    go_wp2_with fail
    refine HS8.out.mono ?_
    rintro e w9 ⟨rfl, hb9⟩
    have b39 : Below W3.heap.size W3 w9 := b38.out.trans (hb9.mono b38.out.size)
    clear k0 k1 k2 k3 k4 k5 k6 k7 m0 m1 m2 m3 m4 m5 m6 m7
    have hx9 := (hb9.block _ (lt_of_block hx8.out)).trans hx8.out
    have hA9 := (hb9.block _ (lt_of_block hA8.out)).trans hA8.out
    have hB9 := (hb9.block _ (lt_of_block hB8.out)).trans hB8.out
    cases ok with
    | false =>
      go_wp2_with fail
      refine (HAw.out _).mono ?_
      rintro e w10 ⟨rfl, hb10⟩
      go_wp2
      go_ret
      exact ⟨rfl, b3.out.trans ((b39.trans (hb10.mono b39.size)).mono b3.out.size)⟩
    | true =>
      obtain ⟨e1, e2, e3, e4, e5, e6⟩ := hoks.out rfl
      subst e1 e2 e3 e4 e5 e6
      obtain ⟨k0, k1, k2, k3, k4, k5, k6, k7⟩ := cells8 hx9
      obtain ⟨m0, m1, m2, m3, m4, m5, m6, m7⟩ := cells8 hA9
      obtain ⟨q0, q1, q2, q3, q4, q5, q6, q7⟩ := cells8 hB9
      go_wp2_with fail
      refine (HAw.out _).mono ?_
      rintro e w10 ⟨rfl, hb10⟩
      go_wp2
      go_ret
      exact ⟨rfl, b3.out.trans ((b39.trans (hb10.mono b39.size)).mono b3.out.size)⟩
end Go.Proofs.YtfaoamdlknlgpaaGreat
