/- Texts of this seat's proofs, laid into one file. -/
import Derived.Test.YthbicbfdldpemaaMacroFormsDoneG24
import Derived.Test.YthbicbfdldpemaaMacroFormsDoneG26
/- macro.Parse on a text's tokens. -/
namespace Go.Proofs.Ythbicbfdldpemaa
open Go.RowKit
set_option linter.unusedVariables false

/-- what Parse gives on tokens without sites -/
def ParseN (B : Nat) (r : Mac ⊕ Bad) (e : Ending) (w' : World) : Prop :=
  match r with
  | .inl m => ∃ (psv bov : Value), e = .returned (.tuple #[.agg (mcC m.name m.fn m.va psv bov m.file m.f m.t).toArray, .slice none 0 0]) ∧ MacOwn w' B m psv bov
  | .inr x => ∃ (g cap : Nat), e = .returned (.tuple #[.agg (mcC .empty false false (.slice none 0 0) (.slice none 0 0) .empty 0 0).toArray, .slice (some ⟨g, 0, none⟩) 1 cap]) ∧ Own w' B 38 4 (.slice (some ⟨g, 0, none⟩) 1 cap) [dgV x.code x.file x.f x.t]

theorem mParseN_any (l : List Tm) (ao : Option Addr) (cap : Nat) (hn : l.length ≤ 1000000) (hcap : l.length ≤ cap) (w : World) (hrow : Row w 8 ao ((l.map nilTv).map tvC)) :
    Calls Try.prog 14 #[.slice ao l.length cap] w fun e w' => Below w.heap.size w w' ∧ ParseN w.heap.size (parseL l) e w' := by
  have hl : (l.map nilTv).length = l.length := by simp
  have hf : (l.map nilTv).map (·.1) = l := by rw [List.map_map]; exact List.map_id _
  have h := mParse_any (l.map nilTv) ao cap (by rw [hl]; exact hn) (by rw [hl]; exact hcap) w hrow (by
    intro p hp
    obtain ⟨t, _, rfl⟩ := List.mem_map.1 hp
    exact ⟨[], SiteIn.nil _⟩)
  rw [hl, hf] at h
  refine h.mono ?_
  rintro e w' ⟨hb, hp⟩
  refine ⟨hb, ?_⟩
  unfold ParseN
  unfold ParsePost at hp
  cases hr : parseL l with
  | inl m =>
    rw [hr] at hp
    obtain ⟨psv, bov, T', rfl, h1, h2, h3, _, h5⟩ := hp
    exact ⟨psv, bov, rfl, h1, T', h2, h3, h5 (by
      intro p hp
      obtain ⟨t, _, rfl⟩ := List.mem_map.1 hp
      rfl)⟩
  | inr x =>
    rw [hr] at hp
    obtain ⟨vd, rfl, h1⟩ := hp
    obtain ⟨g, cap', rfl, _⟩ := h1.cons_at (by simp)
    exact ⟨g, cap', rfl, h1⟩

theorem bodyEq_refl : ∀ l : List Tm, bodyEq l l = true
  | [] => rfl
  | a :: l => by simp [bodyEq, alikeP, bodyEq_refl l]

theorem sameP_refl (m : Mac) : sameP m m = true := by simp [sameP, bodyEq_refl]

/-! ## what the document fixes, in plain Lean -/

def fix1 (r : Mac ⊕ Bad) : Bool := match r with | .inl m => m.fn && decide (m.params.length = 2) && decide (m.body.length = 2) && decide (Lib.idxOfS m.params (bs [98]) = 1) && decide (m.name.size = 1) | .inr _ => false
def fix2 (r : Mac ⊕ Bad) : Bool := match r with | .inl _ => false | .inr x => decide (x.code = 5)

theorem fixed1 : fix1 (parseL (toksL (bs [70, 40, 97, 44, 98, 41, 32, 97, 32, 98]).data.toList)) = true := by kernel_rfl
theorem fixed2 : fix2 (parseL (toksL (bs [70, 40, 97, 44, 97, 41, 32, 97]).data.toList)) = true := by kernel_rfl
theorem fixed3 : fix2 (parseL (toksL (bs [70, 32, 97, 35, 35]).data.toList)) = true := by kernel_rfl
end Go.Proofs.Ythbicbfdldpemaa

/- oxbowlaw9's awake. -/
namespace Go.Proofs.Ythbicbfdldpemaa
open Go.RowKit
set_option linter.unusedVariables false

theorem parts1 {r : Mac ⊕ Bad} (h : fix1 r = true) : ∃ m, r = .inl m ∧ m.fn = true ∧ m.params.length = 2 ∧ m.body.length = 2 ∧ Lib.idxOfS m.params (bs [98]) = 1 ∧ m.name.size = 1 := by
  cases r with
  | inl m => simp only [fix1, Bool.and_eq_true, decide_eq_true_eq] at h; exact ⟨m, rfl, h.1.1.1.1, h.1.1.1.2, h.1.1.2, h.1.2, h.2⟩
  | inr x => simp [fix1] at h
theorem parts2 {r : Mac ⊕ Bad} (h : fix2 r = true) : ∃ x, r = .inr x ∧ x.code = 5 := by
  cases r with
  | inl m => simp [fix2] at h
  | inr x => exact ⟨x, rfl, by simpa [fix2] using h⟩

/-- what a text is, as a definition: its tokens, and what Parse gives on them -/
theorem mText_toks (s : ByteArray) (hs : s.size ≤ 100000) (w : World) :
    Calls Try.prog 15 #[.string s] w fun e w' => ∃ (l : List Tm) (n : Nat) (ao : Option Addr) (cap : Nat), e = .returned (.slice ao n cap) ∧ Below w.heap.size w w' ∧ Hid (l = toksL s.data.toList) ∧ Hid (∀ w'', Below w'.heap.size w' w'' → Calls Try.prog 14 #[.slice ao n cap] w'' fun e w3 => Below w''.heap.size w'' w3 ∧ ParseN w''.heap.size (parseL l) e w3) := by
  refine (rToks_any s (by omega) w).mono ?_
  rintro e w' ⟨ao, cap, rfl, hcap, hrow, hb⟩
  have hl := toksL_len s.data.toList
  rw [← Lib.size_eq] at hl
  exact ⟨toksL s.data.toList, _, ao, cap, rfl, hb, Lib.hid rfl, Lib.hid (fun w'' hw => mParseN_any _ ao cap (by omega) hcap w'' (hrow.below hw))⟩

theorem putT_one (n : ByteArray) (x y : Nat × Mac) : putT [(n, x)] n y = [(n, y)] := by simp [putT]
theorem lookT_one (n : ByteArray) (x : Nat × Mac) : lookT [(n, x)] n = some x := by simp [lookT]
theorem sameP_nil (m : Mac) (h : m.body.length = 2) : sameP m { m with body := [] } = false := by
  have : bodyEq m.body [] = false := by
    cases hb : m.body with
    | nil => rw [hb] at h; simp at h
    | cons a l => rfl
  simp [sameP, this]
theorem KeptC.into {a w w' : World} (h : KeptC a w) (hs : a.heap.size ≤ w.heap.size) (hb : Below w.heap.size w w') : KeptC a w' := h.trans (KeptC.below hb)

set_option maxHeartbeats 2000000 in
set_option maxRecDepth 100000 in
theorem mAwake_any (w : World) :
    Calls Try.prog 13 #[] w fun e w' => e = .returned (.bool true) ∧ Below w.heap.size w w' := by
  go_enter Try.func13, Try.ntmps13
  go_wp2_with fail
  refine (mText_toks (bs [70, 40, 97, 44, 98, 41, 32, 97, 32, 98]) (by decide) w).mono ?_
  rintro e w1 ⟨l1, n1, ao1, cap1, rfl, hb1, hl1, HP1⟩
  go_wp2_with fail
  refine (HP1.out _ (Below.refl _ _)).mono ?_
  rintro e w2 ⟨hb2, hp2⟩
  obtain ⟨m, hr1, hfn, hps, hbd, hix, hnm⟩ := parts1 fixed1
  rw [← hl1.out] at hr1
  rw [hr1] at hp2
  obtain ⟨psv, bov, rfl, hO⟩ := hp2
  clear hr1
  obtain ⟨pao, pcp, rfl, _, _, _, _⟩ := hO.ps.rown (n := 2) (by simpa using hps)
  have hbl : ∀ T : List (Tm × Value), T.map (·.1) = m.body → (T.map tvC).length = 2 := fun T h => by rw [List.length_map, ← hbd, ← h, List.length_map]
  obtain ⟨T, hT, hTs, hTn⟩ := hO.body
  obtain ⟨bao, bcp, rfl, _, _, _, _⟩ := hT.rown (n := 2) (hbl T hTs)
  have hB2 : Below w.heap.size w w2 := hb1.trans (hb2.mono hb1.size)
  replace hO := hO.mono (B' := w.heap.size) hb1.size
  replace hfn := Lib.hid hfn
  replace hps := Lib.hid hps
  replace hbd := Lib.hid hbd
  replace hix := Lib.hid hix
  replace hnm := Lib.hid hnm
  clear hT hTs hTn hb1 hb2 HP1 hl1 hbl
  unfold mcC
  go_wp2_with fail
  obtain ⟨W3, hW3⟩ : ∃ W3, W3 = w2.alloc (.cells #[.string m.name, .bool m.fn, .bool m.va, .slice pao 2 pcp, .slice bao 2 bcp, .string m.file, .int .i64 m.f, .int .i64 m.t] 29) := ⟨_, rfl⟩
  have hB3 : Below w.heap.size w W3 := by rw [hW3]; exact hB2.alloc hB2.size _
  have hm3 : W3.heap[w2.heap.size]? = some (.cells #[.string m.name, .bool m.fn, .bool m.va, .slice pao 2 pcp, .slice bao 2 bcp, .string m.file, .int .i64 m.f, .int .i64 m.t] 29 (0, 0)) := by rw [hW3]; exact heap_alloc_new w2 _
  have hO3 : MacOwn W3 w.heap.size m (.slice pao 2 pcp) (.slice bao 2 bcp) := by rw [hW3]; exact hO.below ((Below.refl _ w2).alloc (Nat.le_refl _) _)
  rw [← hW3]
  replace hW3 := Lib.hid hW3
  generalize w2.heap.size = g1 at *
  clear hO hB2
  refine (mText_toks (bs [70, 40, 97, 44, 97, 41, 32, 97]) (by decide) W3).mono ?_
  rintro e w4 ⟨l2, n2, ao2, cap2, rfl, hb4, hl2, HP2⟩
  go_wp2_with fail
  refine (HP2.out _ (Below.refl _ _)).mono ?_
  rintro e w5 ⟨hb5, hp5⟩
  obtain ⟨x5, hr5, hc5⟩ := parts2 fixed2
  rw [← hl2.out] at hr5
  rw [hr5] at hp5
  obtain ⟨g5, cp5, rfl, hd5⟩ := hp5
  clear hr5
  have hbb5 := hb4.trans (hb5.mono hb4.size)
  have hB5 : Below w.heap.size w w5 := hB3.trans (hbb5.mono hB3.size)
  have hm5 := (hbb5.block _ (lt_of_block hm3)).trans hm3
  have hO5 := hO3.below hbb5
  replace hc5 := Lib.hid hc5
  clear hb4 hb5 HP2 hl2 hm3 hO3 hbb5 hB3
  unfold mcC
  go_wp2_with fail
  obtain ⟨W6, hW6⟩ : ∃ W6, W6 = w5.alloc (.cells #[.string .empty, .bool false, .bool false, .slice none 0 0, .slice none 0 0, .string .empty, .int .i64 0, .int .i64 0] 29) := ⟨_, rfl⟩
  have hb6 : Below w5.heap.size w5 W6 := by rw [hW6]; exact (Below.refl _ w5).alloc (Nat.le_refl _) _
  have hB6 := hB5.trans (hb6.mono hB5.size)
  have hm6 := (hb6.block _ (lt_of_block hm5)).trans hm5
  have hO6 := hO5.below hb6
  have hd6 := hd5.below hb6
  rw [← hW6]
  replace hW6 := Lib.hid hW6
  generalize w5.heap.size = g2 at *
  clear hm5 hO5 hd5 hb6 hB5
  refine (mText_toks (bs [70, 32, 97, 35, 35]) (by decide) W6).mono ?_
  rintro e w7 ⟨l3, n3, ao3, cap3, rfl, hb7, hl3, HP3⟩
  go_wp2_with fail
  refine (HP3.out _ (Below.refl _ _)).mono ?_
  rintro e w8 ⟨hb8, hp8⟩
  obtain ⟨x8, hr8, _⟩ := parts2 fixed3
  rw [← hl3.out] at hr8
  rw [hr8] at hp8
  obtain ⟨g8, cp8, rfl, _⟩ := hp8
  clear hr8
  have hbb8 := hb7.trans (hb8.mono hb7.size)
  have hB8 : Below w.heap.size w w8 := hB6.trans (hbb8.mono hB6.size)
  have hm8 := (hbb8.block _ (lt_of_block hm6)).trans hm6
  have hO8 := hO6.below hbb8
  have hd8 := hd6.below hbb8
  clear hb7 hb8 HP3 hl3 hm6 hO6 hd6 hbb8 hB6
  unfold mcC
  go_wp2_with fail
  obtain ⟨W9, hW9⟩ : ∃ W9, W9 = w8.alloc (.cells #[.string .empty, .bool false, .bool false, .slice none 0 0, .slice none 0 0, .string .empty, .int .i64 0, .int .i64 0] 29) := ⟨_, rfl⟩
  have hb9 : Below w8.heap.size w8 W9 := by rw [hW9]; exact (Below.refl _ w8).alloc (Nat.le_refl _) _
  have hB9 := hB8.trans (hb9.mono hB8.size)
  have hm9 := (hb9.block _ (lt_of_block hm8)).trans hm8
  have hO9 := hO8.below hb9
  have hd9 := hd8.below hb9
  rw [← hW9]
  replace hW9 := Lib.hid hW9
  generalize w8.heap.size = g3 at *
  clear hm8 hO8 hd8 hb9 hB8
  refine (mNew_any W9).mono ?_
  rintro e w10 ⟨rfl, hT10, hb10⟩
  have hB10 := hB9.trans (hb10.mono hB9.size)
  have hm10 := (hb10.block _ (lt_of_block hm9)).trans hm9
  have hO10 := hO9.below hb10
  have hd10 := hd9.below hb10
  have hmbB : w.heap.size ≤ W9.heap.size := hB9.size
  generalize W9.heap.size = mb at *
  clear hm9 hO9 hd9 hb10 hB9
  have hM10 := hO10.at (by rw [hps.out]; decide) (by rw [hbd.out]; decide)
  have hnx : m.name.size ≤ maxLen := by rw [hnm.out]; decide
  obtain ⟨m0, m1, m2, m3, m4, m5, m6, m7⟩ := cells8 hm10
  go_upto_region 7 with fail
  have HD1 := mDefine_any (mb + 1) mb [] m _ _ w10.drew (hT10.below (Below.refl _ w10).drew) (hM10.below (Below.refl _ w10).drew) hnx
  rw [show defRes [] m = true from rfl] at HD1
  have hk10 : KeptC w10 w10.drew := KeptC.below (Below.refl _ w10).drew
  obtain ⟨es10, ck10, hmp10, _⟩ := hT10.map
  unfold mcC at HD1
  replace HD1 := Lib.hid HD1
  go_cut [8, 9] from 31 to 36 (fun s8 s9 wx => s8 = .bool true ∧ s9 = .bool true ∧ (∃ g, TabAt wx (mb + 1) mb [(m.name, (g, m))]) ∧ KeptC w10 wx ∧ w10.heap.size ≤ wx.heap.size ∧ Below w.heap.size w wx)
  case first =>
    go_region_law (first
      | (go_simp; go_at_call 34; refine HD1.out.mono ?_; go_must (rintro e w11 ⟨gd, rfl, hT11, hg11⟩; have hk11 := hk10.trans (KeptC.grown (w := w10.drew) hmp10 hg11); obtain ⟨n0, n1, n2, n3, n4, n5, n6, n7⟩ := cells8 (hk11 _ _ _ _ hm10); have HD2 := mDefine_any (mb + 1) mb [(m.name, (gd, m))] m (.slice pao 2 pcp) (.slice bao 2 bcp) w11 hT11 (hM10.keep hk11) hnx; rw [show defRes [(m.name, (gd, m))] m = true by unfold defRes; rw [lookT_one]; exact sameP_refl m] at HD2; simp only [putT_one] at HD2; unfold mcC at HD2; replace HD2 := Lib.hid HD2; replace hT11 := Lib.hid hT11))
      | (go_simp; go_at_call 34; refine HD2.out.mono ?_; rintro e w12 ⟨gd2, rfl, hT12, hg12⟩))
    all_goals
      go_wp2_with fail
      go_meet
      case rel =>
        obtain ⟨es11, ck11, hmp11, _⟩ := hT11.out.map
        exact ⟨rfl, rfl, ⟨gd2, hT12⟩, hk11.trans (KeptC.grown hmp11 hg12), Nat.le_trans hg11.size hg12.size, ((hB10.drew).grown hg11 hB10.size (by intro k hk; injection hk with hk; omega)).grown hg12 (Nat.le_trans hB10.size hg11.size) (by intro k hk; injection hk with hk; omega)⟩
  case rest =>
    obtain ⟨rfl, rfl, ⟨gd, hTc⟩, hkc, hsc, hBc⟩ := hcut
    clear HD1 m0 m1 m2 m3 m4 m5 m6 m7
    obtain ⟨m0, m1, m2, m3, m4, m5, m6, m7⟩ := cells8 (hkc _ _ _ _ hm10)
    go_upto_region 10 with fail
    obtain ⟨Wy, hWy⟩ : ∃ Wy, Wy = wc.alloc (.cells #[.string m.name, .bool m.fn, .bool m.va, .slice pao 2 pcp, .slice none 0 0, .string m.file, .int .i64 m.f, .int .i64 m.t] 29) := ⟨_, rfl⟩
    have hby : Below wc.heap.size wc Wy := by rw [hWy]; exact (Below.refl _ wc).alloc (Nat.le_refl _) _
    have hBy := hBc.trans (hby.mono hBc.size)
    have hky : KeptC w10 Wy := hkc.into hsc hby
    have hTy := hTc.below hby
    have hMy := hM10.keep hky
    have hn0 : Wy.heap[wc.heap.size]? = some (.cells #[.string m.name, .bool m.fn, .bool m.va, .slice pao 2 pcp, .slice none 0 0, .string m.file, .int .i64 m.f, .int .i64 m.t] 29 (0, 0)) := by rw [hWy]; exact heap_alloc_new wc _
    rw [← hWy]
    replace hWy := Lib.hid hWy
    have HD3 := mDefine_any (mb + 1) mb [(m.name, (gd, m))] { m with body := [] } (.slice pao 2 pcp) (.slice none 0 0) Wy hTy ⟨hMy.ps, ⟨none, 0, [], rfl, Nat.le_refl _, Nat.zero_le _, rfl, Row.nil _ _ _, by simp⟩⟩ hnx
    rw [show defRes [(m.name, (gd, m))] { m with body := [] } = false by unfold defRes; rw [lookT_one]; exact sameP_nil m hbd.out] at HD3
    unfold mcC at HD3
    simp only at HD3
    replace HD3 := Lib.hid HD3
    clear m0 m1 m2 m3 m4 m5 m6 m7
    obtain ⟨m0, m1, m2, m3, m4, m5, m6, m7⟩ := cells8 hn0
    go_wp2_with fail
    refine HD3.out.mono ?_
    rintro e w13 ⟨gd3, rfl, hT13, hg13⟩
    obtain ⟨esy, cky, hmpy, _⟩ := hTy.map
    have hk13 := hky.trans (KeptC.grown hmpy hg13)
    have hB13 := hBy.grown hg13 hBy.size (by intro k hk; injection hk with hk; omega)
    clear m0 m1 m2 m3 m4 m5 m6 m7 HD3 hT13 hTy hMy hn0 hTc
    obtain ⟨m0, m1, m2, m3, m4, m5, m6, m7⟩ := cells8 (hk13 _ _ _ _ hm10)
    have hM13 := hM10.keep hk13
    obtain ⟨q5, o5, e5, hat5⟩ := hd10.here (by simp)
    simp only [Option.some.injEq, Addr.mk.injEq] at e5
    obtain ⟨rfl, rfl, _⟩ := e5
    have c5 := hk13.cell (hat5.cell (i := 0) rfl (j := 0) (u := .int .i64 x5.code) rfl)
    rw [hc5.out] at c5
    simp only [Nat.zero_mul, Nat.add_zero] at c5
    obtain ⟨pa', pc', ep, hrp, _⟩ := hM13.ps
    rw [hps.out] at ep
    simp only [Value.slice.injEq] at ep
    obtain ⟨rfl, _, rfl⟩ := ep
    have HPm := mParam_any m.name m.fn m.va (.slice bao 2 bcp) m.file m.f m.t m.params pao pcp (bs [98]) (by rw [hps.out]; decide) w13 hrp
    rw [hps.out, hix.out] at HPm
    unfold mcC at HPm
    have hf := hfn.out
    rw [hf] at m1 HPm
    replace HPm := Lib.hid HPm
    clear hat5 hrp hM13
    go_wp2_with fail
    refine HPm.out.mono ?_
    rintro e w14 ⟨rfl, hb14⟩
    have c5' := kept_cell hb14 c5
    have hB14 := hB13.trans (hb14.mono hB13.size)
    clear m0 m1 m2 m3 m4 m5 m6 m7
    obtain ⟨m0, m1, m2, m3, m4, m5, m6, m7⟩ := cells8 ((hk13.trans (KeptC.below hb14)) _ _ _ _ hm10)
    rw [hf] at m1
    have HDn := mDefine_nil #[] { m with fn := true } (.slice pao 2 pcp) (.slice bao 2 bcp) w14
    unfold mcC at HDn
    simp only at HDn
    replace HDn := Lib.hid HDn
    go_wp2_with fail
    refine HDn.out.mono ?_
    rintro e w15 ⟨rfl, hb15⟩
    go_wp2_with fail
    refine (mCopy_nil w15).mono ?_
    rintro e w16 ⟨rfl, rfl⟩
    go_wp2
    go_ret
    exact ⟨rfl, hB14.trans (hb15.mono hB14.size)⟩
end Go.Proofs.Ythbicbfdldpemaa
