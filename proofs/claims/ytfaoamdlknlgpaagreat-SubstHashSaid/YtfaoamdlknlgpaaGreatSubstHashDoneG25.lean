/- Texts of this seat's proofs, laid into one file. -/
import Derived.Test.YtfaoamdlknlgpaaGreatSubstHashDoneG23
import Derived.Test.YtfaoamdlknlgpaaGreatSubstHashDoneG24
import Derived.Test.YtfaoamdlknlgpaaGreatSubstHashDoneG19
import Derived.Test.YtfaoamdlknlgpaaGreatSubstHashDoneG14
import Derived.Deep.RegionHeld3
import Derived.BigQuiet
import Derived.Deep.RegionLaw
/- The document's Paste. -/
namespace Go.Proofs.YtfaoamdlknlgpaaGreat
open Go.RowKit
set_option linter.unusedVariables false

def RPastePost (ta tb : Tm) (va : Value) (e : Ending) : Prop :=
  match oneR (ta.text ++ tb.text).data.toList with
  | none => e = .returned (.tuple #[.agg #[.int .i64 0, .string ⟨#[]⟩, .bool false, .string ⟨#[]⟩, .int .i64 0, .int .i64 0, .bool false, .slice none 0 0], .bool false])
  | some k => e = .returned (.tuple #[.agg (tmC ⟨k, ta.text ++ tb.text, ta.sp, ta.file, ta.f, ta.t, true⟩ va).toArray, .bool true])

set_option maxRecDepth 100000 in
set_option maxHeartbeats 2000000 in
theorem rPaste_any (ta tb : Tm) (va vb : Value) (hsz : ta.text.size + tb.text.size ≤ 1000) (w : World) (hva : SlV va) (hvb : SlV vb) :
    Calls Tryz.prog 34 #[.agg (tmC ta va).toArray, .agg (tmC tb vb).toArray] w fun e w' => RPastePost ta tb va e ∧ Below w.heap.size w w' := by
  obtain ⟨ka, xa, pa, fa, f1, t1, ma⟩ := ta
  obtain ⟨kb, xb, pb, fb, f2, t2, mb⟩ := tb
  obtain ⟨ba, bn, bc, rfl⟩ := hvb
  obtain ⟨aa, an, ac, rfl⟩ := hva
  simp only at hsz
  obtain ⟨s, hs⟩ : ∃ s, s = xa ++ xb := ⟨_, rfl⟩
  have hss : s.size ≤ 1000 := by rw [hs, ByteArray.size_append]; exact hsz
  unfold RPastePost
  simp only
  rw [← hs]
  have hcat : ¬ 9223372036854775807 < xa.size + xb.size := by omega
  have hcat2 : xa.size + xb.size ≤ 9223372036854775807 := by omega
  unfold tmC
  simp only
  obtain ⟨A, hA⟩ : ∃ A : Array Value, A = #[.int .i64 ka, .string xa, .bool pa, .string fa, .int .i64 f1, .int .i64 t1, .bool ma, .slice aa an ac] := ⟨_, rfl⟩
  obtain ⟨B, hB⟩ : ∃ B : Array Value, B = #[.int .i64 kb, .string xb, .bool pb, .string fb, .int .i64 f2, .int .i64 t2, .bool mb, .slice ba bn bc] := ⟨_, rfl⟩
  obtain ⟨W3, hW3⟩ : ∃ W3, W3 = ((w.alloc (.cells A 34)).alloc (.cells B 34)).alloc (.cells #[.int .i64 0, .string ⟨#[]⟩, .bool false, .string ⟨#[]⟩, .int .i64 0, .int .i64 0, .bool false, .slice none 0 0] 34) := ⟨_, rfl⟩
  have b3 : Hid (Below w.heap.size w W3) := Lib.hid (by rw [hW3]; exact (((Below.refl _ w).alloc (Nat.le_refl _) _).alloc (by simp) _).alloc (by simp; omega) _)
  have hN3 : Hid (w.heap.size + 3 = W3.heap.size) := Lib.hid (by rw [hW3]; simp)
  have hcA : Hid (W3.heap[w.heap.size]? = some (.cells #[.int .i64 ka, .string xa, .bool pa, .string fa, .int .i64 f1, .int .i64 t1, .bool ma, .slice aa an ac] 34 (0, 0))) := Lib.hid (by rw [hW3, ← hA]; exact (Lib.alloc_old _ _ _ (by simp; omega)).trans (two_new w _ _ _ _).1)
  have hcR : Hid (W3.heap[w.heap.size + 2]? = some (.cells #[.int .i64 0, .string ⟨#[]⟩, .bool false, .string ⟨#[]⟩, .int .i64 0, .int .i64 0, .bool false, .slice none 0 0] 34 (0, 0))) := Lib.hid (by
    have := heap_alloc_new ((w.alloc (.cells A 34)).alloc (.cells B 34)) (.cells #[.int .i64 0, .string ⟨#[]⟩, .bool false, .string ⟨#[]⟩, .int .i64 0, .int .i64 0, .bool false, .slice none 0 0] 34)
    rw [← hW3] at this
    simpa using this)
  have HO := rOne_any s (by omega) W3
  cases hk : oneR s.data.toList with
  | none =>
    rw [(one_bad hk).1, (one_bad hk).2] at HO
    replace HO := Lib.hid HO
    rw [hA, hB] at hW3
    clear hk hA hB
    simp only
    go_enter Tryz.func34, Tryz.ntmps34
    go_wp2_with fail
    rw [← hs, ← hW3]
    replace hW3 := Lib.hid hW3
    replace hs := Lib.hid hs
    refine HO.out.mono ?_
    rintro e w4 ⟨rfl, b4⟩
    obtain ⟨wq, hwq⟩ : ∃ wq, wq = w4.alloc (.cells #[.int .i64 0, .string ⟨#[]⟩, .bool false, .string ⟨#[]⟩, .int .i64 0, .int .i64 0, .bool false, .slice none 0 0] 34) := ⟨_, rfl⟩
    have b4q : Below W3.heap.size W3 wq := by rw [hwq]; exact b4.alloc b4.size _
    have hBq : Below w.heap.size w wq := b3.out.trans (b4q.mono b3.out.size)
    have hRq := (b4q.block (w.heap.size + 2) (lt_of_block hcR.out)).trans hcR.out
    have hfin : Hid (Below w.heap.size w (set8 wq (w.heap.size + 2) (.int .i64 0) (.string ⟨#[]⟩) (.bool false) (.string ⟨#[]⟩) (.int .i64 0) (.int .i64 0) (.bool false) (.slice none 0 0))) := Lib.hid (set8_below hBq (Nat.le_add_right _ _))
    have hg := set8_at (b0 := .int .i64 0) (b1 := .string ⟨#[]⟩) (b2 := .bool false) (b3 := .string ⟨#[]⟩) (b4 := .int .i64 0) (b5 := .int .i64 0) (b6 := .bool false) (b7 := .slice none 0 0) hRq
    obtain ⟨m0, m1, m2, m3, m4, m5, m6, m7⟩ := cells8x hg
    clear hg
    unfold set8 at m0 m1 m2 m3 m4 m5 m6 m7
    have fr := fun j => Lib.frozen_of_heap hRq j
    obtain ⟨r0, r1, r2, r3, r4, r5, r6, r7⟩ := cells8x hRq
    go_upto_region 2 with fail
    rw [← hwq]
    replace hwq := Lib.hid hwq
    go_wp2
    refine bodyPost_ret (v := .tuple #[.agg #[.int .i64 0, .string ⟨#[]⟩, .bool false, .string ⟨#[]⟩, .int .i64 0, .int .i64 0, .bool false, .slice none 0 0], .bool false]) (by simp [results, Tryz.results34, go_sem, m0, m1, m2, m3, m4, m5, m6, m7]) rfl ?_
    exact ⟨rfl, hfin.out⟩
  | some k =>
    have ht : oneTokR s.data.toList = [.int .i64 k, .string s, .bool false, .string ⟨#[]⟩, .int .i64 0, .int .i64 0, .bool false, .slice none 0 0] := by
      have h2 : (⟨s.data.toList.toArray⟩ : ByteArray) = s := by cases s; simp
      unfold oneTokR
      rw [hk, h2]
    rw [ht, hk] at HO
    replace HO := Lib.hid HO
    rw [hA, hB] at hW3
    clear hk ht hA hB
    simp only
    go_enter Tryz.func34, Tryz.ntmps34
    go_wp2_with fail
    rw [← hs, ← hW3]
    replace hW3 := Lib.hid hW3
    replace hs := Lib.hid hs
    refine HO.out.mono ?_
    rintro e w4 ⟨rfl, b4⟩
    replace b4 := Lib.hid b4
    have hA4 : Hid (w4.heap[w.heap.size]? = some (.cells #[.int .i64 ka, .string xa, .bool pa, .string fa, .int .i64 f1, .int .i64 t1, .bool ma, .slice aa an ac] 34 (0, 0))) := Lib.hid ((b4.out.block _ (lt_of_block hcA.out)).trans hcA.out)
    have hA5 : Hid (∀ o, (w4.alloc o).heap[w.heap.size]? = some (.cells #[.int .i64 ka, .string xa, .bool pa, .string fa, .int .i64 f1, .int .i64 t1, .bool ma, .slice aa an ac] 34 (0, 0))) := Lib.hid fun o => (Lib.alloc_old w4 _ _ (lt_of_block hA4.out)).trans hA4.out
    have xa2 := fun o => (cells8 (hA5.out o)).2.2.1
    have xa3 := fun o => (cells8 (hA5.out o)).2.2.2.1
    have xa4 := fun o => (cells8 (hA5.out o)).2.2.2.2.1
    have xa5 := fun o => (cells8 (hA5.out o)).2.2.2.2.2.1
    have xa7 := fun o => (cells8 (hA5.out o)).2.2.2.2.2.2.2
    obtain ⟨wq, hwq⟩ : ∃ wq, wq = w4.alloc (.cells #[.int .i64 k, .string s, .bool pa, .string fa, .int .i64 f1, .int .i64 t1, .bool true, .slice aa an ac] 34) := ⟨_, rfl⟩
    have b4q : Below W3.heap.size W3 wq := by rw [hwq]; exact b4.out.alloc b4.out.size _
    have hBq : Below w.heap.size w wq := b3.out.trans (b4q.mono b3.out.size)
    have hRq := (b4q.block (w.heap.size + 2) (lt_of_block hcR.out)).trans hcR.out
    have hc6 : Hid (wq.heap[w4.heap.size]? = some (.cells #[.int .i64 k, .string s, .bool pa, .string fa, .int .i64 f1, .int .i64 t1, .bool true, .slice aa an ac] 34 (0, 0))) := Lib.hid (by rw [hwq]; exact heap_alloc_new w4 _)
    have hfin : Hid (Below w.heap.size w (set8 wq (w.heap.size + 2) (.int .i64 k) (.string s) (.bool pa) (.string fa) (.int .i64 f1) (.int .i64 t1) (.bool true) (.slice aa an ac))) := Lib.hid (set8_below hBq (Nat.le_add_right _ _))
    have hg := set8_at (b0 := .int .i64 k) (b1 := .string s) (b2 := .bool pa) (b3 := .string fa) (b4 := .int .i64 f1) (b5 := .int .i64 t1) (b6 := .bool true) (b7 := .slice aa an ac) hRq
    obtain ⟨m0, m1, m2, m3, m4, m5, m6, m7⟩ := cells8x hg
    clear hg
    unfold set8 at m0 m1 m2 m3 m4 m5 m6 m7
    have fr := fun j => Lib.frozen_of_heap hRq j
    obtain ⟨r0, r1, r2, r3, r4, r5, r6, r7⟩ := cells8x hRq
    obtain ⟨y0, y1, y2, y3, y4, y5, y6, y7⟩ := cells8x hc6.out
    go_upto_region 8 with fail
    rw [← hwq]
    replace hwq := Lib.hid hwq
    go_wp2
    refine bodyPost_ret (v := .tuple #[.agg #[.int .i64 k, .string s, .bool pa, .string fa, .int .i64 f1, .int .i64 t1, .bool true, .slice aa an ac], .bool true]) (by simp [results, Tryz.results34, go_sem, m0, m1, m2, m3, m4, m5, m6, m7]) rfl ?_
    exact ⟨rfl, hfin.out⟩
end Go.Proofs.YtfaoamdlknlgpaaGreat

/- Are tokens the same? With what their sites hold. -/
namespace Go.Proofs.YtfaoamdlknlgpaaGreat
open Go.RowKit
set_option linter.unusedVariables false

/-- sites whose cells are of a site's types -/
def SiteTy (css : List (List Value)) : Prop := ∀ c ∈ css, ∃ m file f t made, c = siC m file f t made

theorem site_at {w : World} {b o i : Nat} {css : List (List Value)} {m file : ByteArray} {f t : Int} {made : Bool} (hat : RowAt w 5 b o css) (hi : css[i]? = some (siC m file f t made)) :
    w.cell? ⟨b, o + i * 5, none⟩ = some (.string m) ∧ w.cell? ⟨b, o + i * 5 + 1, none⟩ = some (.string file) ∧ w.cell? ⟨b, o + i * 5 + 2, none⟩ = some (.int .i64 f) ∧ w.cell? ⟨b, o + i * 5 + 3, none⟩ = some (.int .i64 t) ∧ w.cell? ⟨b, o + i * 5 + 4, none⟩ = some (.bool made) :=
  ⟨hat i _ hi 0 _ rfl, hat i _ hi 1 _ rfl, hat i _ hi 2 _ rfl, hat i _ hi 3 _ rfl, hat i _ hi 4 _ rfl⟩

set_option maxHeartbeats 1000000 in
set_option maxRecDepth 100000 in
theorem sameTok_any (tm : Tm) (v1 v2 : Value) (css : List (List Value)) (w : World) (h1 : SiteIn w v1 css) (h2 : SiteIn w v2 css) (hty : SiteTy css) :
    Calls Tryz.prog 31 #[.agg (tmC tm v1).toArray, .agg (tmC tm v2).toArray] w fun e w' => e = .returned (.bool true) ∧ Below w.heap.size w w' := by
  obtain ⟨n, hn⟩ : ∃ n, n = css.length := ⟨_, rfl⟩
  have HN : Hid (css.length = n) := Lib.hid hn.symm
  obtain ⟨a1, c1, rfl, hl, h10, hr1, _⟩ := h1
  obtain ⟨a2, c2, rfl, _, h20, hr2, _⟩ := h2
  rw [← hn] at hl ⊢
  have hn1 : (css.length : Nat) = css.length := rfl
  clear hn hn1
  obtain ⟨k, tx, sp, fi, f, t, mk⟩ := tm
  unfold tmC
  simp only
  obtain ⟨W2, hW2⟩ : ∃ W2, W2 = (w.alloc (.cells #[.int .i64 k, .string tx, .bool sp, .string fi, .int .i64 f, .int .i64 t, .bool mk, .slice a1 n c1] 34)).alloc (.cells #[.int .i64 k, .string tx, .bool sp, .string fi, .int .i64 f, .int .i64 t, .bool mk, .slice a2 n c2] 34) := ⟨_, rfl⟩
  have hb2 : Hid (Below w.heap.size w W2) := Lib.hid (by rw [hW2]; exact ((Below.refl _ w).alloc (Nat.le_refl _) _).alloc (by simp) _)
  obtain ⟨hn1, hn2⟩ := two_new w #[.int .i64 k, .string tx, .bool sp, .string fi, .int .i64 f, .int .i64 t, .bool mk, .slice a1 n c1] #[.int .i64 k, .string tx, .bool sp, .string fi, .int .i64 f, .int .i64 t, .bool mk, .slice a2 n c2] 34 34
  rw [← hW2] at hn1 hn2
  replace hn1 := Lib.hid hn1
  replace hn2 := Lib.hid hn2
  replace hr1 := Lib.hid hr1
  replace hr2 := Lib.hid hr2
  replace hty := Lib.hid hty
  go_enter Tryz.func31, Tryz.ntmps31
  go_wp2_with fail
  rw [← hW2]
  replace hW2 := Lib.hid hW2
  go_loopg [5] n (fun q v5 wx => ∃ i : Nat, q = n - i ∧ i ≤ n ∧ v5 = .int .i64 i ∧ Hid (Below W2.heap.size W2 wx))
  case atStart => exact ⟨0, rfl, Nat.zero_le _, rfl, Lib.hid (Below.refl _ _)⟩
  case round =>
    obtain ⟨i, hq, hi, rfl, hb⟩ := hrel
    replace hq := hq.symm
    subst hq
    obtain ⟨x0, x1, x2, x3, x4, x5, x6, x7⟩ := cells8 ((hb.out.block _ (lt_of_block hn1.out)).trans hn1.out)
    obtain ⟨y0, y1, y2, y3, y4, y5, y6, y7⟩ := cells8 ((hb.out.block _ (lt_of_block hn2.out)).trans hn2.out)
    by_cases hin : i < n
    · have hin' : (i : Int) < n := by omega
      have f4 : Hid (n - (i + 1) < n - i) := Lib.hid (by omega)
      have g1 : IntKind.i64.wrap ((i : Int) + 1) = (i : Int) + 1 := IntWalk.i64_in _ (by omega)
      obtain ⟨c, hc⟩ : ∃ c, css[i]? = some c := ⟨_, List.getElem?_eq_getElem (by rw [HN.out]; exact hin)⟩
      obtain ⟨sm, sf, s1, s2, s3, rfl⟩ := hty.out c (List.mem_of_getElem? hc)
      have hbw := hb2.out.trans (hb.out.mono hb2.out.size)
      obtain ⟨b1, o1, rfl, hat1⟩ := (hr1.out.below hbw) (by intro h; rw [h] at hc; simp at hc)
      obtain ⟨b2, o2, rfl, hat2⟩ := (hr2.out.below hbw) (by intro h; rw [h] at hc; simp at hc)
      obtain ⟨p0, p1, p2, p3, p4⟩ := site_at hat1 hc
      obtain ⟨r0, r1, r2, r3, r4⟩ := site_at hat2 hc
      clear hat1 hat2 hbw hc
      go_wp2_with fail
      go_region
      all_goals
        go_wp2_with fail
        go_roundg (n - (i + 1))
        case measure => exact f4.out
        case rel => exact ⟨i + 1, rfl, hin, by simp, Lib.hid hb.out.drew⟩
    · have hin' : ¬ (i : Int) < n := by omega
      have hbw := hb2.out.trans (hb.out.mono hb2.out.size)
      go_wp2
      go_ret
      exact ⟨rfl, hbw⟩
end Go.Proofs.YtfaoamdlknlgpaaGreat
