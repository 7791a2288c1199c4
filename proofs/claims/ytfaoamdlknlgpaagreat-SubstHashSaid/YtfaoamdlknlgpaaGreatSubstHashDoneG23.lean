/- Texts of this seat's proofs, laid into one file. -/
import Derived.Test.YtfaoamdlknlgpaaGreatSubstHashDoneG16
import Derived.Test.YtfaoamdlknlgpaaGreatSubstHashDoneG22
import Derived.Test.YtfaoamdlknlgpaaGreatSubstHashDoneG19
import Derived.Test.YtfaoamdlknlgpaaGreatSubstHashDoneG14
import Derived.Deep.RegionHeld3
/- subst: Paste. -/
namespace Go.Proofs.YtfaoamdlknlgpaaGreat
open Go.RowKit
set_option linter.unusedVariables false

def PastePost (ta tb : Tm) (css : List (List Value)) (B : Nat) (e : Ending) (w' : World) : Prop :=
  match oneK (ta.text ++ tb.text).data.toList with
  | none => e = .returned (.tuple #[.agg zeroTok.toArray, .bool false])
  | some k => ∃ v', e = .returned (.tuple #[.agg (tmC ⟨k, ta.text ++ tb.text, ta.sp, ta.file, ta.f, ta.t, true⟩ v').toArray, .bool true]) ∧ Own w' B 66 5 v' css

set_option maxRecDepth 100000 in
set_option maxHeartbeats 2000000 in
theorem sPaste_any (ta tb : Tm) (va vb : Value) (css : List (List Value)) (hsz : ta.text.size + tb.text.size ≤ 1000) (w : World) (hva : SiteIn w va css) (hvb : SlV vb) :
    Calls Tryz.prog 33 #[.agg (tmC ta va).toArray, .agg (tmC tb vb).toArray] w fun e w' => PastePost ta tb css w.heap.size e w' ∧ Below w.heap.size w w' := by
  obtain ⟨ka, xa, pa, fa, f1, t1, ma⟩ := ta
  obtain ⟨kb, xb, pb, fb, f2, t2, mb⟩ := tb
  obtain ⟨ba, bn, bc, rfl⟩ := hvb
  have hva' := Lib.hid hva
  obtain ⟨aa, ac, rfl, _⟩ := hva
  obtain ⟨an, han⟩ : ∃ an, an = css.length := ⟨_, rfl⟩
  rw [← han] at hva' ⊢
  replace han := Lib.hid han
  simp only at hsz
  obtain ⟨s, hs⟩ : ∃ s, s = xa ++ xb := ⟨_, rfl⟩
  have hss : s.size ≤ 1000 := by rw [hs, ByteArray.size_append]; exact hsz
  unfold PastePost
  simp only
  rw [← hs]
  have hcat : ¬ 9223372036854775807 < xa.size + xb.size := by omega
  have hcat2 : xa.size + xb.size ≤ 9223372036854775807 := by omega
  unfold tmC
  simp only
  obtain ⟨A, hA⟩ : ∃ A : Array Value, A = #[.int .i64 ka, .string xa, .bool pa, .string fa, .int .i64 f1, .int .i64 t1, .bool ma, .slice aa an ac] := ⟨_, rfl⟩
  obtain ⟨B, hB⟩ : ∃ B : Array Value, B = #[.int .i64 kb, .string xb, .bool pb, .string fb, .int .i64 f2, .int .i64 t2, .bool mb, .slice ba bn bc] := ⟨_, rfl⟩
  obtain ⟨W3, hW3⟩ : ∃ W3, W3 = ((w.alloc (.cells A 34)).alloc (.cells B 34)).alloc (.cells #[.int .i64 0, .string ⟨#[]⟩, .bool false, .string ⟨#[]⟩, .int .i64 0, .int .i64 0, .bool false, .slice none 0 0] 34) := ⟨_, rfl⟩
  have b3 : Hid (Below w.heap.size w W3) := Lib.hid (by rw [hW3]; exact (((Below.refl _ w).alloc (Nat.le_refl _) _).alloc (by simp) _).alloc (by simp; omega) _)
  have hN3 : Hid (w.heap.size + 3 = W3.heap.size) := Lib.hid (by rw [hW3]; simp)
  have hcA : Hid (W3.heap[w.heap.size]? = some (.cells #[.int .i64 ka, .string xa, .bool pa, .string fa, .int .i64 f1, .int .i64 t1, .bool ma, .slice aa an ac] 34 (0, 0))) := Lib.hid (by rw [hW3, ← hA]; exact (Lib.alloc_old _ _ _ (by simp; omega)).trans (two_new w _ _ _ _).1)
  have hcR : Hid (W3.heap[w.heap.size + 2]? = some (.cells #[.int .i64 0, .string ⟨#[]⟩, .bool false, .string ⟨#[]⟩, .int .i64 0, .int .i64 0, .bool false, .slice none 0 0] 34 (0, 0))) := Lib.hid (by
    have := heap_alloc_new ((w.alloc (.cells A 34)).alloc (.cells B 34)) (.cells #[.int .i64 0, .string ⟨#[]⟩, .bool false, .string ⟨#[]⟩, .int .i64 0, .int .i64 0, .bool false, .slice none 0 0] 34)
    rw [← hW3] at this
    simpa using this)
  have HO : Calls Tryz.prog 39 #[.string s] W3 fun e w' => e = .returned (.tuple #[.agg (oneTok s.data.toList).toArray, .bool (oneK s.data.toList).isSome]) ∧ Below W3.heap.size W3 w' := (lexOne_any s hss W3).mono fun e w' ⟨h1, h2⟩ => ⟨one_plain h1, h2⟩
  cases hk : oneK s.data.toList with
  | none =>
    have ht : oneTok s.data.toList = zeroTok := by unfold oneTok; rw [hk]
    rw [ht, hk] at HO
    unfold zeroTok at HO ⊢
    replace HO := Lib.hid HO
    rw [hA, hB] at hW3
    clear hk ht hA hB
    simp only
    go_enter Tryz.func33, Tryz.ntmps33
    go_wp2_with fail
    rw [← hs, ← hW3]
    replace hW3 := Lib.hid hW3
    replace hs := Lib.hid hs
    refine HO.out.mono ?_
    rintro e w4 ⟨rfl, b4⟩
    obtain ⟨wq, hwq⟩ : ∃ wq, wq = w4.alloc (.cells #[.int .i64 0, .string ⟨#[]⟩, .bool false, .string ⟨#[]⟩, .int .i64 0, .int .i64 0, .bool false, .slice none 0 0] 34) := ⟨_, rfl⟩
    have b4q : Below W3.heap.size W3 wq := by rw [hwq]; exact b4.alloc b4.size _
    have hBq : Below w.heap.size w wq := b3.out.trans (b4q.mono b3.out.size)
    have hRq := (b4q.block (w.heap.size + 2) (lt_of_block hcR.out)).trans hcR.out
    have hfin : Hid (Below w.heap.size w (set8 wq (w.heap.size + 2) (.int .i64 0) (.string ⟨#[]⟩) (.bool false) (.string ⟨#[]⟩) (.int .i64 0) (.int .i64 0) (.bool false) (.slice none 0 0))) := Lib.hid (set8_below hBq (Nat.le_add_right _ _))
    have hg := set8_at (b0 := .int .i64 0) (b1 := .string ⟨#[]⟩) (b2 := .bool false) (b3 := .string ⟨#[]⟩) (b4 := .int .i64 0) (b5 := .int .i64 0) (b6 := .bool false) (b7 := .slice none 0 0) hRq
    obtain ⟨m0, m1, m2, m3, m4, m5, m6, m7⟩ := cells8x hg
    clear hg
    unfold set8 at m0 m1 m2 m3 m4 m5 m6 m7
    have fr := fun j => Lib.frozen_of_heap hRq j
    obtain ⟨r0, r1, r2, r3, r4, r5, r6, r7⟩ := cells8x hRq
    go_upto_region 2 with fail
    rw [← hwq]
    replace hwq := Lib.hid hwq
    go_wp2
    refine bodyPost_ret (v := .tuple #[.agg #[.int .i64 0, .string ⟨#[]⟩, .bool false, .string ⟨#[]⟩, .int .i64 0, .int .i64 0, .bool false, .slice none 0 0], .bool false]) (by simp [results, Tryz.results33, go_sem, m0, m1, m2, m3, m4, m5, m6, m7]) rfl ?_
    exact ⟨rfl, hfin.out⟩
  | some k =>
    have ht : oneTok s.data.toList = [.int .i64 k, .string s, .bool false, .string ⟨#[]⟩, .int .i64 0, .int .i64 0, .bool false, .slice none 0 0] := by
      have h2 : (⟨s.data.toList.toArray⟩ : ByteArray) = s := by cases s; simp
      unfold oneTok
      rw [hk, h2]
    rw [ht, hk] at HO
    replace HO := Lib.hid HO
    rw [hA, hB] at hW3
    clear hk ht hA hB
    simp only
    go_enter Tryz.func33, Tryz.ntmps33
    go_wp2_with fail
    rw [← hs, ← hW3]
    replace hW3 := Lib.hid hW3
    replace hs := Lib.hid hs
    refine HO.out.mono ?_
    rintro e w4 ⟨rfl, b4⟩
    replace b4 := Lib.hid b4
    obtain ⟨wq, hwq⟩ : ∃ wq, wq = w4.alloc (.cells #[.int .i64 k, .string s, .bool false, .string ⟨#[]⟩, .int .i64 0, .int .i64 0, .bool false, .slice none 0 0] 34) := ⟨_, rfl⟩
    have bq : Hid (Below w4.heap.size w4 wq) := Lib.hid (by rw [hwq]; exact (Below.refl _ w4).alloc (Nat.le_refl _) _)
    have hsq : Hid (w4.heap.size < wq.heap.size) := Lib.hid (by rw [hwq]; simp)
    have hc6 : Hid (wq.heap[w4.heap.size]? = some (.cells #[.int .i64 k, .string s, .bool false, .string ⟨#[]⟩, .int .i64 0, .int .i64 0, .bool false, .slice none 0 0] 34 (0, 0))) := Lib.hid (by rw [hwq]; exact heap_alloc_new w4 _)
    have HF : Hid (∀ x, Below w4.heap.size w4 x → x.cell? ⟨w.heap.size, 2, none⟩ = some (.bool pa) ∧ x.cell? ⟨w.heap.size, 3, none⟩ = some (.string fa) ∧ x.cell? ⟨w.heap.size, 4, none⟩ = some (.int .i64 f1) ∧ x.cell? ⟨w.heap.size, 5, none⟩ = some (.int .i64 t1) ∧ x.cell? ⟨w.heap.size, 7, none⟩ = some (.slice aa an ac)) := Lib.hid fun x hx => by
      obtain ⟨c0, c1, c2, c3, c4, c5, c6, c7⟩ := cells8 ((hx.block _ (lt_of_block ((b4.out.block _ (lt_of_block hcA.out)).trans hcA.out))).trans ((b4.out.block _ (lt_of_block hcA.out)).trans hcA.out))
      exact ⟨c2, c3, c4, c5, c7⟩
    have HCl : Hid (∀ x, Below w4.heap.size w4 x → wq.heap.size ≤ x.heap.size → Calls Tryz.prog 59 #[.slice aa an ac] x fun e w' => ∃ v', e = .returned v' ∧ Below w4.heap.size w4 w' ∧ Below x.heap.size x w' ∧ Own w' wq.heap.size 66 5 v' css) := Lib.hid fun x hx hqx =>
      (mClone_any (.slice aa an ac) css wq.heap.size x hqx ((hva'.out.below b3.out).below (b4.out.trans (hx.mono b4.out.size)))).mono fun e w' ⟨v', h1, h2, h3, _⟩ => ⟨v', h1, hx.trans (h2.mono hx.size), h2, h3⟩
    have hb0 := bq.out.drew
    have hq0 : wq.heap.size ≤ wq.drew.heap.size := Nat.le_refl _
    go_upto_region 4 with fail
    rw [← hwq]
    replace hwq := Lib.hid hwq
    go_cut [] from 20 to 30 (fun wx => ∃ va vc, Hid (wx.heap[w4.heap.size]? = some (.cells #[.int .i64 k, .string s, .bool pa, .string fa, .int .i64 f1, .int .i64 t1, .bool true, .slice va an vc] 34 (0, 0))) ∧ Hid (Own wx wq.heap.size 66 5 (.slice va an vc) css) ∧ Hid (Below w4.heap.size w4 wx))
    case first =>
      have hd0 := HF.out _ hb0
      obtain ⟨s2, s3, s4, s5, s7⟩ := hd0
      go_region_held3 (fun x : World => x.cell? ⟨w.heap.size, 2, none⟩ = some (.bool pa) ∧ x.cell? ⟨w.heap.size, 3, none⟩ = some (.string fa) ∧ x.cell? ⟨w.heap.size, 4, none⟩ = some (.int .i64 f1) ∧ x.cell? ⟨w.heap.size, 5, none⟩ = some (.int .i64 t1) ∧ x.cell? ⟨w.heap.size, 7, none⟩ = some (.slice aa an ac)) (first | with_reducible exact ⟨s2, s3, s4, s5, s7⟩ | with_reducible exact hx5 | with_reducible exact hx6 | with_reducible exact hx7 | with_reducible exact hx8 | with_reducible exact hx9 | with_reducible assumption) (first | (go_at_call 59; refine (HCl.out _ hb0 hq0).mono ?_; rintro e w5 ⟨v5, rfl, hb5, hbx5, hown5⟩; obtain ⟨va5, vc5, rfl, _, _, _, _⟩ := hown5.rown (n := an) han.out.symm; have hx5 := HF.out w5 hb5; have e1 := hb5.setCell (p := ⟨w4.heap.size, 2, none⟩) (Nat.le_refl _) (.bool pa); have hx6 := HF.out _ e1; have e2 := ((e1.setCell (p := ⟨w4.heap.size, 3, none⟩) (Nat.le_refl _) (.string fa)).setCell (p := ⟨w4.heap.size, 4, none⟩) (Nat.le_refl _) (.int .i64 f1)).setCell (p := ⟨w4.heap.size, 5, none⟩) (Nat.le_refl _) (.int .i64 t1); have hx7 := HF.out _ e2; have e3 := e2.setCell (p := ⟨w4.heap.size, 7, none⟩) (Nat.le_refl _) (.slice va5 an vc5); have hx8 := HF.out _ e3; have e4 := e3.setCell (p := ⟨w4.heap.size, 6, none⟩) (Nat.le_refl _) (.bool true); have hx9 := HF.out _ e4; have hh5 : w5.heap[w4.heap.size]? = some (.cells #[.int .i64 k, .string s, .bool false, .string ⟨#[]⟩, .int .i64 0, .int .i64 0, .bool false, .slice none 0 0] 34 (0, 0)) := (hbx5.block _ (lt_of_block hc6.out)).trans hc6.out; have fr := fun j => Lib.frozen_of_heap hh5 j; obtain ⟨r0, r1, r2, r3, r4, r5, r6, r7⟩ := cells8x hh5))
      all_goals
        go_wp2_with fail
        go_meet
        case rel =>
          refine ⟨va5, vc5, Lib.hid ?_, Lib.hid ?_, Lib.hid e4⟩
          · have := set_at (set_at (set_at (set_at (set_at (set_at hh5 2 (.bool pa)) 3 (.string fa)) 4 (.int .i64 f1)) 5 (.int .i64 t1)) 7 (.slice va5 an vc5)) 6 (.bool true)
            simpa using this
          · exact (((((hown5.setBelow hsq.out (.bool pa)).setBelow hsq.out (.string fa)).setBelow hsq.out (.int .i64 f1)).setBelow hsq.out (.int .i64 t1)).setBelow hsq.out (.slice va5 an vc5)).setBelow hsq.out (.bool true)
    case rest =>
      obtain ⟨va5, vc5, hh5, hown5, hbc⟩ := hcut
      have hBc : Below w.heap.size w wc := b3.out.trans ((b4.out.trans (hbc.out.mono b4.out.size)).mono b3.out.size)
      have hcR4 := (b4.out.block (w.heap.size + 2) (lt_of_block hcR.out)).trans hcR.out
      have hRq := (hbc.out.block (w.heap.size + 2) (lt_of_block hcR4)).trans hcR4
      have hfin : Hid (Below w.heap.size w (set8 wc (w.heap.size + 2) (.int .i64 k) (.string s) (.bool pa) (.string fa) (.int .i64 f1) (.int .i64 t1) (.bool true) (.slice va5 an vc5))) := Lib.hid (set8_below hBc (Nat.le_add_right _ _))
      have hlt : w.heap.size + 2 < wq.heap.size := Nat.lt_of_lt_of_le (lt_of_block hcR4) (Nat.le_of_lt hsq.out)
      have hofin : Hid (Own (set8 wc (w.heap.size + 2) (.int .i64 k) (.string s) (.bool pa) (.string fa) (.int .i64 f1) (.int .i64 t1) (.bool true) (.slice va5 an vc5)) w.heap.size 66 5 (.slice va5 an vc5) css) := Lib.hid (by
        unfold set8
        exact ((((((((hown5.out.setBelow hlt _).setBelow hlt _).setBelow hlt _).setBelow hlt _).setBelow hlt _).setBelow hlt _).setBelow hlt _).setBelow hlt _).mono (by omega))
      have hg := set8_at (b0 := .int .i64 k) (b1 := .string s) (b2 := .bool pa) (b3 := .string fa) (b4 := .int .i64 f1) (b5 := .int .i64 t1) (b6 := .bool true) (b7 := .slice va5 an vc5) hRq
      obtain ⟨m0, m1, m2, m3, m4, m5, m6, m7⟩ := cells8x hg
      clear hg
      unfold set8 at m0 m1 m2 m3 m4 m5 m6 m7
      have fr := fun j => Lib.frozen_of_heap hRq j
      obtain ⟨r0, r1, r2, r3, r4, r5, r6, r7⟩ := cells8x hRq
      obtain ⟨y0, y1, y2, y3, y4, y5, y6, y7⟩ := cells8x hh5.out
      clear hlt
      go_wp2
      refine bodyPost_ret (v := .tuple #[.agg #[.int .i64 k, .string s, .bool pa, .string fa, .int .i64 f1, .int .i64 t1, .bool true, .slice va5 an vc5], .bool true]) (by simp [results, Tryz.results33, go_sem, m0, m1, m2, m3, m4, m5, m6, m7]) rfl ?_
      exact ⟨⟨.slice va5 an vc5, rfl, hofin.out⟩, hfin.out⟩
end Go.Proofs.YtfaoamdlknlgpaaGreat
