
/- ExpressDeclares: the walk. -/
import Derived.Test.YtllbbacnakoomaaGreatDoorLwX
import Derived.Test.YtllbbacnakoomaaGreatDoorExpressDeclaresSpec
import Derived.Deep.RegionWith
namespace Go.Proofs.YtllbbacnakoomaaGreatDoor
open Go.RowKit
set_option linter.unusedVariables false

set_option maxHeartbeats 8000000 in
set_option maxRecDepth 100000 in
theorem expressDeclares_walk (a0 : Int) (w0 : (Lit.int .i64 a0).wf = true) (w : World) (hsp : SpTab w) :
    Calls Tryz.prog 8 #[.int .i64 a0] w fun e w' => e = .returned (.bool true) ∧ Below w.heap.size w w' := by
  obtain ⟨i, hi, he, hr1, hr2⟩ := tmod_at a0 21 (by omega)
  have hA := Lib.hid (fun (y : World) (hy : Below w.heap.size w y) => awake20_any y (hsp.below hy))
  have g : IntKind.i64.wrap (a0.tmod 21 + 21) = a0.tmod 21 + 21 := IntWalk.i64_in _ (by simp only [Int.cast_ofNat_Int] at hr1 hr2; omega)
  have he' : (a0.tmod 21 + 21).tmod 21 = (i : Int) := he
  clear hr1 hr2 he w0
  go_enter Tryz.func8, Tryz.ntmps8
  go_upto_region 4 with fail
  refine wp_world fun W hW => ?_
  have hx : ∀ l, expressDeclaresL[i]? = some l → W.cell? ⟨w.heap.size, i, none⟩ = some (.string ⟨l.toArray⟩) := fun l hl => by
    have h1 : W.heap[w.heap.size]? = some (.cells (expressDeclaresL.map fun l => Value.string ⟨l.toArray⟩).toArray 9 (0, 0)) := by
      rw [hW]; exact (heap_alloc_old _ _ (by simp)).trans (heap_alloc_new _ _)
    rw [Lib.cell_of_heap h1]
    simp [hl]
  have hy : ∀ l, expressDeclaresW[i]? = some l → W.cell? ⟨w.heap.size + 1, i, none⟩ = some (.string ⟨l.toArray⟩) := fun l hl => by
    have h1 : W.heap[w.heap.size + 1]? = some (.cells (expressDeclaresW.map fun l => Value.string ⟨l.toArray⟩).toArray 9 (0, 0)) := by
      rw [hW]; exact heap_alloc2_new _ _ _
    rw [Lib.cell_of_heap h1]
    simp [hl]
  have hbW : Below w.heap.size w W := by rw [hW]; exact ((Below.refl _ _).alloc (Nat.le_refl _) _).alloc (by simp) _
  obtain ⟨a, ha⟩ : ∃ a, expressDeclaresL[i]? = some a := ⟨expressDeclaresL[i]'(by show i < 21; exact hi), by simp⟩
  obtain ⟨o, ho⟩ : ∃ o, expressDeclaresW[i]? = some o := ⟨expressDeclaresW[i]'(by show i < 21; exact hi), by simp⟩
  have hz : (expressDeclaresL.zip expressDeclaresW)[i]? = some (a, o) := by rw [List.getElem?_zip_eq_some]; exact ⟨ha, ho⟩
  have hq := List.all_eq_true.1 declares_quick a (List.mem_of_getElem? ha)
  have hwr := decl_same (quick_same hq) (List.all_eq_true.1 declares_all (a, o) (List.mem_of_getElem? hz))
  simp only at hwr
  obtain ⟨n, s', hr, hbad, hat, hout, hname⟩ := hwr
  have hal : a.length ≤ 1900 := by
    have h : (expressDeclaresL.all fun l => decide (l.length ≤ 1900)) = true := by kernel_rfl
    simpa using List.all_eq_true.1 h a (List.mem_of_getElem? ha)
  have hol : o.length ≤ 1000000 := by
    have h : (expressDeclaresW.all fun l => decide (l.length ≤ 1000000)) = true := by kernel_rfl
    simpa using List.all_eq_true.1 h o (List.mem_of_getElem? ho)
  have HT := fun w => toks20_any ⟨a.toArray⟩ (by show a.toArray.size ≤ _; simpa using hal) w
  have hfc := toksU_facts (s := ⟨a.toArray⟩) (by show a.toArray.size ≤ _; simpa using hal)
  simp only at HT hfc
  obtain ⟨L, hL⟩ : ∃ L, L = toksU a := ⟨_, rfl⟩
  rw [← hL] at hfc hat
  unfold declrOf at hr
  rw [← hL] at hr
  simp only [← hL] at HT
  obtain ⟨hL1, hL2⟩ := hfc
  replace hx := hx a ha
  replace hy := hy o ho
  obtain ⟨AB, hAB⟩ : ∃ AB : ByteArray, AB = ⟨a.toArray⟩ := ⟨_, rfl⟩
  obtain ⟨OB, hOB⟩ : ∃ OB : ByteArray, OB = ⟨o.toArray⟩ := ⟨_, rfl⟩
  rw [← hAB] at hx
  simp only [← hAB] at HT
  rw [← hOB] at hy
  have hbW2 := Lib.hid hbW
  have hi' : (i : Int) < 21 := by omega
  have HY : Hid (∀ y, Below W.heap.size W y → y.cell? ⟨w.heap.size + 1, i, none⟩ = some (.string OB)) := Lib.hid fun y h => kept_cell h hy
  have hsp' := Lib.hid hsp
  have HT := Lib.hid HT
  replace hr := Lib.hid hr
  replace hL2 := Lib.hid hL2
  replace hout := Lib.hid hout
  replace hname := Lib.hid hname
  clear hW ha ho hz hal hAB hq hL he' g hsp hbW hy
  replace hOB := Lib.hid hOB
  go_wp2_with fail
  refine (HT.out _).mono ?_
  rintro e w1 ⟨vo, rfl, ho2, hb2⟩
  obtain ⟨a2, c2, rfl, hc2, _, hr2, _⟩ := ho2.rown (n := L.length) (by rw [List.length_map])
  have hWx := Lib.hid hb2
  have hbx := Lib.hid (hbW2.out.trans (hb2.mono hbW2.out.size))
  have HM := Lib.hid (made20_any L a2 c2 L.length rfl (by omega) w1 hr2)
  clear HT hx ho2 hr2 hb2
  go_wp2_with fail
  refine HM.out.mono ?_
  rintro e w3 ⟨vm, rfl, ho3, hb3⟩
  replace hWx := Lib.hid (hWx.out.trans (hb3.mono hWx.out.size))
  replace hbx := Lib.hid (hbx.out.trans (hb3.mono hbx.out.size))
  obtain ⟨ta, tc, rfl, hta⟩ := tkAt_own ho3 hL1 hL2.out (hsp'.out.below hbx.out)
  replace hta := Lib.hid hta
  clear HM hb3 ho3
  go_wp2_with fail
  refine (new_any _).mono ?_
  rintro e w4 ⟨⟨p, rfl, hev⟩, hb4⟩
  have HE := Lib.hid (eDeclr_any (nest := 0) (i := 0) (mode := 0) (hta.out.below hb4) hev (by omega) (by omega) (by omega) (by omega) hr.out)
  replace hWx := Lib.hid (hWx.out.trans (hb4.mono hWx.out.size))
  replace hbx := Lib.hid (hbx.out.trans (hb4.mono hbx.out.size))
  clear hb4 hev
  go_wp2_with fail
  refine HE.out.mono ?_
  rintro e w5 ⟨m, ma, mc, q4, rfl, hm, hnd, _, _, hb5⟩
  clear HE
  obtain rfl : m = n := by rw [hm, hbad]; rfl
  have hv : ndV m ma mc = .agg #[.string m.kind, .string m.text, .int .i64 m.from_, .int .i64 m.to_, .slice ma m.kids.length mc] := rfl
  rw [hv]
  clear hv hm
  replace hWx := Lib.hid (hWx.out.trans (hb5.mono hWx.out.size))
  replace hbx := Lib.hid (hbx.out.trans (hb5.mono hbx.out.size))
  go_upto_region 6 with fail
  refine wp_world fun V hV => ?_
  have hbV : Below w5.heap.size w5 V := by rw [hV]; exact ((Below.refl _ _).alloc (Nat.le_refl _) _).alloc (by simp) _
  have hB1 : V.heap[w5.heap.size]? = some (bxO m ma mc) := by rw [hV]; exact (heap_alloc_old _ _ (by simp)).trans (heap_alloc_new _ _)
  have hB2 : V.heap[w5.heap.size + 1]? = some (paO L ta tc ((L.length : Int) - 1) q4 0) := by rw [hV]; exact heap_alloc2_new _ _ _
  have hol2 : (T.out m).length ≤ 1000000000 := by rw [hout.out]; omega
  have HV : Hid (∀ y, Below V.heap.size V y → y.heap[w5.heap.size]? = some (bxO m ma mc) ∧ y.heap[w5.heap.size + 1]? = some (paO L ta tc ((L.length : Int) - 1) q4 0) ∧ y.cell? ⟨w.heap.size + 1, i, none⟩ = some (.string OB) ∧ Below w.heap.size w y ∧ Calls Tryz.prog 28 #[.agg #[.string m.kind, .string m.text, .int .i64 m.from_, .int .i64 m.to_, .slice ma m.kids.length mc]] y (fun e w' => e = .returned (.string OB) ∧ Below y.heap.size y w') ∧ Calls Tryz.prog 29 #[.agg #[.string m.kind, .string m.text, .int .i64 m.from_, .int .i64 m.to_, .slice ma m.kids.length mc]] y (fun e w' => e = .returned (.string (⟨#[97]⟩ : ByteArray)) ∧ Below y.heap.size y w')) := Lib.hid fun y hy => by
    have hy5 := hbV.trans (hy.mono hbV.size)
    refine ⟨(hy.block _ (lt_of_block hB1)).trans hB1, (hy.block _ (lt_of_block hB2)).trans hB2, HY.out _ (hWx.out.trans (hy5.mono hWx.out.size)), hbx.out.trans (hy5.mono hbx.out.size), ?_, ?_⟩
    · have h := tWrite_any m (ndC m ma mc) _ y (hnd.below hy5) (by omega)
      rw [hout.out, ← hOB.out] at h
      exact h
    · have h := name_any (hnd.below hy5)
      rw [hname.out] at h
      exact h
  have g7 : IntKind.i64.wrap ((L.length : Int) - 1) = (L.length : Int) - 1 := IntWalk.i64_in _ (by omega)
  have hdV : Below V.heap.size V V.drew := (Below.refl _ V).drew
  obtain ⟨b1, b2, b3, hbw, HWr, HNm⟩ := HV.out _ hdV
  obtain ⟨n0, n1, n2, n3, n4, nf⟩ := nd_cells b1
  obtain ⟨p0, p1, p2, p3, pf⟩ := pa_cells b2
  have HWr := Lib.hid HWr
  clear HNm b1 b2 hV hB1 hB2 hol2 hnd hout hname hWx hbx hta HY hOB hr hL2 hsp' hat hbV
  replace hbad := Lib.hid hbad
  go_region_with (first
    | (go_at_call 28; (with_reducible refine HWr.out.mono ?_); rintro e w6 ⟨rfl, hb6⟩; have hV6 := hdV.trans (hb6.mono hdV.size); obtain ⟨b1, b2, b3, hbw6, _, HN6⟩ := HV.out _ hV6; obtain ⟨n0, n1, n2, n3, n4, nf⟩ := nd_cells b1; have HN6 := Lib.hid HN6)
    | (go_at_call 29; (with_reducible refine HN6.out.mono ?_); rintro e w7 ⟨rfl, hb7⟩; have hV7 := Lib.hid (hV6.trans (hb7.mono hV6.size)); have hbw7 := Lib.hid (HV.out _ hV7.out).2.2.2.1)
    | (go_at_call 19; (with_reducible refine (hA.out _ hbw7.out).mono ?_); rintro e w8 ⟨rfl, hb8⟩; have hb9 := Lib.hid (hbw7.out.trans (hb8.mono hbw7.out.size))))
  all_goals
    go_wp2_with fail
    go_ret
    exact ⟨rfl, hb9.out⟩
end Go.Proofs.YtllbbacnakoomaaGreatDoor
