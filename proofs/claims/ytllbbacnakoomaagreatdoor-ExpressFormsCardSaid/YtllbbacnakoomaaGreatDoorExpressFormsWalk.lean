
/- ExpressForms: the walk. -/
import Derived.Test.YtllbbacnakoomaaGreatDoorE30
import Derived.Test.YtllbbacnakoomaaGreatDoorExpressFormsSpec
import Derived.Deep.RegionWith
namespace Go.Proofs.YtllbbacnakoomaaGreatDoor
open Go.RowKit
set_option linter.unusedVariables false

theorem tmod_at (k : Int) (m : Nat) (hm : 0 < m) : ∃ i : Nat, i < m ∧ (k.tmod m + m).tmod m = i ∧ -(m : Int) < k.tmod m ∧ k.tmod m < m := by
  have h1 : -(m : Int) < k.tmod m ∧ k.tmod m < m := by
    have h := Int.tmod_lt_of_pos k (b := (m : Int)) (by omega)
    have h2 := Int.lt_tmod_of_pos k (b := (m : Int)) (by omega)
    exact ⟨h2, h⟩
  refine ⟨((k.tmod m + m).tmod m).toNat, ?_, ?_, h1⟩
  · have h2 := Int.tmod_lt_of_pos (k.tmod m + m) (b := (m : Int)) (by omega)
    have h3 := Int.tmod_nonneg (a := k.tmod m + m) (m : Int) (by omega)
    omega
  · have h3 := Int.tmod_nonneg (a := k.tmod m + m) (m : Int) (by omega)
    omega

theorem wp_world {P : Program} {c : Code} {Q : Exit → Act → World → Prop} {a : Act} {w : World} (h : ∀ W, W = w → Code.wp P c Q a W) : Code.wp P c Q a w := h w rfl

set_option maxHeartbeats 4000000 in
set_option maxRecDepth 100000 in
theorem expressForms_walk (k : Int) (w : World) (hsp : SpTab w) :
    Calls Tryz.prog 6 #[.int .i64 k] w fun e w' => e = .returned (.bool true) ∧ Below w.heap.size w w' := by
  obtain ⟨i, hi, he, hr1, hr2⟩ := tmod_at k 25 (by omega)
  have hA := Lib.hid (fun (y : World) (hy : Below w.heap.size w y) => awake20_any y (hsp.below hy))
  have g : IntKind.i64.wrap (k.tmod 25 + 25) = k.tmod 25 + 25 := IntWalk.i64_in _ (by simp only [Int.cast_ofNat_Int] at hr1 hr2; omega)
  have he' : (k.tmod 25 + 25).tmod 25 = (i : Int) := he
  go_enter Tryz.func6, Tryz.ntmps6
  go_upto_region 4 with fail
  refine wp_world fun W hW => ?_
  have hx : ∀ l, expressFormsL[i]? = some l → W.cell? ⟨w.heap.size, i, none⟩ = some (.string ⟨l.toArray⟩) := fun l hl => by
    have h1 : W.heap[w.heap.size]? = some (.cells (expressFormsL.map fun l => Value.string ⟨l.toArray⟩).toArray 9 (0, 0)) := by
      rw [hW]; exact (heap_alloc_old _ _ (by simp)).trans (heap_alloc_new _ _)
    rw [Lib.cell_of_heap h1]
    simp [hl]
  have hy : ∀ l, expressFormsW[i]? = some l → W.cell? ⟨w.heap.size + 1, i, none⟩ = some (.string ⟨l.toArray⟩) := fun l hl => by
    have h1 : W.heap[w.heap.size + 1]? = some (.cells (expressFormsW.map fun l => Value.string ⟨l.toArray⟩).toArray 9 (0, 0)) := by
      rw [hW]; exact heap_alloc2_new _ _ _
    rw [Lib.cell_of_heap h1]
    simp [hl]
  have hbW : Below w.heap.size w W := by rw [hW]; exact ((Below.refl _ _).alloc (Nat.le_refl _) _).alloc (by simp) _
  obtain ⟨a, ha⟩ : ∃ a, expressFormsL[i]? = some a := ⟨expressFormsL[i]'(by show i < 25; exact hi), by simp⟩
  obtain ⟨o, ho⟩ : ∃ o, expressFormsW[i]? = some o := ⟨expressFormsW[i]'(by show i < 25; exact hi), by simp⟩
  have hz : (expressFormsL.zip expressFormsW)[i]? = some (a, o) := by rw [List.getElem?_zip_eq_some]; exact ⟨ha, ho⟩
  have hwr : writE a [] = some o := by
    have := List.all_eq_true.1 forms_all (a, o) (List.mem_of_getElem? hz)
    simpa using this
  have hal : a.length ≤ 1900 := by
    have h : (expressFormsL.all fun l => decide (l.length ≤ 1900)) = true := by kernel_rfl
    simpa using List.all_eq_true.1 h a (List.mem_of_getElem? ha)
  have hol : o.length ≤ 1000000 := by
    have h : (expressFormsW.all fun l => decide (l.length ≤ 1000000)) = true := by kernel_rfl
    simpa using List.all_eq_true.1 h o (List.mem_of_getElem? ho)
  have HR := wr20 hsp ⟨a.toArray⟩ (by show a.toArray.size ≤ _; simpa using hal) o hwr hol
  replace hx := hx a ha
  replace hy := hy o ho
  obtain ⟨AB, hAB⟩ : ∃ AB : ByteArray, AB = ⟨a.toArray⟩ := ⟨_, rfl⟩
  obtain ⟨OB, hOB⟩ : ∃ OB : ByteArray, OB = ⟨o.toArray⟩ := ⟨_, rfl⟩
  rw [← hAB] at HR hx
  simp only [← hOB] at HR
  rw [← hOB] at hy
  have HR := Lib.hid HR
  have hdW : Below W.heap.size W W.drew := (Below.refl _ W).drew
  have hbD : Hid (Below w.heap.size w W.drew) := Lib.hid (hbW.trans (hdW.mono hbW.size))
  have hbW := Lib.hid hbW
  have hK : Hid (∀ y, Below W.drew.heap.size W.drew y → y.cell? ⟨w.heap.size + 1, i, none⟩ = some (.string OB)) := Lib.hid fun y h => kept_cell (hdW.trans (h.mono hdW.size)) hy
  clear hW ha ho hz hwr hal hol hAB hOB he hsp g he'
  go_region_with (first
    | (go_at_call 18; (with_reducible refine (HR.out _ hbD.out).mono ?_); rintro e w2 ⟨rfl, hb2⟩; have hb3 := Lib.hid (hbD.out.trans (hb2.mono hbD.out.size)); have hy2 := hK.out _ hb2; clear hb2)
    | (go_at_call 19; (with_reducible refine (hA.out _ hb3.out).mono ?_); rintro e w3 ⟨rfl, hb4⟩))
  all_goals
    go_wp2
    go_ret
    exact ⟨rfl, hb3.out.trans (hb4.mono hb3.out.size)⟩
end Go.Proofs.YtllbbacnakoomaaGreatDoor
