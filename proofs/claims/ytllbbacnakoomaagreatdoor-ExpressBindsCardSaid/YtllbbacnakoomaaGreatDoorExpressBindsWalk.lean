
/- ExpressBinds: the walk. -/
import Derived.Test.YtllbbacnakoomaaGreatDoorLwX
import Derived.Test.YtllbbacnakoomaaGreatDoorExpressBindsSpec
import Derived.Deep.RegionWith
namespace Go.Proofs.YtllbbacnakoomaaGreatDoor
open Go.RowKit
set_option linter.unusedVariables false

theorem bind_row : (binOps.all fun l => decide (1 ≤ l.length) && decide (l.length ≤ 2)) = true := by kernel_rfl
theorem lev_row : (binLev.all fun l => decide (l ≤ 9)) = true := by kernel_rfl
set_option maxHeartbeats 4000000 in
set_option maxRecDepth 100000 in
theorem expressBinds_walk (a0 : Int) (w0 : (Lit.int .i64 a0).wf = true) (a1 : Int) (w1 : (Lit.int .i64 a1).wf = true) (w : World) (hsp : SpTab w) :
    Calls Tryz.prog 3 #[.int .i64 a0, .int .i64 a1] w fun e w' => e = .returned (.bool true) ∧ Below w.heap.size w w' := by
  obtain ⟨i, hi, he, hr1, hr2⟩ := tmod_at a0 18 (by omega)
  obtain ⟨j, hj, hf, hs1, hs2⟩ := tmod_at a1 18 (by omega)
  have hA := Lib.hid (fun (y : World) (hy : Below w.heap.size w y) => awake20_any y (hsp.below hy))
  have g : IntKind.i64.wrap (a0.tmod 18 + 18) = a0.tmod 18 + 18 := IntWalk.i64_in _ (by simp only [Int.cast_ofNat_Int] at hr1 hr2; omega)
  have he' : (a0.tmod 18 + 18).tmod 18 = (i : Int) := he
  have g2 : IntKind.i64.wrap (a1.tmod 18 + 18) = a1.tmod 18 + 18 := IntWalk.i64_in _ (by simp only [Int.cast_ofNat_Int] at hs1 hs2; omega)
  have hf' : (a1.tmod 18 + 18).tmod 18 = (j : Int) := hf
  clear hr1 hr2 hs1 hs2 he hf w0 w1
  go_enter Tryz.func3, Tryz.ntmps3
  go_upto_region 4 with fail
  refine wp_world fun W hW => ?_
  have hb1 : W.heap[w.heap.size]? = some (.cells (binOps.map fun l => Value.string ⟨l.toArray⟩).toArray 9 (0, 0)) := by
    rw [hW]; exact (heap_alloc_old _ _ (by simp)).trans (heap_alloc_new _ _)
  have hb2 : W.heap[w.heap.size + 1]? = some (.cells (binLev.map fun (l : Nat) => Value.int .i64 (l : Int)).toArray 3 (0, 0)) := by
    rw [hW]; exact heap_alloc2_new _ _ _
  have hbW : Below w.heap.size w W := by rw [hW]; exact ((Below.refl _ _).alloc (Nat.le_refl _) _).alloc (by simp) _
  obtain ⟨x, hx⟩ : ∃ x, binOps[i]? = some x := ⟨binOps[i]'(by show i < 18; exact hi), by simp⟩
  obtain ⟨y, hy⟩ : ∃ y, binOps[j]? = some y := ⟨binOps[j]'(by show j < 18; exact hj), by simp⟩
  obtain ⟨p, hp⟩ : ∃ p, binLev[i]? = some p := ⟨binLev[i]'(by show i < 18; exact hi), by simp⟩
  obtain ⟨q, hq⟩ : ∃ q, binLev[j]? = some q := ⟨binLev[j]'(by show j < 18; exact hj), by simp⟩
  have hwr : writE (bindS x y) [] = some (bindW p q x y) := by
    have h1 := List.all_eq_true.1 binds_all i (List.mem_range.2 hi)
    have h2 := List.all_eq_true.1 h1 j (List.mem_range.2 hj)
    simp only [List.getD_eq_getElem?_getD, hx, hy, hp, hq, Option.getD_some, beq_iff_eq] at h2
    exact h2
  have hxl := List.all_eq_true.1 bind_row x (List.mem_of_getElem? hx)
  have hyl := List.all_eq_true.1 bind_row y (List.mem_of_getElem? hy)
  simp only [Bool.and_eq_true, decide_eq_true_eq] at hxl hyl
  have hpl : p ≤ 9 := by simpa using List.all_eq_true.1 lev_row p (List.mem_of_getElem? hp)
  have hql : q ≤ 9 := by simpa using List.all_eq_true.1 lev_row q (List.mem_of_getElem? hq)
  obtain ⟨X, hX⟩ : ∃ X : ByteArray, X = ⟨x.toArray⟩ := ⟨_, rfl⟩
  obtain ⟨Y, hY⟩ : ∃ Y : ByteArray, Y = ⟨y.toArray⟩ := ⟨_, rfl⟩
  have hXs : X.size ≤ 2 := by rw [hX]; show x.toArray.size ≤ 2; simpa using hxl.2
  have hYs : Y.size ≤ 2 := by rw [hY]; show y.toArray.size ≤ 2; simpa using hyl.2
  have hXl : X.data.toList = x := by rw [hX]
  have hYl : Y.data.toList = y := by rw [hY]
  have HC : Hid (∀ z, Below W.heap.size W z → z.cell? ⟨w.heap.size, i, none⟩ = some (.string X) ∧ z.cell? ⟨w.heap.size, j, none⟩ = some (.string Y) ∧ z.cell? ⟨w.heap.size + 1, i, none⟩ = some (.int .i64 p) ∧ z.cell? ⟨w.heap.size + 1, j, none⟩ = some (.int .i64 q)) := Lib.hid fun z hz => by
    refine ⟨kept_cell hz ?_, kept_cell hz ?_, kept_cell hz ?_, kept_cell hz ?_⟩
    · rw [Lib.cell_of_heap hb1]; simp [hx, hX]
    · rw [Lib.cell_of_heap hb1]; simp [hy, hY]
    · rw [Lib.cell_of_heap hb2]; simp [hp]
    · rw [Lib.cell_of_heap hb2]; simp [hq]
  have hSl : (((⟨#[120, 32]⟩ : ByteArray) : ByteArray) ++ X ++ ((⟨#[32, 121, 32]⟩ : ByteArray) : ByteArray) ++ Y ++ ((⟨#[32, 122]⟩ : ByteArray) : ByteArray)).data.toList = bindS x y := by
    simp only [da, hXl, hYl]; unfold bindS; simp
  have hOl : (bindW p q x y).length ≤ 1000000 := by
    unfold bindW
    split <;> simp only [List.length_append] <;> simp <;> omega
  have HR := wr20 hsp (((⟨#[120, 32]⟩ : ByteArray) : ByteArray) ++ X ++ ((⟨#[32, 121, 32]⟩ : ByteArray) : ByteArray) ++ Y ++ ((⟨#[32, 122]⟩ : ByteArray) : ByteArray)) (by simp only [ByteArray.size_append]; show 2 + X.size + 3 + Y.size + 2 ≤ 1900; omega) (bindW p q x y) (by rw [hSl]; exact hwr) hOl
  obtain ⟨OB, hOB⟩ : ∃ OB : ByteArray, OB = ⟨(bindW p q x y).toArray⟩ := ⟨_, rfl⟩
  rw [← hOB] at HR
  have hO1 : p ≥ q → OB = ((⟨#[40, 98, 105, 110, 97, 114, 121, 32]⟩ : ByteArray) : ByteArray) ++ Y ++ ((⟨#[32, 40, 98, 105, 110, 97, 114, 121, 32]⟩ : ByteArray) : ByteArray) ++ X ++ ((⟨#[32, 40, 110, 97, 109, 101, 32, 120, 41, 32, 40, 110, 97, 109, 101, 32, 121, 41, 41, 32, 40, 110, 97, 109, 101, 32, 122, 41, 41]⟩ : ByteArray) : ByteArray) := fun h => by
    rw [hOB]; symm; apply bs_list; simp only [da, hXl, hYl]; unfold bindW; rw [if_pos h]; all_goals simp
  have hO2 : ¬ p ≥ q → OB = ((⟨#[40, 98, 105, 110, 97, 114, 121, 32]⟩ : ByteArray) : ByteArray) ++ X ++ ((⟨#[32, 40, 110, 97, 109, 101, 32, 120, 41, 32, 40, 98, 105, 110, 97, 114, 121, 32]⟩ : ByteArray) : ByteArray) ++ Y ++ ((⟨#[32, 40, 110, 97, 109, 101, 32, 121, 41, 32, 40, 110, 97, 109, 101, 32, 122, 41, 41, 41]⟩ : ByteArray) : ByteArray) := fun h => by
    rw [hOB]; symm; apply bs_list; simp only [da, hXl, hYl]; unfold bindW; rw [if_neg h]; all_goals simp
  have HR := Lib.hid HR
  have hdW : Below W.heap.size W W.drew := (Below.refl _ W).drew
  have hbD : Hid (Below w.heap.size w W.drew) := Lib.hid (hbW.trans (hdW.mono hbW.size))
  have hbW := Lib.hid hbW
  obtain ⟨c0, c1, c2, c3⟩ := HC.out _ hdW
  have hi' : (i : Int) < 18 := by omega
  have hj' : (j : Int) < 18 := by omega
  clear hb1 hb2 hx hy hp hq hwr hxl hyl hXl hYl hSl hOl hX hY hW he' hf' g g2 hsp
  replace hO1 := Lib.hid hO1
  replace hO2 := Lib.hid hO2
  replace hOB := Lib.hid hOB
  have k1 : ¬ 9223372036854775807 < 2 + X.size := by omega
  have k2 : ¬ 9223372036854775807 < 2 + X.size + 3 := by omega
  have k3 : ¬ 9223372036854775807 < 2 + X.size + 3 + Y.size := by omega
  have k4 : ¬ 9223372036854775807 < 2 + X.size + 3 + Y.size + 2 := by omega
  go_cut [7] from 18 to 30 (fun v7 wx => v7 = .string OB ∧ Hid (Below w.heap.size w wx) ∧ Hid (Below W.heap.size W wx))
  case first =>
    go_region_with (go_at_call 18; (with_reducible refine (HR.out _ hbD.out).mono ?_); rintro e w2 ⟨rfl, hb2⟩; have hb3 := Lib.hid (hbD.out.trans (hb2.mono hbD.out.size)); have hWw := Lib.hid (hdW.trans (hb2.mono hdW.size)))
    all_goals
      go_wp2_with fail
      go_meet
      case rel => exact ⟨rfl, hb3, hWw⟩
  case rest =>
    obtain ⟨rfl, hb3, hWw⟩ := hcut
    go_upto_region 5 with fail
    clear c0 c1 c2 c3 k1 k2 k3 k4 HR hbD hdW
    have hdw := (Below.refl wc.heap.size wc).drew
    obtain ⟨c0, c1, c2, c3⟩ := HC.out _ (hWw.out.trans (hdw.mono hWw.out.size))
    have hbd := Lib.hid (hb3.out.trans (hdw.mono hb3.out.size))
    by_cases hpq : q ≤ p
    · have hpq' : (q : Int) ≤ (p : Int) := by omega
      have k1 : ¬ 9223372036854775807 < 8 + Y.size := by omega
      have k2 : ¬ 9223372036854775807 < 8 + Y.size + 9 := by omega
      have k3 : ¬ 9223372036854775807 < 8 + Y.size + 9 + X.size := by omega
      have k4 : ¬ 9223372036854775807 < 8 + Y.size + 9 + X.size + 29 := by omega
      obtain rfl := hO1.out hpq
      clear hOB hO1 hO2
      go_region
      all_goals
        have hdd := (Below.refl wc.drew.heap.size wc.drew).drew
        obtain ⟨e0, e1, e2, e3⟩ := HC.out _ ((hWw.out.trans (hdw.mono hWw.out.size)).trans (hdd.mono (hWw.out.trans (hdw.mono hWw.out.size)).size))
        have hbdd := Lib.hid (hbd.out.trans (hdd.mono hbd.out.size))
        go_upto_region 6 with fail
        go_region_with (go_at_call 19; (with_reducible refine (hA.out _ hbdd.out).mono ?_); rintro e w3 ⟨rfl, hb4⟩; have hb5 := Lib.hid (hbdd.out.trans (hb4.mono hbdd.out.size)))
        all_goals
          go_wp2_with fail
          go_ret
          exact ⟨rfl, hb5.out⟩
    · have hpq' : ¬ (q : Int) ≤ (p : Int) := by omega
      have k1 : ¬ 9223372036854775807 < 8 + X.size := by omega
      have k2 : ¬ 9223372036854775807 < 8 + X.size + 18 := by omega
      have k3 : ¬ 9223372036854775807 < 8 + X.size + 18 + Y.size := by omega
      have k4 : ¬ 9223372036854775807 < 8 + X.size + 18 + Y.size + 20 := by omega
      obtain rfl := hO2.out hpq
      clear hOB hO1 hO2
      go_region
      all_goals
        have hdd := (Below.refl wc.drew.heap.size wc.drew).drew
        obtain ⟨e0, e1, e2, e3⟩ := HC.out _ ((hWw.out.trans (hdw.mono hWw.out.size)).trans (hdd.mono (hWw.out.trans (hdw.mono hWw.out.size)).size))
        have hbdd := Lib.hid (hbd.out.trans (hdd.mono hbd.out.size))
        go_upto_region 7 with fail
        go_region_with (go_at_call 19; (with_reducible refine (hA.out _ hbdd.out).mono ?_); rintro e w3 ⟨rfl, hb4⟩; have hb5 := Lib.hid (hbdd.out.trans (hb4.mono hbdd.out.size)))
        all_goals
          go_wp2_with fail
          go_ret
          exact ⟨rfl, hb5.out⟩
end Go.Proofs.YtllbbacnakoomaaGreatDoor
