/- oxbowlaw5's awake: the walk. -/
import Derived.Test.YthbicbfdldpemaaLw21
namespace Go.Proofs.Ythbicbfdldpemaa
open Go.RowKit
set_option linter.unusedVariables false

set_option maxHeartbeats 4000000 in
set_option maxRecDepth 100000 in
theorem lexAwake_any (w : World) : Calls Try.prog 22 #[] w fun e w' => e = .returned (.bool true) ∧ Below w.heap.size w w' := by
  have HL1 := lines_any ⟨#[102]⟩ ⟨#[97, 43, 43, 43, 98, 10]⟩ (by decide) w
  have HL2 := fun w' => lines_any ⟨#[102]⟩ ⟨#[47, 42, 32, 120]⟩ (by decide) w'
  have HO1 := fun w' => lexOne_any ⟨#[60, 60, 61]⟩ (by decide) w'
  have HO2 := fun w' => lexOne_any ⟨#[97, 32, 98]⟩ (by decide) w'
  unfold LinesPost at HL1 HL2
  rw [show (⟨#[97, 43, 43, 43, 98, 10]⟩ : ByteArray).data.toList = [97, 43, 43, 43, 98, 10] from rfl, aw1] at HL1
  simp only [aw2] at HL2
  simp only at HO1
  simp only at HO2
  replace HL1 := Lib.hid HL1
  replace HL2 := Lib.hid HL2
  replace HO1 := Lib.hid HO1
  replace HO2 := Lib.hid HO2
  go_enter Try.func22, Try.ntmps22
  go_wp2_with fail
  refine HL1.out.mono ?_
  rintro e w1 ⟨vo, vd, lcs, rfl, hO, hLs, hD, hb1⟩
  cases hLs with
  | cons hl hr =>
  cases hr
  obtain ⟨ao, tcap, rfl, htc, hrow⟩ := hl.row
  obtain ⟨oa, ocap, rfl, hoc, _, horow, _⟩ := hO.rown (n := 1) (by simp)
  obtain ⟨da, dcap, rfl, _, _, _, _⟩ := hD.rown (n := 0) (by simp)
  obtain ⟨ob, oo, rfl, hat⟩ := horow (by simp)
  obtain ⟨tb, tq, rfl, htt⟩ := hrow (by simp)
  have q0 := (ln_cells hat (k := 0) rfl).1
  have q1 := (tk_cells htt (k := 1) rfl).2.1
  have q2 := tk_cells htt (k := 3) rfl
  obtain ⟨_, _, _, q3, q4, q5, _, _⟩ := q2
  simp only [Nat.zero_mul, Nat.add_zero, Nat.one_mul] at q0 q1 q3 q4 q5
  have HF : Hid (∀ wx, Below w1.heap.size w1 wx → wx.cell? ⟨ob, oo, none⟩ = some (.slice (some ⟨tb, tq, none⟩) 4 tcap) ∧ wx.cell? ⟨tb, tq + 8 + 1, none⟩ = some (.string ⟨#[43, 43]⟩) ∧ wx.cell? ⟨tb, tq + 3 * 8 + 3, none⟩ = some (.string ⟨#[102]⟩) ∧ wx.cell? ⟨tb, tq + 3 * 8 + 4, none⟩ = some (.int .i64 4) ∧ wx.cell? ⟨tb, tq + 3 * 8 + 5, none⟩ = some (.int .i64 5)) := Lib.hid (fun wx hx => ⟨kept_cell hx q0, kept_cell hx q1, kept_cell hx q3, kept_cell hx q4, kept_cell hx q5⟩)
  clear q0 q1 q3 q4 q5 hat htt hrow horow hD hO hl
  go_wp2_with fail
  refine (HO1.out _).mono ?_
  rintro e w2 ⟨hp2, hb2⟩
  obtain rfl := one1 hp2
  clear hp2
  have hT2 := heap_alloc_new w2 (.cells #[.int .i64 5, .string ⟨#[60, 60, 61]⟩, .bool false, .string ⟨#[]⟩, .int .i64 0, .int .i64 0, .bool false, .slice none 0 0] 43)
  have hB2 := hb2.alloc hb2.size (.cells #[.int .i64 5, .string ⟨#[60, 60, 61]⟩, .bool false, .string ⟨#[]⟩, .int .i64 0, .int .i64 0, .bool false, .slice none 0 0] 43)
  go_wp2_with fail
  refine (HO2.out _).mono ?_
  rintro e w3 ⟨hp3, hb3⟩
  obtain rfl := one2 hp3
  clear hp3
  unfold zeroTok
  have hT3 := (hb3.block _ (lt_of_block hT2)).trans hT2
  have hB3 := (hB2.trans (hb3.mono hB2.size)).alloc (Nat.le_trans hB2.size hb3.size) (.cells #[.int .i64 0, .string ⟨#[]⟩, .bool false, .string ⟨#[]⟩, .int .i64 0, .int .i64 0, .bool false, .slice none 0 0] 43)
  have hT4 := (Lib.alloc_old w3 (.cells #[.int .i64 0, .string ⟨#[]⟩, .bool false, .string ⟨#[]⟩, .int .i64 0, .int .i64 0, .bool false, .slice none 0 0] 43) _ (lt_of_block hT3)).trans hT3
  go_wp2_with fail
  refine (HL2.out _).mono ?_
  rintro e w5 ⟨vo5, vd5, lcs5, rfl, hO5, hLs5, hD5, hb5⟩
  have hT5 := (hb5.block _ (lt_of_block hT4)).trans hT4
  have hB5 := hB3.trans (hb5.mono hB3.size)
  obtain ⟨oa5, ocap5, rfl, _, _, _, _⟩ := hO5.rown (n := 1) (by rw [hLs5.len]; rfl)
  obtain ⟨da5, dcap5, rfl, _, _, hdrow, _⟩ := hD5.rown (n := 1) (by simp)
  obtain ⟨db, dd, rfl, hdat⟩ := hdrow (by simp)
  have hd0 := (dg_cells (l := [⟨1, 0, 2⟩]) hdat (k := 0) rfl).1
  simp only [Nat.zero_mul, Nat.add_zero] at hd0
  obtain ⟨x0, x1, x2, x3, x4⟩ := HF.out w5 hB5
  obtain ⟨t0, t1, t2, t3, t4, t5, t6, t7⟩ := cells8x hT5
  have hBB := hb1.trans (hB5.mono hb1.size)
  clear hdat hdrow hLs5 hO5 hD5 hT2 hT3 hT4 hT5 hB2 hB3 hB5 hb2 hb3 hb5
  go_wp2
  go_ret
  exact ⟨rfl, hBB⟩
end Go.Proofs.Ythbicbfdldpemaa
