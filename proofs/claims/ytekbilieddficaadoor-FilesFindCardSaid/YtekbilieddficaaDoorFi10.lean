/- Files: awake. -/
import Derived.Test.YtekbilieddficaaDoorFi9
namespace Go.Proofs.YtekbilieddficaaDoor
open Go.RowKit
set_option linter.unusedVariables false

theorem create_nil (w : World) (n s : ByteArray) : Calls Tryd.prog 11 #[.pointer none, .string n, .string s] w fun e w' => e = .returned (.int .i64 2) ∧ w' = w := by
  go_enter Tryd.func11, Tryd.ntmps11
  go_wp2
  go_ret
  exact ⟨rfl, rfl⟩

theorem version_nil (w : World) (n : ByteArray) : Calls Tryd.prog 21 #[.pointer none, .string n] w fun e w' => e = .returned (.int .i64 0) ∧ w' = w := by
  go_enter Tryd.func21, Tryd.ntmps21
  go_wp2
  go_ret
  exact ⟨rfl, rfl⟩

set_option maxRecDepth 100000 in
theorem remove_none {B g fm vm : Nat} {dv : Value} {D : List ByteArray} {F : List (ByteArray × Nat × RT)} {V : List (ByteArray × Nat × Int)} (w : World) (h : FAt w B g fm vm dv D F V) (n : ByteArray) (hn : n.size ≤ maxLen) (hf : fileOf F n = none) :
    Calls Tryd.prog 23 #[.pointer (some ⟨g, 0, none⟩), .string n] w fun e w' => e = .returned (.int .i64 2) ∧ w' = w := by
  have HG := get_any w h n hn
  rw [hf] at HG
  replace HG := Lib.hid HG
  clear h hf
  go_enter Tryd.func23, Tryd.ntmps23
  go_wp2_with fail
  refine HG.out.mono ?_
  rintro e w' ⟨rfl, hw'⟩
  replace hw' := hw'.symm
  subst hw'
  go_wp2
  go_ret
  exact ⟨rfl, rfl⟩

theorem row_one (w : World) (s : ByteArray) : Row (w.alloc (.cells #[.string s] 9)) 1 (some ⟨w.heap.size, 0, none⟩) (strsB [s]) := row_of_cells fun j s' hj => by
  cases j with
  | zero =>
    simp at hj
    subst hj
    exact Lib.cell_of_heap (heap_alloc_new w _) 0
  | succ j => simp at hj

abbrev sInc : ByteArray := ⟨#[105, 110, 99]⟩
abbrev sUp : ByteArray := ⟨#[46, 46, 47, 120]⟩
abbrev sAx : ByteArray := ⟨#[97, 47, 120, 46, 99]⟩
abbrev sAy : ByteArray := ⟨#[97, 47, 121, 46, 104]⟩
abbrev sIz : ByteArray := ⟨#[105, 110, 99, 47, 122, 46, 104]⟩
abbrev sY : ByteArray := ⟨#[121, 46, 104]⟩

theorem val_ax : ValidP sAx.data.toList := by decide +kernel
theorem val_ay : ValidP sAy.data.toList := by decide +kernel
theorem val_iz : ValidP sIz.data.toList := by decide +kernel
theorem may_inc : mayD [sInc] = true := by decide +kernel
theorem may_up : mayD [sUp] = false := by decide +kernel
theorem join_ay : joinedP (⟨#[97]⟩ : ByteArray).data.toList sY.data.toList = some [97, 47, 121, 46, 104] := by decide +kernel
theorem join_iy : joinedP sInc.data.toList sY.data.toList = some [105, 110, 99, 47, 121, 46, 104] := by decide +kernel

theorem found1 (b1 b2 b3 : Nat) (t1 t2 t3 : RT) : foundL sY.data.toList ((([] ++ [(sAx, b1, t1)]) ++ [(sAy, b2, t2)]) ++ [(sIz, b3, t3)]) (withDir true ⟨#[97]⟩ [sInc]) = some sAy := by
  unfold withDir
  simp only [if_true, foundL, hitL]
  rfl
theorem found2 (b1 b2 b3 : Nat) (t1 t2 t3 : RT) : foundL sY.data.toList ((([] ++ [(sAx, b1, t1)]) ++ [(sAy, b2, t2)]) ++ [(sIz, b3, t3)]) (withDir false ⟨#[97]⟩ [sInc]) = none := by
  unfold withDir
  simp only [Bool.false_eq_true, if_false, foundL, hitL]
  rfl

set_option maxRecDepth 100000 in
set_option maxHeartbeats 4000000 in
theorem awake_any (w : World) : Calls Tryd.prog 9 #[] w fun e w' => e = .returned (.bool true) ∧ Below w.heap.size w w' := by
  have N1 := Lib.hid (new_yes (D := [sInc]) (by decide) (some ⟨w.heap.size, 0, none⟩) 1 (by decide) (by intro h; cases h) (w.alloc (.cells #[.string sInc] 9)) (row_one w sInc) may_inc)
  have N2 := Lib.hid (fun W : World => new_no (D := [sUp]) (by decide) (some ⟨W.heap.size, 0, none⟩) 1 (by decide) (by decide) (W.alloc (.cells #[.string sUp] 9)) (row_one W sUp) may_up)
  have hd0 : DirOf sAx.data.toList (⟨#[97]⟩ : ByteArray).data.toList := dir_app (a := [97]) (b := [120, 46, 99]) (by decide)
  have bw0 : Below w.heap.size w (w.alloc (.cells #[.string sInc] 9)) := (Below.refl _ w).alloc (Nat.le_refl _) _
  obtain ⟨w0, hw0⟩ : ∃ W, W = w.alloc (.cells #[.string sInc] 9) := ⟨_, rfl⟩
  rw [← hw0] at N1 bw0
  obtain ⟨B, hB⟩ : ∃ B, B = w0.heap.size := ⟨_, rfl⟩
  rw [← hB] at N1
  have hwB : w.heap.size ≤ B := by rw [hB]; exact bw0.size
  have hBB : B ≤ w0.heap.size := by omega
  replace hw0 := Lib.hid hw0
  replace bw0 := Lib.hid bw0
  replace hB := Lib.hid hB
  replace hd0 := Lib.hid hd0
  go_enter Tryd.func9, Tryd.ntmps9
  go_wp2_with fail
  rw [← hw0.out]
  refine N1.out.mono ?_
  rintro e w1 ⟨g, fm, vm, dv, rfl, f1, b1⟩
  have hB1 : B ≤ w1.heap.size := Nat.le_trans hBB b1.size
  have f1a := f1.moved ((Below.refl _ w1).alloc (Nat.le_refl _) (.cells #[.string sUp] 9))
  have b1a := b1.alloc hB1 (.cells #[.string sUp] 9)
  have hN2 := Lib.hid (N2.out w1)
  replace f1a := Lib.hid f1a
  replace b1a := Lib.hid b1a
  replace hB1 := Lib.hid hB1
  clear f1 b1 N1 N2
  go_wp2_with fail
  refine hN2.out.mono ?_
  rintro e w2 ⟨rfl, c2⟩
  have f2 := f1a.out.moved c2
  have b2 := b1a.out.trans (c2.mono (Nat.le_trans hBB b1a.out.size))
  have hB2 := Nat.le_trans hBB b2.size
  have C1 := Lib.hid (create_yes w2 f2 hB2 sAx ⟨#[120]⟩ (by decide) val_ax rfl (by decide) (by decide) (by decide))
  replace b2 := Lib.hid b2
  clear f2 c2 hN2 f1a b1a
  go_wp2_with fail
  refine C1.out.mono ?_
  rintro e w3 ⟨rfl, p1, t1, q1, _, f3, c3, _⟩
  have b3 := b2.out.trans c3
  have C2 := Lib.hid (create_yes w3 f3 (Nat.le_trans hBB b3.size) sAy ⟨#[]⟩ (by decide) val_ay rfl (by simp) (by decide) (by show (0 : Int) < 1000000; decide))
  replace b3 := Lib.hid b3
  clear f3 c3 C1
  go_wp2_with fail
  refine C2.out.mono ?_
  rintro e w4 ⟨rfl, p2, t2, q2, _, f4, c4, _⟩
  have b4 := b3.out.trans c4
  have C3 := Lib.hid (create_yes w4 f4 (Nat.le_trans hBB b4.size) sIz ⟨#[]⟩ (by decide) val_iz rfl (by simp) (by decide) (by show (0 : Int) < 1000000; decide))
  replace b4 := Lib.hid b4
  clear f4 c4 C2
  go_wp2_with fail
  refine C3.out.mono ?_
  rintro e w5 ⟨rfl, p3, t3, q3, _, f5, c5, _⟩
  have b5 := b4.out.trans c5
  have C4 := Lib.hid (create_there w5 f5 sAx ⟨#[]⟩ (by decide) val_ax rfl)
  have f5' := Lib.hid f5
  replace b5 := Lib.hid b5
  clear f5 c5 C3
  go_wp2_with fail
  refine C4.out.mono ?_
  rintro e w6 ⟨rfl, c6⟩
  have f6 := f5'.out.moved c6
  have b6 := b5.out.trans (c6.mono (Nat.le_trans hBB b5.out.size))
  have C5 := Lib.hid (remove_none w6 f6 ⟨#[98]⟩ (by decide) rfl)
  have C6 := find_any w6 f6 (by decide) sAx sY (by decide) (by decide) true ⟨#[97]⟩ hd0.out (by decide)
  rw [found1] at C6
  unfold findV at C6
  replace C6 := Lib.hid C6
  replace f6 := Lib.hid f6
  replace b6 := Lib.hid b6
  clear c6 f5' C4
  go_wp2_with fail
  refine C5.out.mono ?_
  rintro e w' ⟨rfl, hw'⟩
  replace hw' := hw'.symm
  subst hw'
  go_wp2_with fail
  refine C6.out.mono ?_
  rintro e w7 ⟨rfl, c7⟩
  have f7 := f6.out.moved c7
  have b7 := b6.out.trans (c7.mono (Nat.le_trans hBB b6.out.size))
  have C7 := find_any w7 f7 (by decide) sAx sY (by decide) (by decide) false ⟨#[97]⟩ hd0.out (by decide)
  rw [found2] at C7
  unfold findV at C7
  replace C7 := Lib.hid C7
  replace f7 := Lib.hid f7
  replace b7 := Lib.hid b7
  clear c7 f6 C5 C6
  go_wp2_with fail
  refine C7.out.mono ?_
  rintro e w8 ⟨rfl, c8⟩
  have f8 := f7.out.moved c8
  have b8 := b7.out.trans (c8.mono (Nat.le_trans hBB b7.out.size))
  have C8 := version_any w8 f8 sAx (by decide)
  rw [show countOf _ sAx = 1 from rfl] at C8
  replace C8 := Lib.hid C8
  have C9 := Lib.hid (create_nil w8 ⟨#[97]⟩ ⟨#[]⟩)
  have C10 := Lib.hid (version_nil w8 ⟨#[97]⟩)
  replace b8 := Lib.hid b8
  clear c8 f7 f8 C7
  go_wp2_with fail
  refine C8.out.mono ?_
  rintro e w' ⟨rfl, hw'⟩
  replace hw' := hw'.symm
  subst hw'
  go_wp2_with fail
  refine C9.out.mono ?_
  rintro e w' ⟨rfl, hw'⟩
  replace hw' := hw'.symm
  subst hw'
  go_wp2_with fail
  refine C10.out.mono ?_
  rintro e w' ⟨rfl, hw'⟩
  replace hw' := hw'.symm
  subst hw'
  go_wp2
  go_ret
  exact ⟨rfl, bw0.out.trans (b8.out.mono hwB)⟩
end Go.Proofs.YtekbilieddficaaDoor
