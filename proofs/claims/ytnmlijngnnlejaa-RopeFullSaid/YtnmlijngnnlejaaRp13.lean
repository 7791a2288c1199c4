/- The law's look at what the document fixes. -/
import Derived.Test.YtnmlijngnnlejaaRp12
import Derived.Deep.OwnRows
namespace Go.Proofs.Ytnmlijngnnlejaa
open Go.RowKit
set_option linter.unusedVariables false

/-- So many zero bytes, made, and turned to a text. -/
theorem zeros_facts (n : Nat) (hn : n ≤ 1000000) : ∃ (C : Array Value) (z : ByteArray), z.size = n ∧
    (∀ w, (Instr.makeSlice 27 (.int .i64 (n : Int)) (.int .i64 (n : Int))).run Try.prog w = .ok (.slice (some ⟨w.heap.size, 0, none⟩) n n) (w.alloc (.cells C 5))) ∧
    (∀ w : World, (convert 27 9 (.slice (some ⟨w.heap.size, 0, none⟩) n n)).run Try.prog (w.alloc (.cells C 5)) = .ok (.string z) (w.alloc (.cells C 5))) := by
  refine ⟨madeCells #[.int .u8 0] n, ⟨(List.replicate n 0).toArray⟩, ?_, ?_, ?_⟩
  · simp [ByteArray.size]
  · intro w
    exact run_make_row' 27 5 (.int .u8 0) 1 Try.underlying27 Try.infoByte rfl .i64 .i64 n (by omega) (by omega) w
  · intro w
    have h := run_convert_bytes_back (P := Try.prog) (w.alloc (.cells (madeCells #[.int .u8 0] n) 5)) 27 9 5 ⟨w.heap.size, 0, none⟩ n (List.replicate n 0) Try.underlying27 Try.underlying5 Try.underlying9 (by
      intro j hj
      rw [List.length_replicate] at hj
      have h1 := heap_alloc_new w (.cells (madeCells #[.int .u8 0] n) 5)
      rw [Addr.add_lit]
      rw [Nat.zero_add]
      have h2 : (madeCells #[Value.int .u8 0] n)[j]? = some (.int .u8 0) := by
        rw [← Array.getElem?_toList, toList_madeCells_one, List.getElem?_replicate, if_pos hj]
      have h3 : (w.alloc (.cells (madeCells #[.int .u8 0] n) 5)).cell? ⟨w.heap.size, j, none⟩ = some (.int .u8 0) := by
        rw [← h2]
        exact Lib.cell_of_heap h1 j
      rw [h3]
      simp)
    rw [List.length_replicate] at h
    exact h

set_option maxRecDepth 100000 in
set_option maxHeartbeats 8000000 in
theorem awake_any (w : World) : Calls Try.prog 6 #[] w fun e w' => e = .returned (.bool true) ∧ Below w.heap.size w w' := by
  obtain ⟨B, hB0⟩ : ∃ B, B = w.heap.size := ⟨_, rfl⟩
  have hB : B ≤ w.heap.size := by omega
  rw [← hB0]
  obtain ⟨C, z, hz, mk, cv⟩ := zeros_facts 65537 (by omega)
  have mk' : ∀ w, (Instr.makeSlice 27 (.int .i64 65537) (.int .i64 65537)).run Try.prog w = .ok (.slice (some ⟨w.heap.size, 0, none⟩) 65537 65537) (w.alloc (.cells C 5)) := mk
  clear mk
  have HN := Lib.hid (new_any (B := B) ⟨#[97, 99]⟩ (by decide) w hB)
  have HG : Hid (∀ W, Calls Try.prog 7 #[.string z] W fun e w' => e = .returned (.tuple #[.pointer none, .int .i64 4]) ∧ w' = W) := Lib.hid fun W => new_big z (by omega) (by omega) W
  have HL0 : Hid (∀ W, Calls Try.prog 10 #[.pointer none] W fun e w' => e = .returned (.int .i64 0) ∧ w' = W) := Lib.hid fun W => len_any (B := B) (o := none) W rfl
  have HD0 : Hid (∀ W, Calls Try.prog 18 #[.pointer none] W fun e w' => e = .returned (.int .i64 0) ∧ w' = W) := Lib.hid fun W => depth_any (B := B) (o := none) W rfl
  have HS0 : Hid (∀ W, Calls Try.prog 11 #[.pointer none] W fun e w' => e = .returned (.int .i64 1) ∧ Below W.heap.size W w') := Lib.hid lines_nil
  have hd0 : Hid (z.size = 65537) := Lib.hid hz
  clear hz
  replace hB0 := Lib.hid hB0
  go_enter Try.func6, Try.ntmps6
  go_wp2_with fail
  refine HN.out.mono ?_
  rintro e w1 ⟨⟨g1, t1, rfl, r1, d1, x1⟩, b1⟩
  have HI1 := insert_any (o := some t1) w1 ⟨d1, g1, rfl, r1⟩ (Nat.le_trans hB b1.size) 1 (by simp only [textO]; rw [x1]; decide) ⟨#[98, 10]⟩ (by simp only [textO]; rw [x1]; decide)
  simp only [textO] at HI1
  rw [x1] at HI1
  replace HI1 := Lib.hid HI1
  replace b1 := Lib.hid b1
  replace r1 := Lib.hid r1
  replace d1 := Lib.hid d1
  replace x1 := Lib.hid x1
  go_wp2_with fail
  refine HI1.out.mono ?_
  rintro e w2 ⟨⟨g2, t2, rfl, r2, d2, x2⟩, b2⟩
  have b12 : Below B w w2 := (b1.out.mono hB).trans (b2.mono (Nat.le_trans hB b1.out.size))
  have r1' := r1.out.below b2
  have HI2 := Lib.hid (insert_bad (o := some t1) w2 ⟨d1.out, g1, rfl, r1'⟩ (by simp only [textO]; rw [x1.out]; decide) 3 ⟨#[120]⟩ (by simp only [textO]; rw [x1.out]; decide))
  replace b12 := Lib.hid b12
  replace b2 := Lib.hid b2
  replace r1' := Lib.hid r1'
  replace r2 := Lib.hid r2
  replace d2 := Lib.hid d2
  replace x2 := Lib.hid x2
  go_wp2_with fail
  refine HI2.out.mono ?_
  rintro e w' ⟨rfl, hw'⟩
  replace hw' := hw'.symm
  subst hw'
  have cv2 := cv w2
  have sz2 : B ≤ w2.heap.size := Nat.le_trans hB b12.out.size
  go_wp2_with fail
  have b3 : Below w2.heap.size w2 (w2.alloc (.cells C 5)) := (Below.refl _ w2).alloc (Nat.le_refl _) _
  obtain ⟨w3, hw3⟩ : ∃ w3, w3 = w2.alloc (.cells C 5) := ⟨_, rfl⟩
  rw [← hw3] at b3 ⊢
  clear cv2 cv mk' hw3
  have B3 : Below B w w3 := b12.out.trans (b3.mono sz2)
  have r3 := r1'.out.below b3
  have q3 := r2.out.below b3
  have sz3 : B ≤ w3.heap.size := Nat.le_trans hB B3.size
  have HX : Hid (∀ W, RAt W B t2 g2 → B ≤ W.heap.size → Calls Try.prog 17 #[.pointer (some ⟨g2, 0, none⟩), .string ⟨#[97, 98, 10, 99]⟩, .int .i64 3, .int .i64 4, .int .i64 1] W fun e w' => e = .returned (.bool true) ∧ KR B g2 W w') := Lib.hid fun W h1 h2 =>
    is_in ⟨#[97, 98, 10, 99]⟩ W h1 d2.out h2 (by decide) x2.out (Nat.le_trans d2.out.high_le (by rw [x2.out]; decide)) 3 4 1 (by decide) (by decide) (by decide)
  have HY : Hid (∀ W, RAt W B t1 g1 → B ≤ W.heap.size → Calls Try.prog 17 #[.pointer (some ⟨g1, 0, none⟩), .string ⟨#[97, 99]⟩, .int .i64 0, .int .i64 1, .int .i64 0] W fun e w' => e = .returned (.bool true) ∧ KR B g1 W w') := Lib.hid fun W h1 h2 =>
    is_in ⟨#[97, 99]⟩ W h1 d1.out h2 (by decide) x1.out (Nat.le_trans d1.out.high_le (by rw [x1.out]; decide)) 0 1 0 (by decide) (by decide) (by decide)
  have HX1 := Lib.hid (HX.out w3 q3 sz3)
  replace B3 := Lib.hid B3
  replace r3 := Lib.hid r3
  replace q3 := Lib.hid q3
  clear HX HN HI1 HI2
  refine (HG.out w3).mono ?_
  rintro e w' ⟨rfl, hw'⟩
  replace hw' := hw'.symm
  subst hw'
  go_wp2_with fail
  refine HX1.out.mono ?_
  rintro e w4 ⟨rfl, k4⟩
  have HY1 := Lib.hid (HY.out w4 (k4.ropes _ _ r3.out) (Nat.le_trans sz3 k4.below.size))
  have B4 := Lib.hid (B3.out.trans k4.below)
  replace k4 := Lib.hid k4
  clear HX1 HY
  go_wp2_with fail
  refine HY1.out.mono ?_
  rintro e w5 ⟨rfl, k5⟩
  have B5 := B4.out.trans k5.below
  have s5 := Nat.le_trans hB B5.size
  replace B5 := Lib.hid B5
  replace k5 := Lib.hid k5
  go_wp2_with fail
  refine (HL0.out w5).mono ?_
  rintro e w' ⟨rfl, hw'⟩
  replace hw' := hw'.symm
  subst hw'
  go_wp2_with fail
  refine (HD0.out w5).mono ?_
  rintro e w' ⟨rfl, hw'⟩
  replace hw' := hw'.symm
  subst hw'
  go_wp2_with fail
  refine (HS0.out w5).mono ?_
  rintro e w6 ⟨rfl, b6⟩
  replace b6 := Lib.hid b6
  go_wp2
  go_ret
  exact ⟨rfl, B5.out.trans (b6.out.mono s5)⟩
end Go.Proofs.Ytnmlijngnnlejaa
