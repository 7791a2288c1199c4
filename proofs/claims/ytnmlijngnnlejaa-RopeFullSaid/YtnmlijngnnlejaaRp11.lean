/- Ropes: Start, Line. -/
import Derived.Test.YtnmlijngnnlejaaRp10
namespace Go.Proofs.Ytnmlijngnnlejaa
open Go.RowKit
set_option linter.unusedVariables false

set_option maxRecDepth 100000 in
theorem start_bad {B g : Nat} {t : RT} (w : World) (hr : RAt w B t g) (hB : B ≤ w.heap.size) (hl : t.text.length ≤ 1000000) (x : Int) (hx : ¬ (0 ≤ x ∧ x ≤ (t.text.count 10 : Nat))) :
    Calls Try.prog 12 #[.pointer (some ⟨g, 0, none⟩), .int .i64 x] w fun e w' => e = .returned (.tuple #[.int .i64 0, .int .i64 1]) ∧ KR B g w w' := by
  by_cases h1 : x < 0
  · clear hx
    go_enter Try.func12, Try.ntmps12
    go_wp2
    go_ret2
    exact ⟨rfl, KR.refl _ _ _⟩
  · have HL := lines_any w hr hB hl
    obtain ⟨n, hn⟩ : ∃ n : Nat, n = t.text.count 10 := ⟨_, rfl⟩
    rw [← hn] at HL hx
    have h2 : (n : Int) + 1 ≤ x := by omega
    replace HL := Lib.hid HL
    clear hr hl hn hx
    go_enter Try.func12, Try.ntmps12
    go_wp2_with fail
    refine HL.out.mono ?_
    rintro e w1 ⟨rfl, k1⟩
    replace k1 := Lib.hid k1
    go_wp2
    go_ret2
    exact ⟨rfl, k1.out⟩

set_option maxRecDepth 100000 in
theorem start_any {B g : Nat} {t : RT} (w : World) (hr : RAt w B t g) (ht : t.Good) (hB : B ≤ w.heap.size) (hl : t.text.length ≤ 1000000) (x : Nat) (hx : x ≤ t.text.count 10) :
    Calls Try.prog 12 #[.pointer (some ⟨g, 0, none⟩), .int .i64 x] w fun e w' => e = .returned (.tuple #[.int .i64 (nlEnd t.text x : Nat), .int .i64 0]) ∧ KR B g w w' := by
  have HL := lines_any w hr hB hl
  have HE : Hid (∀ W, KR B g w W → Calls Try.prog 25 #[.pointer (some ⟨g, 0, none⟩), .int .i64 x] W fun e w' => e = .returned (.int .i64 ((nlEnd t.text x : Nat) - 1)) ∧ KR B g W w') := Lib.hid fun W hW => end_any t g W x (hW.ropes _ _ hr) ht (Nat.le_trans hB hW.below.size) hl hx
  have hle := nlEnd_le t.text x
  have hcl := List.count_le_length (a := 10) (l := t.text)
  by_cases h0 : x = 0
  · subst h0
    rw [nlEnd_zero]
    obtain ⟨n, hn⟩ : ∃ n : Nat, n = t.text.count 10 := ⟨_, rfl⟩
    rw [← hn] at HL hx
    have h2 : ¬ (n : Int) + 1 ≤ 0 := by omega
    replace HL := Lib.hid HL
    clear hr hl hn hx HE hcl hle
    go_enter Try.func12, Try.ntmps12
    go_wp2_with fail
    refine HL.out.mono ?_
    rintro e w1 ⟨rfl, k1⟩
    replace k1 := Lib.hid k1
    go_wp2
    go_ret2
    exact ⟨rfl, k1.out⟩
  · obtain ⟨n, hn⟩ : ∃ n : Nat, n = t.text.count 10 := ⟨_, rfl⟩
    rw [← hn] at HL hx hcl
    have hz : nlEnd t.text x ≤ 1000000 := by omega
    obtain ⟨z, hz0⟩ : ∃ z : Nat, z = nlEnd t.text x := ⟨_, rfl⟩
    rw [← hz0] at HE hz ⊢
    have h1 : ¬ (x : Int) < 0 := by omega
    have h2 : ¬ (n : Int) + 1 ≤ x := by omega
    have h3 : (x : Int) ≠ 0 := by omega
    have h4 : (x : Int) ≤ 1000000 := by omega
    replace HL := Lib.hid HL
    clear hr hl hn hx hcl hle hz0
    go_enter Try.func12, Try.ntmps12
    go_wp2_with fail
    refine HL.out.mono ?_
    rintro e w1 ⟨rfl, k1⟩
    have HE1 := Lib.hid (HE.out _ k1)
    replace k1 := Lib.hid k1
    go_wp2_with fail
    refine HE1.out.mono ?_
    rintro e w2 ⟨rfl, k2⟩
    replace k2 := Lib.hid k2
    have e1 : (z : Int) - 1 + 1 = (z : Int) := by omega
    go_wp2
    go_ret2
    exact ⟨rfl, k1.out.trans k2.out⟩

set_option maxRecDepth 100000 in
theorem line_bad {B g : Nat} {t : RT} (w : World) (hr : RAt w B t g) (ht : t.Good) (hl : t.text.length ≤ 1000000) (x : Int) (hx : ¬ (0 ≤ x ∧ x ≤ (t.text.length : Nat))) :
    Calls Try.prog 13 #[.pointer (some ⟨g, 0, none⟩), .int .i64 x] w fun e w' => e = .returned (.tuple #[.int .i64 0, .int .i64 0, .int .i64 1]) ∧ w' = w := by
  have HW := within_any (o := some t) w ⟨ht, g, rfl, hr⟩ hl x x
  have hf : ¬ (0 ≤ x ∧ x ≤ x ∧ x ≤ ((textO (some t)).length : Nat)) := by simp only [textO]; omega
  rw [decide_eq_false hf] at HW
  replace HW := Lib.hid HW
  clear hr hl hx hf
  go_enter Try.func13, Try.ntmps13
  go_wp2_with fail
  refine HW.out.mono ?_
  rintro e w' ⟨rfl, hw'⟩
  replace hw' := hw'.symm
  subst hw'
  go_wp2
  refine bodyPost_ret (results_tmp3 rfl _ _ _) rfl ?_
  exact ⟨rfl, rfl⟩

set_option maxRecDepth 100000 in
theorem line_any {B g : Nat} {t : RT} (w : World) (hr : RAt w B t g) (ht : t.Good) (hB : B ≤ w.heap.size) (hl : t.text.length ≤ 1000000) (x : Nat) (hx : x ≤ t.text.length) :
    Calls Try.prog 13 #[.pointer (some ⟨g, 0, none⟩), .int .i64 x] w fun e w' => e = .returned (.tuple #[.int .i64 ((t.text.take x).count 10 : Nat), .int .i64 ((x : Int) - (nlEnd t.text ((t.text.take x).count 10) : Nat)), .int .i64 0]) ∧ KR B g w w' := by
  have HW := within_any (o := some t) w ⟨ht, g, rfl, hr⟩ hl x x
  rw [decide_eq_true (show (0 : Int) ≤ x ∧ (x : Int) ≤ x ∧ (x : Int) ≤ (textO (some t)).length by simp only [textO]; omega)] at HW
  have HA := ahead_any t g w x hr ht hB hl (by omega) (by omega)
  rw [Int.toNat_natCast] at HA
  have hc := cnt_take_le t.text x
  have HS : Hid (∀ W, KR B g w W → Calls Try.prog 12 #[.pointer (some ⟨g, 0, none⟩), .int .i64 ((t.text.take x).count 10 : Nat)] W fun e w' => e = .returned (.tuple #[.int .i64 (nlEnd t.text ((t.text.take x).count 10) : Nat), .int .i64 0]) ∧ KR B g W w') := Lib.hid fun W hW => start_any W (hW.ropes _ _ hr) ht (Nat.le_trans hB hW.below.size) hl _ hc
  have hz := nlEnd_le t.text ((t.text.take x).count 10)
  obtain ⟨z, hz0⟩ : ∃ z : Nat, z = nlEnd t.text ((t.text.take x).count 10) := ⟨_, rfl⟩
  rw [← hz0] at HS hz ⊢
  obtain ⟨n, hn⟩ : ∃ n : Nat, n = (t.text.take x).count 10 := ⟨_, rfl⟩
  rw [← hn] at HS HA ⊢
  have h4 : (x : Int) ≤ 1000000 := by omega
  have h5 : (z : Int) ≤ 1000000 := by omega
  replace HW := Lib.hid HW
  replace HA := Lib.hid HA
  clear hr hl hn hx hc hz hz0
  go_enter Try.func13, Try.ntmps13
  go_wp2_with fail
  refine HW.out.mono ?_
  rintro e w' ⟨rfl, hw'⟩
  replace hw' := hw'.symm
  subst hw'
  go_wp2_with fail
  refine HA.out.mono ?_
  rintro e w1 ⟨rfl, k1⟩
  have HS1 := Lib.hid (HS.out _ k1)
  replace k1 := Lib.hid k1
  go_wp2_with fail
  refine HS1.out.mono ?_
  rintro e w2 ⟨rfl, k2⟩
  replace k2 := Lib.hid k2
  go_wp2
  refine bodyPost_ret (results_tmp3 rfl _ _ _) rfl ?_
  exact ⟨rfl, k1.out.trans k2.out⟩
end Go.Proofs.Ytnmlijngnnlejaa
