/- Files: the laws' names. -/
import Derived.Test.YtekbilieddficaaDoorFi11
namespace Go.Proofs.YtekbilieddficaaDoor
open Go.RowKit
set_option linter.unusedVariables false

def nameB (i : Nat) : ByteArray := ⟨#[102, UInt8.ofNat (97 + i / 10), UInt8.ofNat (48 + i % 10)]⟩
theorem name_valid : ∀ i, i < 60 → ValidP (nameB i).data.toList := by decide +kernel
theorem name_inj : ∀ i, i < 60 → ∀ j, j < 60 → (nameB i).data.toList = (nameB j).data.toList → i = j := by decide +kernel

theorem conv_two (a b : Nat) (ha : a < 256) (hb : b < 256) (w : World) : (convert 41 9 (.slice (some ⟨w.heap.size, 0, none⟩) 2 2)).run Tryd.prog (w.alloc (.cells #[.int .u8 (a : Int), .int .u8 (b : Int)] 5)) = .ok (.string ⟨#[UInt8.ofNat a, UInt8.ofNat b]⟩) (w.alloc (.cells #[.int .u8 (a : Int), .int .u8 (b : Int)] 5)) :=
  run_convert_bytes_back (P := Tryd.prog) (w.alloc (.cells #[.int .u8 (a : Int), .int .u8 (b : Int)] 5)) 41 9 5 ⟨w.heap.size, 0, none⟩ 2 [UInt8.ofNat a, UInt8.ofNat b] Tryd.underlying41 Tryd.underlying5 Tryd.underlying9 (by
    intro j hj
    have e1 : (UInt8.ofNat a).toNat = a := by simp [UInt8.toNat_ofNat']; omega
    have e2 : (UInt8.ofNat b).toNat = b := by simp [UInt8.toNat_ofNat']; omega
    have h0 := Lib.cell_of_heap (heap_alloc_new w (.cells #[.int .u8 (a : Int), .int .u8 (b : Int)] 5)) 0
    have h1 := Lib.cell_of_heap (heap_alloc_new w (.cells #[.int .u8 (a : Int), .int .u8 (b : Int)] 5)) 1
    match j, hj with
    | 0, _ => simp only [List.getElem_cons_zero, e1]; exact h0
    | 1, _ => simp only [List.getElem_cons_succ, List.getElem_cons_zero, e2]; exact h1)

set_option maxRecDepth 100000 in
theorem name_any (i : Nat) (hi : i < 60) (w : World) : Calls Tryd.prog 15 #[.int .i64 i] w fun e w' => e = .returned (.string (nameB i)) ∧ Below w.heap.size w w' := by
  obtain ⟨q, hq⟩ : ∃ q, q = i / 10 := ⟨_, rfl⟩
  obtain ⟨r, hr⟩ : ∃ r, r = i % 10 := ⟨_, rfl⟩
  have e1 : (i : Int) / 10 = (q : Int) := by omega
  have e2 : (i : Int) % 10 = (r : Int) := by omega
  have e3 : (i : Int).tdiv 10 = (q : Int) := by rw [Int.tdiv_eq_ediv_of_nonneg (by omega)]; exact e1
  have e4 : (i : Int).tmod 10 = (r : Int) := by rw [Int.tmod_eq_emod_of_nonneg (by omega)]; exact e2
  have g1 : IntKind.i64.wrap (q : Int) = q := IntWalk.i64_in _ (by omega)
  have g2 : IntKind.i64.wrap (97 + (q : Int)) = 97 + (q : Int) := IntWalk.i64_in _ (by omega)
  have g3 : IntKind.i64.wrap (48 + (r : Int)) = 48 + (r : Int) := IntWalk.i64_in _ (by omega)
  have g4 : IntKind.u8.wrap (97 + (q : Int)) = 97 + (q : Int) := IntWalk.u8_in _ (by omega)
  have g5 : IntKind.u8.wrap (48 + (r : Int)) = 48 + (r : Int) := IntWalk.u8_in _ (by omega)
  have hcv := conv_two (97 + q) (48 + r) (by omega) (by omega) w
  obtain ⟨c1, hc1⟩ : ∃ c, c = UInt8.ofNat (97 + q) := ⟨_, rfl⟩
  obtain ⟨c2, hc2⟩ : ∃ c, c = UInt8.ofNat (48 + r) := ⟨_, rfl⟩
  rw [← hc1, ← hc2] at hcv
  push_cast at hcv
  have hN : Hid ((⟨#[102]⟩ : ByteArray) ++ (⟨#[c1, c2]⟩ : ByteArray) = nameB i) := Lib.hid (by rw [hc1, hc2, hq, hr]; rfl)
  have hs : (⟨#[102]⟩ : ByteArray).size + (⟨#[c1, c2]⟩ : ByteArray).size ≤ 9223372036854775807 := by show 1 + 2 ≤ _; omega
  clear hc1 hc2 hq hr
  go_enter Tryd.func15, Tryd.ntmps15
  go_wp2
  go_ret
  exact ⟨by rw [← hN.out]; rfl, (Below.refl _ w).alloc (Nat.le_refl _) _⟩
end Go.Proofs.YtekbilieddficaaDoor
