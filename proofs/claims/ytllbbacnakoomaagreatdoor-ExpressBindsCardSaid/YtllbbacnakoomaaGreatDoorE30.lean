/- Texts of this seat's proofs, laid into one file. -/
import Derived.Test.YtllbbacnakoomaaGreatDoorE29
import Derived.KernelRfl
/- law 20: awake: what the document fixes. -/
namespace Go.Proofs.YtllbbacnakoomaaGreatDoor
open Go.RowKit
set_option linter.unusedVariables false

/-- a text, written: no names -/
theorem wr20 {w : World} (hsp : SpTab w) (s : ByteArray) (hs : s.size ≤ 1900) (o : List UInt8) (hw : writE s.data.toList [] = some o) (ho : o.length ≤ 1000000) : ∀ y, Below w.heap.size w y → Calls Tryz.prog 18 #[.string s, .slice none 0 0] y fun e w' => e = .returned (.string ⟨o.toArray⟩) ∧ Below y.heap.size y w' :=
  fun y hy => written20_any s hs [] 0 rfl (by omega) (by simp) none 0 y (hsp.below hy) (Row.nil _ _ _) o hw ho
/-- a text, written: one name -/
theorem wr20n {w : World} (hsp : SpTab w) (s : ByteArray) (hs : s.size ≤ 1900) (x : ByteArray) (hx : x.size ≠ 0) (o : List UInt8) (hw : writE s.data.toList [x] = some o) (ho : o.length ≤ 1000000) : ∀ y, Below w.heap.size w y → Calls Tryz.prog 18 #[.string s, .slice (some ⟨y.heap.size, 0, none⟩) 1 1] (y.alloc (.cells #[.string x] 9)) fun e w' => e = .returned (.string ⟨o.toArray⟩) ∧ Below y.heap.size y w' :=
  fun y hy => (written20_any s hs [x] 1 rfl (by omega) (by simpa using hx) (some ⟨y.heap.size, 0, none⟩) 1 (y.alloc (.cells #[.string x] 9)) (hsp.below (hy.alloc hy.size _)) (fun _ => ⟨_, _, rfl, fun i cs hi j u hj => by
    have hn := Lib.cell_of_heap (heap_alloc_new y (.cells #[.string x] 9))
    cases i with
    | succ i => simp at hi
    | zero =>
      simp at hi
      subst hi
      cases j with
      | succ j => simp at hj
      | zero => simp at hj; subst hj; rw [Lib.cell_of_heap (heap_alloc_new y _)]; rfl⟩) o hw ho).mono fun e w' h => ⟨h.1, ((Below.refl _ y).alloc (Nat.le_refl _) _).trans (h.2.mono (by simp))⟩

theorem aw1 : writE ([40, 84, 41, 45, 49] : List UInt8) [(⟨#[84]⟩ : ByteArray)] = some ([40, 99, 97, 115, 116, 32, 40, 116, 121, 112, 101, 110, 97, 109, 101, 32, 40, 115, 112, 101, 99, 115, 32, 40, 116, 121, 112, 101, 110, 97, 109, 101, 32, 84, 41, 41, 32, 40, 110, 111, 110, 101, 41, 41, 32, 40, 117, 110, 97, 114, 121, 32, 45, 32, 40, 105, 110, 116, 32, 49, 41, 41, 41] : List UInt8) := by kernel_rfl
theorem aw2 : writE ([40, 84, 41, 45, 49] : List UInt8) [] = some ([40, 98, 105, 110, 97, 114, 121, 32, 45, 32, 40, 110, 97, 109, 101, 32, 84, 41, 32, 40, 105, 110, 116, 32, 49, 41, 41] : List UInt8) := by kernel_rfl
theorem aw3 : writE ([97, 32, 61, 32, 98, 32, 63, 32, 99, 32, 58, 32, 100, 44, 32, 101] : List UInt8) [] = some ([40, 99, 111, 109, 109, 97, 32, 40, 97, 115, 115, 105, 103, 110, 32, 61, 32, 40, 110, 97, 109, 101, 32, 97, 41, 32, 40, 99, 111, 110, 100, 32, 40, 110, 97, 109, 101, 32, 98, 41, 32, 40, 110, 97, 109, 101, 32, 99, 41, 32, 40, 110, 97, 109, 101, 32, 100, 41, 41, 41, 32, 40, 110, 97, 109, 101, 32, 101, 41, 41] : List UInt8) := by kernel_rfl
theorem aw4 : writE ([97, 32, 43] : List UInt8) [] = some [] := by kernel_rfl
theorem aw5 : writE ([115, 105, 122, 101, 111, 102, 40, 84, 41, 32, 42, 32, 120] : List UInt8) [(⟨#[84]⟩ : ByteArray)] = some ([40, 98, 105, 110, 97, 114, 121, 32, 42, 32, 40, 115, 105, 122, 101, 111, 102, 116, 121, 112, 101, 32, 40, 116, 121, 112, 101, 110, 97, 109, 101, 32, 40, 115, 112, 101, 99, 115, 32, 40, 116, 121, 112, 101, 110, 97, 109, 101, 32, 84, 41, 41, 32, 40, 110, 111, 110, 101, 41, 41, 41, 32, 40, 110, 97, 109, 101, 32, 120, 41, 41] : List UInt8) := by kernel_rfl

set_option maxRecDepth 100000 in
set_option maxHeartbeats 4000000 in
theorem awake20_any (w : World) (hsp : SpTab w) : Calls Tryz.prog 19 #[] w fun e w' => e = .returned (.bool true) ∧ Below w.heap.size w w' := by
  have H1 := Lib.hid (wr20n hsp (⟨#[40, 84, 41, 45, 49]⟩ : ByteArray) (by decide) (⟨#[84]⟩ : ByteArray) (by decide) _ aw1 (by decide))
  have H2 := Lib.hid (wr20 hsp (⟨#[40, 84, 41, 45, 49]⟩ : ByteArray) (by decide) _ aw2 (by decide))
  have H3 := Lib.hid (wr20 hsp (⟨#[97, 32, 61, 32, 98, 32, 63, 32, 99, 32, 58, 32, 100, 44, 32, 101]⟩ : ByteArray) (by decide) _ aw3 (by decide))
  have H4 := Lib.hid (wr20 hsp (⟨#[97, 32, 43]⟩ : ByteArray) (by decide) _ aw4 (by decide))
  have H5 := Lib.hid (wr20n hsp (⟨#[115, 105, 122, 101, 111, 102, 40, 84, 41, 32, 42, 32, 120]⟩ : ByteArray) (by decide) (⟨#[84]⟩ : ByteArray) (by decide) _ aw5 (by decide))
  clear hsp
  have hb0 : Hid (Below w.heap.size w w) := Lib.hid (Below.refl _ _)
  go_enter Tryz.func19, Tryz.ntmps19
  go_wp2_with fail
  refine (H1.out _ hb0.out).mono ?_
  rintro e w1 ⟨rfl, hb1⟩
  replace hb1 := Lib.hid hb1
  clear H1 hb0
  go_wp2_with fail
  refine (H2.out _ hb1.out).mono ?_
  rintro e w2 ⟨rfl, hb⟩
  have hb2 := Lib.hid (hb1.out.trans (hb.mono hb1.out.size))
  clear H2 hb hb1
  go_wp2_with fail
  refine (H3.out _ hb2.out).mono ?_
  rintro e w3 ⟨rfl, hb⟩
  have hb3 := Lib.hid (hb2.out.trans (hb.mono hb2.out.size))
  clear H3 hb hb2
  go_wp2_with fail
  refine (H4.out _ hb3.out).mono ?_
  rintro e w4 ⟨rfl, hb⟩
  have hb4 := Lib.hid (hb3.out.trans (hb.mono hb3.out.size))
  clear H4 hb hb3
  go_wp2_with fail
  refine (H5.out _ hb4.out).mono ?_
  rintro e w5 ⟨rfl, hb⟩
  have hb5 := Lib.hid (hb4.out.trans (hb.mono hb4.out.size))
  clear H5 hb hb4
  go_wp2_with fail
  go_ret
  exact ⟨rfl, hb5.out⟩
end Go.Proofs.YtllbbacnakoomaaGreatDoor
