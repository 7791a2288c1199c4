/- Cells (chapter 23): New, Made, Get of none and of what was made. -/
import Derived.Test.YtcfadekcdcphnaaOnce
namespace Go.Proofs.Ytcfadekcdcphnaa
open Go.RowKit
set_option linter.unusedVariables false

/-- the cells of a cell -/
def cellC (d st : Int) (f : Value) (m : Int) (s : ByteArray) : Array Value := #[.int .u32 d, .int .i32 st, .int .u32 0, f, .int .u32 m, .string s]

theorem cell6 {w : World} {g : Nat} {d st m : Int} {f : Value} {s : ByteArray} (e : w.heap[g]? = some (.cells (cellC d st f m s) 55 (0, 0))) :
    w.cell? ⟨g, 0, none⟩ = some (.int .u32 d) ∧ w.cell? ⟨g, 1, none⟩ = some (.int .i32 st) ∧ w.cell? ⟨g, 2, none⟩ = some (.int .u32 0) ∧ w.cell? ⟨g, 3, none⟩ = some f ∧ w.cell? ⟨g, 4, none⟩ = some (.int .u32 m) ∧ w.cell? ⟨g, 5, none⟩ = some (.string s) :=
  ⟨Lib.cell_of_heap e 0, Lib.cell_of_heap e 1, Lib.cell_of_heap e 2, Lib.cell_of_heap e 3, Lib.cell_of_heap e 4, Lib.cell_of_heap e 5⟩

theorem func_nil_in (d F : Nat) (l : Array Value) (w : World) : (Op.equalIn (d + 1) 30 (.func (.func F) #[] l) .nilFunc).run Try.prog w = .ok false w := by
  simp [Op.equalIn, run_underlying Try.underlying30]

theorem func_nil (F : Nat) (l : Array Value) (w : World) : (binOp .eql 30 (.func (.func F) #[] l) .nilFunc).run Try.prog w = .ok (.bool false) w := by
  simp only [binOp]
  simp [show Op.equal 30 (.func (.func F) #[] l) .nilFunc = Op.equalIn (9999 + 1) 30 (.func (.func F) #[] l) .nilFunc from rfl, func_nil_in 9999 F l w]

theorem new_any (F : Nat) (l : Array Value) (w : World) : Calls Try.prog 8 #[.func (.func F) #[] l] w fun e w' => e = .returned (.pointer (some ⟨w.heap.size, 0, none⟩)) ∧ w' = w.alloc (.cells (cellC 0 0 (.func (.func F) #[] l) 0 ByteArray.empty) 55) := by
  go_enter Try.func8, Try.ntmps8
  go_wp2
  go_ret
  exact ⟨rfl, rfl⟩

theorem newMeter_any (w : World) : Calls Try.prog 13 #[] w fun e w' => e = .returned (.pointer (some ⟨w.heap.size, 0, none⟩)) ∧ w' = w.alloc (.cells #[.pointer none] 64) := by
  go_enter Try.func13, Try.ntmps13
  go_wp2
  go_ret
  exact ⟨rfl, rfl⟩

theorem made_nil (w : World) : Calls Try.prog 11 #[.pointer none] w fun e w' => e = .returned (.bool false) ∧ w' = w := by
  go_enter Try.func11, Try.ntmps11
  go_wp2
  go_ret
  exact ⟨rfl, rfl⟩

theorem made_any {g : Nat} {m : Int} (w : World) (h : w.cell? ⟨g, 4, none⟩ = some (.int .u32 m)) : Calls Try.prog 11 #[.pointer (some ⟨g, 0, none⟩)] w fun e w' => e = .returned (.bool (m != 0)) ∧ w' = w := by
  have HL := Lib.hid (bool_load ⟨g, 4, none⟩ m w h)
  go_enter Try.func11, Try.ntmps11
  go_wp2_with fail
  refine HL.out.mono ?_
  rintro e w' ⟨rfl, hw'⟩
  replace hw' := hw'.symm
  subst hw'
  go_wp2
  go_ret
  exact ⟨rfl, rfl⟩

theorem get_nil (w : World) : Calls Try.prog 12 #[.pointer none] w fun e w' => e = .returned (.string ⟨#[]⟩) ∧ Below w.heap.size w w' := by
  go_enter Try.func12, Try.ntmps12
  go_wp2
  go_ret
  exact ⟨rfl, (Below.refl _ w).alloc (Nat.le_refl _) _⟩

set_option maxRecDepth 100000 in
theorem get_told {g F : Nat} {l : Array Value} {s : ByteArray} {m : Int} (w : World) (e0 : w.heap[g]? = some (.cells (cellC 1 0 (.func (.func F) #[] l) m s) 55 (0, 0))) :
    Calls Try.prog 12 #[.pointer (some ⟨g, 0, none⟩)] w fun e w' => e = .returned (.string s) ∧ Below w.heap.size w w' := by
  have hlt : g < w.heap.size := lt_of_block e0
  have e1 : (w.alloc (.cells #[.pointer (some ⟨g, 0, none⟩)] 27)).heap[g]? = some (.cells (cellC 1 0 (.func (.func F) #[] l) m s) 55 (0, 0)) := (Lib.alloc_old _ _ _ hlt).trans e0
  obtain ⟨c0, _, _, c3, _, c5⟩ := cell6 e1
  have hfn := func_nil F l
  have HD := Lib.hid (do_done g 0 1 (by decide) (.func (.func 22) #[] #[.pointer (some ⟨w.heap.size, 0, none⟩)]) _ c0)
  replace e1 := Lib.hid e1
  replace e0 := Lib.hid e0
  go_enter Try.func12, Try.ntmps12
  go_wp2_with fail
  refine HD.out.mono ?_
  rintro e w' ⟨rfl, hw'⟩
  subst hw'
  go_wp2
  go_ret
  exact ⟨rfl, (Below.refl _ w).alloc (Nat.le_refl _) _⟩
end Go.Proofs.Ytcfadekcdcphnaa
