/- Cells: Get at the first asking. -/
import Derived.Test.YtcfadekcdcphnaaCe1
import Derived.Deep.QuietTactic
import Derived.Deep.RegionHeld3
namespace Go.Proofs.Ytcfadekcdcphnaa
open Go.RowKit
set_option linter.unusedVariables false

/-- '(*sync/atomic.Bool).Store(true)' -/
theorem bool_store (a : Addr) (x : Value) (w : World) (hc : w.cell? a = some x) (hz : w.frozen? a = false) :
    Calls Try.prog 23 #[.pointer (some a), .bool true] w fun e w' => e = .returned (.tuple #[]) ∧ w' = w.drew.setCell a (.int .u32 1) := by
  have hc' : w.drew.cell? a = some x := by go_simp
  have hz' : w.drew.frozen? a = false := by go_simp
  have hst := run_call_store (P := Try.prog) Try.func32 (by kernel_rfl) (by kernel_rfl) (by kernel_rfl) (by kernel_rfl) (k := .u32) (y := 1) hc' hz'
  go_enter Try.func23, Try.ntmps23
  go_wp2
  go_region_calls
  all_goals (go_end0; exact ⟨rfl, rfl⟩)

/-- what the maker must leave: the cell, and where it is told, as they were -/
structure MakeQ (QF : World → Prop) (g bx : Nat) (F : Nat) (l : Array Value) (st : Int) (sv : ByteArray) : Prop where
  cell : ∀ w, QF w → w.heap[g]? = some (.cells (cellC 0 st (.func (.func F) #[] l) 0 sv) 55 (0, 0))
  box : ∀ w, QF w → w.heap[bx]? = some (.cells #[.pointer (some ⟨g, 0, none⟩)] 27 (0, 0))

/-- what was made, laid down -/
def laid (g : Nat) (s : ByteArray) (W : World) : World := (W.setCell ⟨g, 5, none⟩ (.string s)).drew.setCell ⟨g, 4, none⟩ (.int .u32 1)

def GetterPost (QF : World → Prop) (g : Nat) (s : ByteArray) (e : Ending) (w' : World) : Prop := e = .returned (.tuple #[]) ∧ ∃ W, QF W ∧ w' = laid g s W

set_option maxRecDepth 100000 in
set_option maxHeartbeats 4000000 in
theorem getter_awake {g bx : Nat} {s sv : ByteArray} {QF : World → Prop} (c0 : Option Addr) (w : World) (HQ : MakeQ QF g bx 19 #[.pointer c0] 1 sv)
    (hb : w.heap[bx]? = some (.cells #[.pointer (some ⟨g, 0, none⟩)] 27 (0, 0))) (e0 : w.heap[g]? = some (.cells (cellC 0 1 (.func (.func 19) #[] #[.pointer c0]) 0 sv) 55 (0, 0)))
    (HF : Calls Try.prog 19 #[.pointer c0] w.drew fun e w' => e = .returned (.string s) ∧ QF w') :
    Calls Try.prog 22 #[.pointer (some ⟨bx, 0, none⟩)] w fun e w' => GetterPost QF g s e w' := by
  have y0 : w.cell? ⟨bx, 0, none⟩ = some (.pointer (some ⟨g, 0, none⟩)) ∧ w.cell? ⟨g, 3, none⟩ = some (.func (.func 19) #[] #[.pointer c0]) := ⟨Lib.cell_of_heap hb 0, Lib.cell_of_heap e0 3⟩
  have y1 : w.drew.cell? ⟨bx, 0, none⟩ = some (.pointer (some ⟨g, 0, none⟩)) ∧ w.drew.cell? ⟨g, 3, none⟩ = some (.func (.func 19) #[] #[.pointer c0]) := y0
  have hgb : bx ≠ g := by
    rintro rfl
    rw [e0] at hb
    simp only [Option.some.injEq, Obj.cells.injEq] at hb
    exact absurd hb.2.1 (by decide)
  have HX : Hid (∀ W, QF W → (W.cell? ⟨bx, 0, none⟩ = some (.pointer (some ⟨g, 0, none⟩)) ∧ W.cell? ⟨g, 3, none⟩ = some (.func (.func 19) #[] #[.pointer c0])) ∧ W.cell? ⟨g, 5, none⟩ = some (.string sv) ∧ W.frozen? ⟨g, 5, none⟩ = false ∧
      (((W.setCell ⟨g, 5, none⟩ (.string s)).cell? ⟨bx, 0, none⟩ = some (.pointer (some ⟨g, 0, none⟩)) ∧ (W.setCell ⟨g, 5, none⟩ (.string s)).cell? ⟨g, 3, none⟩ = some (.func (.func 19) #[] #[.pointer c0])) ∧
       (W.setCell ⟨g, 5, none⟩ (.string s)).cell? ⟨g, 4, none⟩ = some (.int .u32 0) ∧ (W.setCell ⟨g, 5, none⟩ (.string s)).frozen? ⟨g, 4, none⟩ = false)) := Lib.hid (by
    intro W hW
    have h1 := HQ.cell W hW
    have h2 := HQ.box W hW
    have a1 := Lib.cell_of_heap h2 0
    have a2 := Lib.cell_of_heap h1 3
    have a3 := Lib.cell_of_heap h1 4
    refine ⟨⟨a1, a2⟩, Lib.cell_of_heap h1 5, Lib.frozen_of_heap h1 5, ⟨⟨?_, ?_⟩, ?_, ?_⟩⟩
    · exact (World.cell?_setCell_other _ _ _ _ (by intro e; simp only [Addr.mk.injEq] at e; exact hgb e.1.symm)).trans a1
    · exact (World.cell?_setCell_other _ _ _ _ (by simp)).trans a2
    · exact (World.cell?_setCell_other _ _ _ _ (by simp)).trans a3
    · rw [World.frozen?_setCell]; exact Lib.frozen_of_heap h1 4)
  replace HF := Lib.hid HF
  replace hb := Lib.hid hb
  replace e0 := Lib.hid e0
  clear HQ
  go_enter Try.func22, Try.ntmps22
  go_wp2_with fail
  go_region_held3 (fun x : World => x.cell? ⟨bx, 0, none⟩ = some (.pointer (some ⟨g, 0, none⟩)) ∧ x.cell? ⟨g, 3, none⟩ = some (.func (.func 19) #[] #[.pointer c0])) (first | with_reducible exact y0 | with_reducible exact y1 | with_reducible exact y2 | with_reducible exact y3) (first
    | (go_at_call 19; (with_reducible refine HF.out.mono ?_); rintro e w1 ⟨rfl, hq⟩; obtain ⟨y2, c5, f5, y3, c4, f4⟩ := HX.out w1 hq))
  all_goals
    have HS := Lib.hid (bool_store ⟨g, 4, none⟩ _ (w1.setCell ⟨g, 5, none⟩ (.string s)) c4 f4)
    obtain ⟨y5, y6⟩ := y3
    replace hq := Lib.hid hq
    go_wp2_with fail
    refine HS.out.mono ?_
    rintro e w' ⟨rfl, hw'⟩
    subst hw'
    go_wp2
    go_end0
    exact ⟨rfl, w1, hq.out, rfl⟩

set_option maxRecDepth 100000 in
set_option maxHeartbeats 4000000 in
theorem getter_once {g bx : Nat} {s sv : ByteArray} {QF : World → Prop} (c0 c1 c2 : Option Addr) (w : World) (HQ : MakeQ QF g bx 9 #[.pointer c0, .pointer c1, .pointer c2] 1 sv)
    (hb : w.heap[bx]? = some (.cells #[.pointer (some ⟨g, 0, none⟩)] 27 (0, 0))) (e0 : w.heap[g]? = some (.cells (cellC 0 1 (.func (.func 9) #[] #[.pointer c0, .pointer c1, .pointer c2]) 0 sv) 55 (0, 0)))
    (HF : Calls Try.prog 9 #[.pointer c0, .pointer c1, .pointer c2] w.drew fun e w' => e = .returned (.string s) ∧ QF w') :
    Calls Try.prog 22 #[.pointer (some ⟨bx, 0, none⟩)] w fun e w' => GetterPost QF g s e w' := by
  have y0 : w.cell? ⟨bx, 0, none⟩ = some (.pointer (some ⟨g, 0, none⟩)) ∧ w.cell? ⟨g, 3, none⟩ = some (.func (.func 9) #[] #[.pointer c0, .pointer c1, .pointer c2]) := ⟨Lib.cell_of_heap hb 0, Lib.cell_of_heap e0 3⟩
  have y1 : w.drew.cell? ⟨bx, 0, none⟩ = some (.pointer (some ⟨g, 0, none⟩)) ∧ w.drew.cell? ⟨g, 3, none⟩ = some (.func (.func 9) #[] #[.pointer c0, .pointer c1, .pointer c2]) := y0
  have hgb : bx ≠ g := by
    rintro rfl
    rw [e0] at hb
    simp only [Option.some.injEq, Obj.cells.injEq] at hb
    exact absurd hb.2.1 (by decide)
  have HX : Hid (∀ W, QF W → (W.cell? ⟨bx, 0, none⟩ = some (.pointer (some ⟨g, 0, none⟩)) ∧ W.cell? ⟨g, 3, none⟩ = some (.func (.func 9) #[] #[.pointer c0, .pointer c1, .pointer c2])) ∧ W.cell? ⟨g, 5, none⟩ = some (.string sv) ∧ W.frozen? ⟨g, 5, none⟩ = false ∧
      (((W.setCell ⟨g, 5, none⟩ (.string s)).cell? ⟨bx, 0, none⟩ = some (.pointer (some ⟨g, 0, none⟩)) ∧ (W.setCell ⟨g, 5, none⟩ (.string s)).cell? ⟨g, 3, none⟩ = some (.func (.func 9) #[] #[.pointer c0, .pointer c1, .pointer c2])) ∧
       (W.setCell ⟨g, 5, none⟩ (.string s)).cell? ⟨g, 4, none⟩ = some (.int .u32 0) ∧ (W.setCell ⟨g, 5, none⟩ (.string s)).frozen? ⟨g, 4, none⟩ = false)) := Lib.hid (by
    intro W hW
    have h1 := HQ.cell W hW
    have h2 := HQ.box W hW
    have a1 := Lib.cell_of_heap h2 0
    have a2 := Lib.cell_of_heap h1 3
    have a3 := Lib.cell_of_heap h1 4
    refine ⟨⟨a1, a2⟩, Lib.cell_of_heap h1 5, Lib.frozen_of_heap h1 5, ⟨⟨?_, ?_⟩, ?_, ?_⟩⟩
    · exact (World.cell?_setCell_other _ _ _ _ (by intro e; simp only [Addr.mk.injEq] at e; exact hgb e.1.symm)).trans a1
    · exact (World.cell?_setCell_other _ _ _ _ (by simp)).trans a2
    · exact (World.cell?_setCell_other _ _ _ _ (by simp)).trans a3
    · rw [World.frozen?_setCell]; exact Lib.frozen_of_heap h1 4)
  replace HF := Lib.hid HF
  replace hb := Lib.hid hb
  replace e0 := Lib.hid e0
  clear HQ
  go_enter Try.func22, Try.ntmps22
  go_wp2_with fail
  go_region_held3 (fun x : World => x.cell? ⟨bx, 0, none⟩ = some (.pointer (some ⟨g, 0, none⟩)) ∧ x.cell? ⟨g, 3, none⟩ = some (.func (.func 9) #[] #[.pointer c0, .pointer c1, .pointer c2])) (first | with_reducible exact y0 | with_reducible exact y1 | with_reducible exact y2 | with_reducible exact y3) (first
    | (go_at_call 9; (with_reducible refine HF.out.mono ?_); rintro e w1 ⟨rfl, hq⟩; obtain ⟨y2, c5, f5, y3, c4, f4⟩ := HX.out w1 hq))
  all_goals
    have HS := Lib.hid (bool_store ⟨g, 4, none⟩ _ (w1.setCell ⟨g, 5, none⟩ (.string s)) c4 f4)
    obtain ⟨y5, y6⟩ := y3
    replace hq := Lib.hid hq
    go_wp2_with fail
    refine HS.out.mono ?_
    rintro e w' ⟨rfl, hw'⟩
    subst hw'
    go_wp2
    go_end0
    exact ⟨rfl, w1, hq.out, rfl⟩

set_option maxRecDepth 100000 in
set_option maxHeartbeats 4000000 in
theorem getter_chain {g bx : Nat} {s sv : ByteArray} {QF : World → Prop} (c0 c1 c2 : Option Addr) (w : World) (HQ : MakeQ QF g bx 18 #[.pointer c0, .pointer c1, .pointer c2] 1 sv)
    (hb : w.heap[bx]? = some (.cells #[.pointer (some ⟨g, 0, none⟩)] 27 (0, 0))) (e0 : w.heap[g]? = some (.cells (cellC 0 1 (.func (.func 18) #[] #[.pointer c0, .pointer c1, .pointer c2]) 0 sv) 55 (0, 0)))
    (HF : Calls Try.prog 18 #[.pointer c0, .pointer c1, .pointer c2] w.drew fun e w' => e = .returned (.string s) ∧ QF w') :
    Calls Try.prog 22 #[.pointer (some ⟨bx, 0, none⟩)] w fun e w' => GetterPost QF g s e w' := by
  have y0 : w.cell? ⟨bx, 0, none⟩ = some (.pointer (some ⟨g, 0, none⟩)) ∧ w.cell? ⟨g, 3, none⟩ = some (.func (.func 18) #[] #[.pointer c0, .pointer c1, .pointer c2]) := ⟨Lib.cell_of_heap hb 0, Lib.cell_of_heap e0 3⟩
  have y1 : w.drew.cell? ⟨bx, 0, none⟩ = some (.pointer (some ⟨g, 0, none⟩)) ∧ w.drew.cell? ⟨g, 3, none⟩ = some (.func (.func 18) #[] #[.pointer c0, .pointer c1, .pointer c2]) := y0
  have hgb : bx ≠ g := by
    rintro rfl
    rw [e0] at hb
    simp only [Option.some.injEq, Obj.cells.injEq] at hb
    exact absurd hb.2.1 (by decide)
  have HX : Hid (∀ W, QF W → (W.cell? ⟨bx, 0, none⟩ = some (.pointer (some ⟨g, 0, none⟩)) ∧ W.cell? ⟨g, 3, none⟩ = some (.func (.func 18) #[] #[.pointer c0, .pointer c1, .pointer c2])) ∧ W.cell? ⟨g, 5, none⟩ = some (.string sv) ∧ W.frozen? ⟨g, 5, none⟩ = false ∧
      (((W.setCell ⟨g, 5, none⟩ (.string s)).cell? ⟨bx, 0, none⟩ = some (.pointer (some ⟨g, 0, none⟩)) ∧ (W.setCell ⟨g, 5, none⟩ (.string s)).cell? ⟨g, 3, none⟩ = some (.func (.func 18) #[] #[.pointer c0, .pointer c1, .pointer c2])) ∧
       (W.setCell ⟨g, 5, none⟩ (.string s)).cell? ⟨g, 4, none⟩ = some (.int .u32 0) ∧ (W.setCell ⟨g, 5, none⟩ (.string s)).frozen? ⟨g, 4, none⟩ = false)) := Lib.hid (by
    intro W hW
    have h1 := HQ.cell W hW
    have h2 := HQ.box W hW
    have a1 := Lib.cell_of_heap h2 0
    have a2 := Lib.cell_of_heap h1 3
    have a3 := Lib.cell_of_heap h1 4
    refine ⟨⟨a1, a2⟩, Lib.cell_of_heap h1 5, Lib.frozen_of_heap h1 5, ⟨⟨?_, ?_⟩, ?_, ?_⟩⟩
    · exact (World.cell?_setCell_other _ _ _ _ (by intro e; simp only [Addr.mk.injEq] at e; exact hgb e.1.symm)).trans a1
    · exact (World.cell?_setCell_other _ _ _ _ (by simp)).trans a2
    · exact (World.cell?_setCell_other _ _ _ _ (by simp)).trans a3
    · rw [World.frozen?_setCell]; exact Lib.frozen_of_heap h1 4)
  replace HF := Lib.hid HF
  replace hb := Lib.hid hb
  replace e0 := Lib.hid e0
  clear HQ
  go_enter Try.func22, Try.ntmps22
  go_wp2_with fail
  go_region_held3 (fun x : World => x.cell? ⟨bx, 0, none⟩ = some (.pointer (some ⟨g, 0, none⟩)) ∧ x.cell? ⟨g, 3, none⟩ = some (.func (.func 18) #[] #[.pointer c0, .pointer c1, .pointer c2])) (first | with_reducible exact y0 | with_reducible exact y1 | with_reducible exact y2 | with_reducible exact y3) (first
    | (go_at_call 18; (with_reducible refine HF.out.mono ?_); rintro e w1 ⟨rfl, hq⟩; obtain ⟨y2, c5, f5, y3, c4, f4⟩ := HX.out w1 hq))
  all_goals
    have HS := Lib.hid (bool_store ⟨g, 4, none⟩ _ (w1.setCell ⟨g, 5, none⟩ (.string s)) c4 f4)
    obtain ⟨y5, y6⟩ := y3
    replace hq := Lib.hid hq
    go_wp2_with fail
    refine HS.out.mono ?_
    rintro e w' ⟨rfl, hw'⟩
    subst hw'
    go_wp2
    go_end0
    exact ⟨rfl, w1, hq.out, rfl⟩

end Go.Proofs.Ytcfadekcdcphnaa
