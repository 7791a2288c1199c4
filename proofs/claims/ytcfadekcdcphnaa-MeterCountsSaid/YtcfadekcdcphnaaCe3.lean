/- Cells: Get at the first asking, whole. -/
import Derived.Test.YtcfadekcdcphnaaCe2
namespace Go.Proofs.Ytcfadekcdcphnaa
open Go.RowKit
set_option linter.unusedVariables false

theorem heap_set {w : World} {g i : Nat} {v : Value} {c : Array Value} {e : TypeId} {fz : Nat × Nat} (h : w.heap[g]? = some (.cells c e fz)) : (w.setCell ⟨g, i, none⟩ v).heap[g]? = some (.cells (c.setIfInBounds i v) e fz) := by
  simp [World.setCell, Array.getElem?_modify, h]

set_option maxRecDepth 100000 in
set_option maxHeartbeats 4000000 in
/-- '(*sync.Once).doSlow', not yet done and the lock free, at the closure of Get. -/
theorem cell_slow {Q : World → Prop} {b off : Nat} (HQ : OnceQ Q b off) (pl : Addr) (w : World)
    (h0 : w.cell? ⟨b, off, none⟩ = some (.int .u32 0)) (h1 : w.cell? ⟨b, off + 1, none⟩ = some (.int .i32 0)) (f0 : w.frozen? ⟨b, off, none⟩ = false) (f1 : w.frozen? ⟨b, off + 1, none⟩ = false)
    (hf : Calls Try.prog 22 #[.pointer (some pl)] (w.setCell ⟨b, off + 1, none⟩ (.int .i32 1)) fun e w' => e = .returned (.tuple #[]) ∧ Q w') :
    Calls Try.prog 31 #[.pointer (some ⟨b, off, none⟩), .func (.func 22) #[] #[.pointer (some pl)]] w fun e w' => SlowPost Q b off e w' := by
  have HL := Lib.hid (lock_free ⟨b, off + 1, none⟩ w h1 f1)
  have HB := bool_load ⟨b, off, none⟩ 0 (w.setCell ⟨b, off + 1, none⟩ (.int .i32 1)) ((World.cell?_setCell_other _ ⟨b, off + 1, none⟩ ⟨b, off, none⟩ _ (by simp)).trans h0)
  have hnot : ∀ (x : Bool) (w : World), (Op.unary .not (.bool x)).run Try.prog w = .ok (.bool (!x)) w := fun _ _ => rfl
  rw [show ((0 : Int) != 0) = false from rfl] at HB
  replace HB := Lib.hid HB
  replace hf := Lib.hid hf
  clear h0 h1 f0 f1
  go_enter_defers Try.func31, Try.ntmps31
  go_wp2_with fail
  refine HL.out.mono ?_
  rintro e w' ⟨rfl, rfl⟩
  go_wp2_with fail
  refine HB.out.mono ?_
  rintro e w' ⟨rfl, rfl⟩
  go_wp2_with fail
  refine hf.out.mono ?_
  rintro e w2 ⟨rfl, hq⟩
  obtain ⟨q1, q2, q3, q4⟩ := HQ.done _ hq
  replace hq := Lib.hid hq
  go_wp2_with fail
  refine leaves_cons (f := 23) (args := #[.pointer (some ⟨b, off, none⟩), .bool true]) (by simp) (by simp [go_sem]) ?_
  refine (store_deferred ⟨b, off, none⟩ (.int .u32 0) .returning _ q1 q3).mono ?_
  rintro e u' w'' ⟨rfl, rfl, rfl⟩
  refine leaves_cons (f := 42) (args := #[.pointer (some ⟨b, off + 1, none⟩)]) (by simp [settle]) (by simp [go_sem]) ?_
  refine (unlock_deferred ⟨b, off + 1, none⟩ _ _ ?_ (by simp [q4])).mono ?_
  · exact (World.cell?_setCell_other _ ⟨b, off, none⟩ ⟨b, off + 1, none⟩ _ (by simp)).trans q2
  rintro e u' w'' ⟨rfl, rfl, rfl⟩
  simp [Leaves, settle, results, Try.results31]
  exact ⟨rfl, w2, hq.out, rfl⟩

set_option maxRecDepth 100000 in
/-- '(*sync.Once).Do', not yet done. -/
theorem cell_do {Q : World → Prop} {b off : Nat} (HQ : OnceQ Q b off) (pl : Addr) (w : World)
    (h0 : w.cell? ⟨b, off, none⟩ = some (.int .u32 0)) (h1 : w.cell? ⟨b, off + 1, none⟩ = some (.int .i32 0)) (f0 : w.frozen? ⟨b, off, none⟩ = false) (f1 : w.frozen? ⟨b, off + 1, none⟩ = false)
    (hf : Calls Try.prog 22 #[.pointer (some pl)] (w.setCell ⟨b, off + 1, none⟩ (.int .i32 1)) fun e w' => e = .returned (.tuple #[]) ∧ Q w') :
    Calls Try.prog 21 #[.pointer (some ⟨b, off, none⟩), .func (.func 22) #[] #[.pointer (some pl)]] w fun e w' => SlowPost Q b off e w' := by
  have HS := Lib.hid (cell_slow HQ pl w h0 h1 f0 f1 hf)
  have HB := bool_load ⟨b, off, none⟩ 0 w h0
  have hnot : ∀ (x : Bool) (w : World), (Op.unary .not (.bool x)).run Try.prog w = .ok (.bool (!x)) w := fun _ _ => rfl
  rw [show ((0 : Int) != 0) = false from rfl] at HB
  replace HB := Lib.hid HB
  clear h0 h1 f0 f1 hf
  go_enter Try.func21, Try.ntmps21
  go_wp2_with fail
  refine HB.out.mono ?_
  rintro e w' ⟨rfl, hw'⟩
  replace hw' := hw'.symm
  subst hw'
  go_wp2_with fail
  refine HS.out.mono ?_
  rintro e w2 ⟨rfl, hq⟩
  replace hq := Lib.hid hq
  go_wp2
  go_end0
  exact ⟨rfl, hq.out⟩

/-- the world in which the maker is asked -/
def askW (g : Nat) (w : World) : World := (w.alloc (.cells #[.pointer (some ⟨g, 0, none⟩)] 27)).setCell ⟨g, 1, none⟩ (.int .i32 1)

/-- what Get leaves at the first asking: what the maker left, and the cell told -/
def FirstPost (QF : World → Prop) (g F : Nat) (l : Array Value) (s : ByteArray) (e : Ending) (wf : World) : Prop :=
  e = .returned (.string s) ∧ ∃ W, QF W ∧ wf.heap[g]? = some (.cells (cellC 1 0 (.func (.func F) #[] l) 1 s) 55 (0, 0)) ∧ (∀ k, k ≠ g → wf.heap[k]? = W.heap[k]?) ∧ wf.heap.size = W.heap.size ∧ ∀ B, B ≤ g → Below B W wf

theorem told_facts {W : World} {g F : Nat} {l : Array Value} {sv s : ByteArray} (h : W.heap[g]? = some (.cells (cellC 0 1 (.func (.func F) #[] l) 0 sv) 55 (0, 0))) {wf : World}
    (hw : wf = ((laid g s W).drew.setCell ⟨g, 0, none⟩ (.int .u32 1)).setCell ⟨g, 0 + 1, none⟩ (.int .i32 0)) :
    wf.heap[g]? = some (.cells (cellC 1 0 (.func (.func F) #[] l) 1 s) 55 (0, 0)) ∧ (∀ k, k ≠ g → wf.heap[k]? = W.heap[k]?) ∧ wf.heap.size = W.heap.size ∧ ∀ B, B ≤ g → Below B W wf := by
  subst hw
  unfold laid
  have h1 := heap_set (i := 5) (v := .string s) h
  have h2 : (W.setCell ⟨g, 5, none⟩ (.string s)).drew.heap[g]? = _ := h1
  have h3 := heap_set (i := 4) (v := .int .u32 1) h2
  have h4 : ((W.setCell ⟨g, 5, none⟩ (.string s)).drew.setCell ⟨g, 4, none⟩ (.int .u32 1)).drew.heap[g]? = _ := h3
  have h5 := heap_set (i := 0) (v := .int .u32 1) h4
  have h6 := heap_set (i := 1) (v := .int .i32 0) h5
  refine ⟨h6, ?_, ?_, ?_⟩
  · intro k hk
    exact (Below.heap_setCell _ _ _ _ hk).trans ((Below.heap_setCell _ _ _ _ hk).trans ((Below.heap_setCell (W.setCell ⟨g, 5, none⟩ (.string s)).drew ⟨g, 4, none⟩ _ k hk).trans (Below.heap_setCell W ⟨g, 5, none⟩ _ k hk)))
  · simp [World.size_setCell]
  · intro B hB
    exact (((((Below.refl B W).setCell hB _).drew.setCell hB _).drew.setCell hB _).setCell hB _)

set_option maxRecDepth 100000 in
set_option maxHeartbeats 4000000 in
theorem get_first {g F : Nat} {l : Array Value} {s sv : ByteArray} {QF : World → Prop} (w : World) (HQ : MakeQ QF g w.heap.size F l 1 sv)
    (e0 : w.heap[g]? = some (.cells (cellC 0 0 (.func (.func F) #[] l) 0 sv) 55 (0, 0)))
    (HG : Calls Try.prog 22 #[.pointer (some ⟨w.heap.size, 0, none⟩)] (askW g w) fun e w' => GetterPost QF g s e w') :
    Calls Try.prog 12 #[.pointer (some ⟨g, 0, none⟩)] w fun e w' => FirstPost QF g F l s e w' := by
  have hlt : g < w.heap.size := lt_of_block e0
  have hne : w.heap.size ≠ g := by omega
  have e1 : (w.alloc (.cells #[.pointer (some ⟨g, 0, none⟩)] 27)).heap[g]? = some (.cells (cellC 0 0 (.func (.func F) #[] l) 0 sv) 55 (0, 0)) := (Lib.alloc_old _ _ _ hlt).trans e0
  obtain ⟨c0, c1, _, c3, _, c5⟩ := cell6 e1
  have hfn := func_nil F l
  have HO : OnceQ (fun w' => ∃ W, QF W ∧ w' = laid g s W) g 0 := ⟨by
    rintro w' ⟨W, hq, rfl⟩
    have h1 := heap_set (i := 5) (v := .string s) (HQ.cell W hq)
    have h2 : (W.setCell ⟨g, 5, none⟩ (.string s)).drew.heap[g]? = _ := h1
    have h3 := heap_set (i := 4) (v := .int .u32 1) h2
    exact ⟨Lib.cell_of_heap h3 0, Lib.cell_of_heap h3 1, Lib.frozen_of_heap h3 0, Lib.frozen_of_heap h3 1⟩⟩
  have HD := Lib.hid (cell_do HO ⟨w.heap.size, 0, none⟩ (w.alloc (.cells #[.pointer (some ⟨g, 0, none⟩)] 27)) c0 c1 (Lib.frozen_of_heap e1 0) (Lib.frozen_of_heap e1 1) HG)
  have FIN : Hid (∀ w' W, QF W → w' = laid g s W → ∀ wf, wf = (w'.drew.setCell ⟨g, 0, none⟩ (.int .u32 1)).setCell ⟨g, 0 + 1, none⟩ (.int .i32 0) → FirstPost QF g F l s (.returned (.string s)) wf ∧ wf.cell? ⟨w.heap.size, 0, none⟩ = some (.pointer (some ⟨g, 0, none⟩)) ∧ wf.cell? ⟨g, 5, none⟩ = some (.string s)) := Lib.hid (by
    rintro w' W hq rfl wf hwf
    have hb := HQ.box W hq
    obtain ⟨t1, t2, t3, t4⟩ := told_facts (HQ.cell W hq) hwf
    exact ⟨⟨rfl, W, hq, t1, t2, t3, t4⟩, Lib.cell_of_heap ((t2 _ hne).trans hb) 0, Lib.cell_of_heap t1 5⟩)
  replace e1 := Lib.hid e1
  replace e0 := Lib.hid e0
  clear HQ HO HG c0 c1 c5
  go_enter Try.func12, Try.ntmps12
  go_wp2_with fail
  refine HD.out.mono ?_
  rintro e wf ⟨rfl, w', ⟨W, hq, hl⟩, hwf⟩
  obtain ⟨hk, d0, d5⟩ := FIN.out w' W hq hl wf hwf
  replace hq := Lib.hid hq
  replace hwf := Lib.hid hwf
  replace hl := Lib.hid hl
  replace hk := Lib.hid hk
  go_wp2
  go_ret
  exact hk.out
end Go.Proofs.Ytcfadekcdcphnaa
