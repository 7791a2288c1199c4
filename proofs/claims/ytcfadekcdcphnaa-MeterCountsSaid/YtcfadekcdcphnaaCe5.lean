/- Meters: now, Read, maps.Clone. -/
import Derived.Test.YtcfadekcdcphnaaCe4
import Derived.Test.YtcfadekcdcphnaaMaps
import Derived.Shelf.SlMaps.Clone
namespace Go.Proofs.Ytcfadekcdcphnaa
open Go.RowKit
set_option linter.unusedVariables false

def intV (p : ByteArray × Int) : ByteArray × Value := (p.1, .int .i64 p.2)

/-- a map of numbers -/
structure NumsAt (w : World) (mb : Nat) (L : List (ByteArray × Int)) : Prop where
  map : ∃ es clock, w.heap[mb]? = some (.map es clock) ∧ MapIs es (L.map intV) ∧ MapKept.Stamped es clock
  nd : (L.map (·.1)).Nodup
  ok : ∀ p ∈ L, p.1.size ≤ maxLen ∧ 0 ≤ p.2 ∧ p.2 ≤ 4611686018427387904

/-- a meter in memory -/
structure MeterAt (w : World) (g : Nat) (p : Option Addr) (L : List (ByteArray × Int)) : Prop where
  own : w.heap[g]? = some (.cells #[.pointer p] 64 (0, 0))
  has : (p = none ∧ L = []) ∨ ∃ nb mb, p = some ⟨nb, 0, none⟩ ∧ w.heap[nb]? = some (.cells #[.map (some mb)] 66 (0, 0)) ∧ NumsAt w mb L

theorem MeterAt.ptr {w : World} {g : Nat} {p : Option Addr} {L : List (ByteArray × Int)} (h : MeterAt w g p L) : PtrOk w p := by
  rcases h.has with ⟨rfl, _⟩ | ⟨nb, mb, rfl, h, _⟩
  · exact .inl rfl
  · exact .inr ⟨nb, _, rfl, h⟩

def numOf (L : List (ByteArray × Int)) (n : ByteArray) : Int := ((L.find? fun p => decide (p.1 = n)).map (·.2)).getD 0

theorem lookL_num (L : List (ByteArray × Int)) (n : ByteArray) : (lookL (L.map intV) n).getD (.int .i64 0) = .int .i64 (numOf L n) := by
  unfold lookL numOf
  rw [List.find?_map]
  have : ((fun p : ByteArray × Value => decide (p.1 = n)) ∘ intV) = fun p : ByteArray × Int => decide (p.1 = n) := rfl
  rw [this]
  cases L.find? (fun p => decide (p.1 = n)) <;> rfl

theorem zero_int (w : World) : (zeroValue 3).run Try.prog w = .ok (.int .i64 0) w := by kernel_rfl

theorem NumsAt.look {w : World} {mb : Nat} {L : List (ByteArray × Int)} (h : NumsAt w mb L) {n : ByteArray} (hn : n.size ≤ maxLen) :
    (Instr.lookup 66 (.map (some mb)) (.string n) false).run Try.prog w = .ok (.int .i64 (numOf L n)) w := by
  obtain ⟨es, clock, hb, hL, _⟩ := h.map
  have := map_lookup Try.underlying66 Try.underlying9 (zero_int w) hb hL (by rw [List.map_map]; exact h.nd) (by
    intro p hp
    obtain ⟨q, hq, rfl⟩ := List.mem_map.1 hp
    exact (h.ok q hq).1) hn
  rw [this, lookL_num]

theorem look_none {w : World} {n : ByteArray} (hn : n.size ≤ maxLen) : (Instr.lookup 66 (.map none) (.string n) false).run Try.prog w = .ok (.int .i64 0) w := by
  have hkey := str_key Try.underlying9 hn
  have K := WideMaps.string_law Try.underlying9
  rcases K.find w hkey [] (by simp) with ⟨h1, h2⟩ | ⟨j, e0, h1, h2, h3⟩
  · simp [Instr.lookup, run_underlying Try.underlying66, K.check w _ hkey, h1, zero_int w, Result.andThen]
  · simp at h2

set_option maxRecDepth 100000 in
theorem clone_some {mb : Nat} {es : Array MapEntry} {clock : Nat} (w : World) (hb : w.heap[mb]? = some (.map es clock)) :
    Calls Try.prog 28 #[.map (some mb)] w fun e w' => e = .returned (.map (some w.heap.size)) ∧ w' = w.alloc (.map es clock) := by
  have hq := fun w => run_eql_map_nil_sl (P := Try.prog) w 66 _ _ (some mb) Try.underlying66
  go_enter Try.func28, Try.ntmps28
  go_wp2
  rw [run_callFunc_extern Try.func39 (by kernel_rfl) (by kernel_rfl) (by kernel_rfl) (e := Extern.MapsClone.clone) (by kernel_rfl), run_maps_clone_sl w 66 hb]
  simp only [Result.andThen]
  rw [Oper.upon_value]
  go_wp2
  rw [run_typeAssert_map_sl _ 66 20 _ _ _ Try.underlying66]
  simp only [Result.andThen]
  rw [Oper.upon_value]
  go_wp2
  go_ret
  exact ⟨rfl, rfl⟩

set_option maxRecDepth 100000 in
theorem clone_none (w : World) : Calls Try.prog 28 #[.map none] w fun e w' => e = .returned (.map none) ∧ w' = w := by
  have hq := fun w => run_eql_map_nil_sl (P := Try.prog) w 66 _ _ none Try.underlying66
  go_enter Try.func28, Try.ntmps28
  go_wp2
  go_ret
  exact ⟨rfl, rfl⟩

theorem now_none {g : Nat} (w : World) (h : MeterAt w g none []) : Calls Try.prog 27 #[.pointer (some ⟨g, 0, none⟩)] w fun e w' => e = .returned (.tuple #[.pointer none, .map none]) ∧ w' = w := by
  have HL := Lib.hid (ptr_load w (Lib.cell_of_heap h.own 0) h.ptr)
  replace h := Lib.hid h
  go_enter Try.func27, Try.ntmps27
  go_wp2_with fail
  refine HL.out.mono ?_
  rintro e w' ⟨rfl, hw'⟩
  replace hw' := hw'.symm
  subst hw'
  go_wp2
  go_ret2
  exact ⟨rfl, rfl⟩

theorem now_some {g nb mb : Nat} {L : List (ByteArray × Int)} (w : World) (h : MeterAt w g (some ⟨nb, 0, none⟩) L) (hn : w.heap[nb]? = some (.cells #[.map (some mb)] 66 (0, 0))) : Calls Try.prog 27 #[.pointer (some ⟨g, 0, none⟩)] w fun e w' => e = .returned (.tuple #[.pointer (some ⟨nb, 0, none⟩), .map (some mb)]) ∧ w' = w := by
  have HL := Lib.hid (ptr_load w (Lib.cell_of_heap h.own 0) h.ptr)
  have c0 := cell_of_one hn
  replace h := Lib.hid h
  replace hn := Lib.hid hn
  go_enter Try.func27, Try.ntmps27
  go_wp2_with fail
  refine HL.out.mono ?_
  rintro e w' ⟨rfl, hw'⟩
  replace hw' := hw'.symm
  subst hw'
  go_wp2
  go_ret2
  exact ⟨rfl, rfl⟩

theorem read_nil (n : ByteArray) (w : World) : Calls Try.prog 17 #[.pointer none, .string n] w fun e w' => e = .returned (.int .i64 0) ∧ w' = w := by
  go_enter Try.func17, Try.ntmps17
  go_wp2
  go_ret
  exact ⟨rfl, rfl⟩

theorem read_any {g : Nat} {p : Option Addr} {L : List (ByteArray × Int)} (w : World) (h : MeterAt w g p L) (n : ByteArray) (hn : n.size ≤ maxLen) :
    Calls Try.prog 17 #[.pointer (some ⟨g, 0, none⟩), .string n] w fun e w' => e = .returned (.int .i64 (numOf L n)) ∧ w' = w := by
  have h' := h
  obtain ⟨h1, ⟨rfl, rfl⟩ | ⟨nb, mb, rfl, hnb, hN⟩⟩ := h'
  · have HW := Lib.hid (now_none w h)
    have hl := look_none (w := w) hn
    replace h := Lib.hid h
    replace h1 := Lib.hid h1
    go_enter Try.func17, Try.ntmps17
    go_wp2_with fail
    refine HW.out.mono ?_
    rintro e w' ⟨rfl, hw'⟩
    replace hw' := hw'.symm
    subst hw'
    go_wp2
    go_ret
    exact ⟨rfl, rfl⟩
  · have HW := Lib.hid (now_some w h hnb)
    have hl := hN.look hn
    replace h := Lib.hid h
    replace h1 := Lib.hid h1
    replace hnb := Lib.hid hnb
    replace hN := Lib.hid hN
    go_enter Try.func17, Try.ntmps17
    go_wp2_with fail
    refine HW.out.mono ?_
    rintro e w' ⟨rfl, hw'⟩
    replace hw' := hw'.symm
    subst hw'
    go_wp2
    go_ret
    exact ⟨rfl, rfl⟩
end Go.Proofs.Ytcfadekcdcphnaa
