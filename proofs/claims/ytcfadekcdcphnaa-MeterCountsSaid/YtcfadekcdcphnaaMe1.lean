/- Meters: Reset. -/
import Derived.Test.YtcfadekcdcphnaaCe8
import Derived.Test.YtcfadekcdcphnaaSorted
namespace Go.Proofs.Ytcfadekcdcphnaa
open Go.RowKit
set_option linter.unusedVariables false

def keysB (L : List (ByteArray × Int)) : List (List UInt8) := sortedB (L.map fun p => p.1.data.toList)
theorem bytesOf_int (L : List (ByteArray × Int)) : bytesOf (L.map intV) = L.map fun p => p.1.data.toList := by
  unfold bytesOf
  rw [List.map_map]
  rfl

def ResetPost (g : Nat) (L : List (ByteArray × Int)) (w : World) (e : Ending) (w' : World) : Prop :=
  (∃ v, e = .returned v ∧ Own w' w.heap.size 9 1 v ((keysB L).map fun s => [.string ⟨s.toArray⟩])) ∧ MeterAt w' g none [] ∧ OnlyG g w w'

set_option maxRecDepth 100000 in
set_option maxHeartbeats 4000000 in
theorem reset_any {g : Nat} {p : Option Addr} {L : List (ByteArray × Int)} (w : World) (h : MeterAt w g p L) (hl : L.length ≤ 1000000) :
    Calls Try.prog 15 #[.pointer (some ⟨g, 0, none⟩)] w fun e w' => ResetPost g L w e w' := by
  have hg := lt_of_block h.own
  obtain ⟨W1, hW1⟩ : ∃ W, W = w.setCell ⟨g, 0, none⟩ (.pointer none) := ⟨_, rfl⟩
  have oth : ∀ k, k ≠ g → W1.heap[k]? = w.heap[k]? := fun k hk => by rw [hW1]; exact Below.heap_setCell _ _ _ _ hk
  have own1 : W1.heap[g]? = some (.cells #[.pointer none] 64 (0, 0)) := by
    rw [hW1]
    simp [World.setCell, Array.getElem?_modify, h.own]
  have s1 : W1.heap.size = w.heap.size := by rw [hW1, World.size_setCell]
  have b1 : ∀ B, B ≤ g → Below B w W1 := fun B hB => by rw [hW1]; exact (Below.refl B w).setCell hB _
  have o1 : OnlyG g w W1 := ⟨by omega, fun k h1 h2 => oth k h1, b1⟩
  have m1 : MeterAt W1 g none [] := ⟨own1, .inl ⟨rfl, rfl⟩⟩
  have h' := h
  obtain ⟨hown, ⟨rfl, rfl⟩ | ⟨nb, mb, rfl, hnb, hN⟩⟩ := h'
  · have HS := Lib.hid (ptr_swap w (q := none) (Lib.cell_of_heap h.own 0) (Lib.frozen_of_heap h.own 0) h.ptr (.inl rfl) (.inl rfl))
    rw [← hW1] at HS
    replace h := Lib.hid h
    replace hown := Lib.hid hown
    replace hW1 := Lib.hid hW1
    replace own1 := Lib.hid own1
    replace m1 := Lib.hid m1
    replace o1 := Lib.hid o1
    clear oth s1 b1
    go_enter Try.func15, Try.ntmps15
    go_wp2_with fail
    refine HS.out.mono ?_
    rintro e w' ⟨rfl, hw'⟩
    replace hw' := hw'.symm
    subst hw'
    go_wp2
    go_ret
    refine ⟨⟨.slice none 0 0, rfl, ?_⟩, m1.out, o1.out⟩
    rw [show keysB [] = [] from List.mergeSort_nil]
    exact Own.nil _ _ _ _
  · have hne : nb ≠ g := by
      rintro rfl
      rw [hown] at hnb
      simp only [Option.some.injEq, Obj.cells.injEq] at hnb
      exact absurd hnb.2.1 (by decide)
    obtain ⟨es, clock, hb, hMI, hSt⟩ := hN.map
    have hne2 : mb ≠ g := by
      rintro rfl
      rw [hown] at hb
      cases hb
    have hnb1 := (oth nb hne).trans hnb
    have hb1 := (oth mb hne2).trans hb
    have HS := Lib.hid (ptr_swap w (q := none) (Lib.cell_of_heap h.own 0) (Lib.frozen_of_heap h.own 0) h.ptr (.inl rfl) (.inr ⟨nb, _, rfl, by rw [← hW1]; exact hnb1⟩))
    rw [← hW1] at HS
    have HK := Lib.hid (keys_any (some mb) W1)
    have HT := Lib.hid (sorted_any W1 hb1 hMI hSt (by
      intro p hp
      obtain ⟨q, hq, rfl⟩ := List.mem_map.1 hp
      exact (hN.ok q hq).1) (by rw [List.length_map]; exact hl))
    have c1 := cell_of_one hnb1
    have hS1 := Lib.hid s1
    replace h := Lib.hid h
    replace hown := Lib.hid hown
    replace hW1 := Lib.hid hW1
    replace own1 := Lib.hid own1
    replace m1 := Lib.hid m1
    replace o1 := Lib.hid o1
    replace hnb := Lib.hid hnb
    replace hnb1 := Lib.hid hnb1
    replace hb := Lib.hid hb
    replace hb1 := Lib.hid hb1
    replace hN := Lib.hid hN
    clear oth s1 b1 hMI hSt
    go_enter Try.func15, Try.ntmps15
    go_wp2_with fail
    refine HS.out.mono ?_
    rintro e w' ⟨rfl, hw'⟩
    replace hw' := hw'.symm
    subst hw'
    go_wp2_with fail
    refine HK.out.mono ?_
    rintro e w' ⟨rfl, hw'⟩
    subst hw'
    go_wp2_with fail
    refine HT.out.mono ?_
    rintro e w' ⟨v, rfl, hv, hbw⟩
    replace hv := Lib.hid hv
    replace hbw := Lib.hid hbw
    go_wp2
    go_ret
    have hkb : keysB L = sortedB (bytesOf (L.map intV)) := by rw [bytesOf_int]; rfl
    refine ⟨⟨v, rfl, by rw [hkb]; exact hv.out.mono (by rw [hS1.out]; exact Nat.le_refl _)⟩, ⟨(hbw.out.block _ (lt_of_block own1.out)).trans own1.out, .inl ⟨rfl, rfl⟩⟩, o1.out.trans ⟨hbw.out.size, fun k _ hk => hbw.out.block k hk, fun B hB => hbw.out.mono (by have := lt_of_block own1.out; omega)⟩⟩
end Go.Proofs.Ytcfadekcdcphnaa
