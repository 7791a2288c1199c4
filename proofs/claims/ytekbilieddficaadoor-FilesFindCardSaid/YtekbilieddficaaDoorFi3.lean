/- Files: looks into a table; the counters. -/
import Derived.Test.YtekbilieddficaaDoorFi2
namespace Go.Proofs.YtekbilieddficaaDoor
open Go.RowKit
set_option linter.unusedVariables false

theorem lookL_none {L : List (ByteArray × Value)} {n : ByteArray} (h : ∀ p ∈ L, p.1 ≠ n) : lookL L n = none := by
  unfold lookL
  rw [List.find?_eq_none.2 (fun p hp => by simpa using h p hp)]
  rfl
theorem lookL_mem {L : List (ByteArray × Value)} (hnd : (L.map (·.1)).Nodup) {n : ByteArray} {v : Value} (h : (n, v) ∈ L) : lookL L n = some v := by
  induction L with
  | nil => simp at h
  | cons q L ih =>
    rw [List.map_cons, List.nodup_cons] at hnd
    unfold lookL
    rcases List.mem_cons.1 h with e | h
    · subst e
      simp
    · have hq : q.1 ≠ n := fun e => hnd.1 (by rw [e]; exact List.mem_map.2 ⟨_, h, rfl⟩)
      simp only [List.find?_cons, hq, decide_false]
      exact ih hnd.2 h

theorem map_lookup2 {P : Program} {w : World} {t k e : TypeId} {b : Nat} {es : Array MapEntry} {clock : Nat} {L : List (ByteArray × Value)} (ht : P.underlying t = some (.map k e)) (hk : P.underlying k = some .string) {z : Value} (hz : (zeroValue e).run P w = .ok z w)
    (hb : w.heap[b]? = some (.map es clock)) (hL : MapIs es L) (hnd : (L.map (·.1)).Nodup) (hsz : ∀ p ∈ L, p.1.size ≤ maxLen) {n : ByteArray} (hn : n.size ≤ maxLen) :
    (Instr.lookup t (.map (some b)) (.string n) true).run P w = .ok (.tuple #[(lookL L n).getD z, .bool (lookL L n).isSome]) w := by
  have K := WideMaps.string_law hk
  have hkey := str_key hk hn
  have hkeys : ∀ e ∈ es.toList, ∃ l, keyOf P k e.key = some l := by
    intro x hx
    obtain ⟨p, hp, e1, _⟩ := hL.mem hx
    exact ⟨_, by rw [e1]; exact str_key hk (hsz p hp)⟩
  rcases K.find w hkey es.toList hkeys with ⟨h1, h2⟩ | ⟨j, e0, h1, h2, h3⟩
  · have : lookL L n = none := by
      refine lookL_none fun p hp e => ?_
      have : (Value.string p.1, p.2) ∈ L.map (fun p => (Value.string p.1, p.2)) := List.mem_map.2 ⟨p, hp, rfl⟩
      rw [← hL] at this
      obtain ⟨x, hx, e1⟩ := List.mem_map.1 this
      simp only [Prod.mk.injEq] at e1
      exact h2 x hx (by rw [e1.1, e])
    rw [this]
    simp [Instr.lookup, run_underlying ht, MapKept.run_getObj_map hb, K.check w _ hkey, h1, hz, Result.andThen]
  · obtain ⟨p, hp, e1, e2⟩ := hL.get h2
    have hpn : p.1 = n := by rw [h3] at e1; injection e1 with e1; exact e1.symm
    have : lookL L n = some e0.val := by
      refine lookL_mem hnd ?_
      rw [e2, ← hpn]
      exact List.mem_of_getElem? hp
    rw [this]
    simp [Instr.lookup, run_underlying ht, MapKept.run_getObj_map hb, K.check w _ hkey, h1, Result.andThen]

theorem zero_rope (w : World) : (zeroValue 45).run Tryd.prog w = .ok (.pointer none) w := by kernel_rfl
theorem zero_cnt (w : World) : (zeroValue 86).run Tryd.prog w = .ok (.pointer none) w := by kernel_rfl

theorem le80 {n : ByteArray} (h : n.size ≤ 80) : n.size ≤ maxLen := by unfold maxLen; omega

/-- a file of the table -/
def fileOf (F : List (ByteArray × Nat × RT)) (n : ByteArray) : Option (Nat × RT) := (F.find? fun p => decide (p.1 = n)).map (·.2)
def timesOf (V : List (ByteArray × Nat × Int)) (n : ByteArray) : Option (Nat × Int) := (V.find? fun p => decide (p.1 = n)).map (·.2)

theorem look_file (F : List (ByteArray × Nat × RT)) (n : ByteArray) : lookL (F.map ptrF) n = (fileOf F n).map fun q => .pointer (some ⟨q.1, 0, none⟩) := by
  unfold lookL fileOf
  rw [List.find?_map]
  have : ((fun p : ByteArray × Value => decide (p.1 = n)) ∘ ptrF) = fun p : ByteArray × Nat × RT => decide (p.1 = n) := rfl
  rw [this]
  cases F.find? fun p => decide (p.1 = n) <;> rfl
theorem look_times (V : List (ByteArray × Nat × Int)) (n : ByteArray) : lookL (V.map ptrV) n = (timesOf V n).map fun q => .pointer (some ⟨q.1, 0, none⟩) := by
  unfold lookL timesOf
  rw [List.find?_map]
  have : ((fun p : ByteArray × Value => decide (p.1 = n)) ∘ ptrV) = fun p : ByteArray × Nat × Int => decide (p.1 = n) := rfl
  rw [this]
  cases V.find? fun p => decide (p.1 = n) <;> rfl

theorem keysF (F : List (ByteArray × Nat × RT)) : (F.map ptrF).map (·.1) = F.map (·.1) := by rw [List.map_map]; rfl
theorem keysV (V : List (ByteArray × Nat × Int)) : (V.map ptrV).map (·.1) = V.map (·.1) := by rw [List.map_map]; rfl

theorem FAt.file {w : World} {B g fm vm : Nat} {dv : Value} {D : List ByteArray} {F : List (ByteArray × Nat × RT)} {V : List (ByteArray × Nat × Int)} (h : FAt w B g fm vm dv D F V) {n : ByteArray} (hn : n.size ≤ maxLen) :
    (Instr.lookup 59 (.map (some fm)) (.string n) true).run Tryd.prog w = .ok (.tuple #[((fileOf F n).map fun q => Value.pointer (some ⟨q.1, 0, none⟩)).getD (.pointer none), .bool (fileOf F n).isSome]) w := by
  obtain ⟨es, clock, hb, hM, _⟩ := h.files
  rw [map_lookup2 Tryd.underlying59 Tryd.underlying9 (zero_rope w) hb hM (by rw [keysF]; exact h.fnd) (by
    intro p hp
    obtain ⟨q, hq, rfl⟩ := List.mem_map.1 hp
    exact le80 (h.fsz q hq)) hn, look_file]
  cases fileOf F n <;> rfl

theorem FAt.times {w : World} {B g fm vm : Nat} {dv : Value} {D : List ByteArray} {F : List (ByteArray × Nat × RT)} {V : List (ByteArray × Nat × Int)} (h : FAt w B g fm vm dv D F V) {n : ByteArray} (hn : n.size ≤ maxLen) :
    (Instr.lookup 60 (.map (some vm)) (.string n) false).run Tryd.prog w = .ok (((timesOf V n).map fun q => Value.pointer (some ⟨q.1, 0, none⟩)).getD (.pointer none)) w := by
  obtain ⟨es, clock, hb, hM, _⟩ := h.vers
  rw [map_lookup Tryd.underlying60 Tryd.underlying9 (zero_cnt w) hb hM (by rw [keysV]; exact h.vnd) (by
    intro p hp
    obtain ⟨q, hq, rfl⟩ := List.mem_map.1 hp
    exact le80 (h.vsz q hq)) hn, look_times]

set_option maxRecDepth 100000 in
theorem get_any {B g fm vm : Nat} {dv : Value} {D : List ByteArray} {F : List (ByteArray × Nat × RT)} {V : List (ByteArray × Nat × Int)} (w : World) (h : FAt w B g fm vm dv D F V) (n : ByteArray) (hn : n.size ≤ maxLen) :
    Calls Tryd.prog 17 #[.pointer (some ⟨g, 0, none⟩), .string n] w fun e w' => e = .returned (.tuple #[((fileOf F n).map fun q => Value.pointer (some ⟨q.1, 0, none⟩)).getD (.pointer none), .bool (fileOf F n).isSome]) ∧ w' = w := by
  have c1 := Lib.cell_of_heap h.tab 1
  have hl := h.file hn
  replace h := Lib.hid h
  generalize ((fileOf F n).map fun q => Value.pointer (some ⟨q.1, 0, none⟩)).getD (.pointer none) = v at hl ⊢
  generalize (fileOf F n).isSome = b at hl ⊢
  go_enter Tryd.func17, Tryd.ntmps17
  go_wp2
  go_ret2
  exact ⟨rfl, rfl⟩

theorem add64 {b : Nat} {x : Int} (w : World) (hc : w.cell? ⟨b, 0, none⟩ = some (.int .i64 x)) (hz : w.frozen? ⟨b, 0, none⟩ = false) (h0 : 0 ≤ x) (h1 : x ≤ 1000000) :
    Calls Tryd.prog 71 #[.pointer (some ⟨b, 0, none⟩), .int .i64 1] w fun e w' => e = .returned (.int .i64 (x + 1)) ∧ w' = w.setCell ⟨b, 0, none⟩ (.int .i64 (x + 1)) := by
  have g1 : IntKind.i64.wrap (x + 1) = x + 1 := IntWalk.i64_in _ (by omega)
  have hl := run_call_add (P := Tryd.prog) Tryd.func86 (by kernel_rfl) (by kernel_rfl) (by kernel_rfl) .i64 (by kernel_rfl) (x := x) (y := 1) (s := x + 1) hc hz (by simp [Op.intArith, g1])
  go_enter Tryd.func71, Tryd.ntmps71
  go_wp2
  go_ret
  exact ⟨rfl, rfl⟩

theorem load64 {b : Nat} {x : Int} (w : World) (hc : w.cell? ⟨b, 0, none⟩ = some (.int .i64 x)) :
    Calls Tryd.prog 44 #[.pointer (some ⟨b, 0, none⟩)] w fun e w' => e = .returned (.int .i64 x) ∧ w' = w := by
  have hl := run_call_load (P := Tryd.prog) Tryd.func67 (by kernel_rfl) (by kernel_rfl) (by kernel_rfl) .i64 (by kernel_rfl) (x := x) hc
  go_enter Tryd.func44, Tryd.ntmps44
  go_wp2
  go_ret
  exact ⟨rfl, rfl⟩
end Go.Proofs.YtekbilieddficaaDoor
