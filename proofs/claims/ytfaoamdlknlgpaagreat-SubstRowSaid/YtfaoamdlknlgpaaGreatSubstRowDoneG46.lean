/- Texts of this seat's proofs, laid into one file. -/
import Derived.Test.YtfaoamdlknlgpaaGreatSubstRowDoneG2
import Derived.ChangeSlices
import Derived.SliceStrings
/- Arguments of strings and of numbers, opened. -/
namespace Go.Proofs.YtfaoamdlknlgpaaGreat
open Go.RowKit
set_option linter.unusedVariables false

theorem row_cells1 {W : World} {a : Addr} {len : Nat} {f : Nat → Value} (h : ∀ i, i < len → W.cell? (a.add i) = some (f i)) : Row W 1 (some a) ((List.range len).map fun i => [f i]) := by
  intro hne
  have hpos : 0 < len := by
    rcases Nat.eq_zero_or_pos len with h | h
    · subst h; simp at hne
    · exact h
  have hspot : a.spot = none := by
    have h1 := h 0 hpos
    simp only [Addr.add, if_true] at h1
    unfold World.cell? at h1
    split at h1
    · split at h1
      · simp at h1
      · rename_i hs
        simpa using hs
    · simp at h1
  obtain ⟨b, o, sp⟩ := a
  simp only at hspot
  subst hspot
  refine ⟨b, o, rfl, fun i cs hi j u hj => ?_⟩
  rw [List.getElem?_map] at hi
  cases hr : (List.range len)[i]? with
  | none => rw [hr] at hi; simp at hi
  | some k =>
    rw [hr] at hi
    simp only [Option.map_some, Option.some.injEq] at hi
    have hlt := (List.getElem?_eq_some_iff.1 hr).1
    have hk : k = i := by
      have := (List.getElem?_eq_some_iff.1 hr).2
      simpa using this.symm
    subst hk hi
    have h0 := h k (by simpa using hlt)
    rw [Addr.add_lit] at h0
    cases j with
    | zero =>
      simp only [List.getElem?_cons_zero, Option.some.injEq] at hj
      subst hj
      simpa using h0
    | succ j => simp at hj

section
variable {H : Type} {enc : TypeId × Value → H} {W : World} {base : Nat} {held : Bool}

theorem cells_strX : Tryz.prog.cellsOf 9 = 1 := by kernel_rfl
theorem cells_intX : Tryz.prog.cellsOf 3 = 1 := by kernel_rfl

theorem open_strsX {n : Nat} {v : Value} {x : DataW H × List MemPlace} (h : DataW.trod enc Tryz.prog W base (fun _ => true) held n 45 [v] = some x) :
    ∃ (ws : List ByteArray) (ao : Option Addr) (cap : Nat), v = .slice ao ws.length cap ∧ ws.length ≤ cap ∧ (∀ s ∈ ws, s.size ≤ maxLen) ∧ Row W 1 ao (ws.map fun p => [.string p]) := by
  rcases Go.ChangeShapes.open_strings Tryz.underlying45 Tryz.underlying9 cells_strX h with ⟨e, _⟩ | ⟨a, len, cap, ss, e, _, hl, hm, hlen, _, hc, hs⟩
  · simp only [List.cons.injEq, and_true] at e
    exact ⟨[], none, 0, e, Nat.le_refl _, by simp, Row.nil _ _ _⟩
  · simp only [List.cons.injEq, and_true] at e
    simp only [if_true] at hlen
    have hw : (ss.take len).length = len := by rw [List.length_take]; omega
    refine ⟨ss.take len, some a, cap, by rw [hw]; exact e, by rw [hw]; exact hl, fun s hh => hs s (List.mem_of_mem_take hh), ?_⟩
    have hr := row_cells1 (W := W) (a := a) (len := len) (f := fun i => .string (ss.getD i ByteArray.empty)) (fun i hi => hc i (by omega))
    have he : (ss.take len).map (fun p => [Value.string p]) = (List.range len).map fun i => [Value.string (ss.getD i ByteArray.empty)] := by
      apply List.ext_getElem
      · simp; omega
      · intro i h1 h2
        simp only [List.length_map, List.length_range] at h2
        simp [List.getD_eq_getElem?_getD, List.getElem?_eq_getElem (show i < ss.length by omega)]
    rw [he]
    exact hr

/-- the same, with all that a clone wants -/
theorem open_strsN {n : Nat} {v : Value} {x : DataW H × List MemPlace} (h : DataW.trod enc Tryz.prog W base (fun _ => true) held n 45 [v] = some x) :
    ∃ (ws : List ByteArray) (ao : Option Addr) (cap : Nat), v = .slice ao ws.length cap ∧ ws.length ≤ cap ∧ cap ≤ maxLen ∧ (ao = none → ws = [] ∧ cap = 0) ∧ Row W 1 ao (ws.map fun p => [.string p]) := by
  have h' := open_strsX h
  rcases Go.ChangeShapes.open_strings Tryz.underlying45 Tryz.underlying9 cells_strX h with ⟨e, _⟩ | ⟨a, len, cap, ss, e, _, hl, hm, hlen, _, hc, hs⟩
  · simp only [List.cons.injEq, and_true] at e
    exact ⟨[], none, 0, e, Nat.le_refl _, Nat.zero_le _, fun _ => ⟨rfl, rfl⟩, Row.nil _ _ _⟩
  · obtain ⟨ws, ao, cap', h1, h2, _, h3⟩ := h'
    simp only [List.cons.injEq, and_true] at e
    rw [e] at h1
    simp only [Value.slice.injEq] at h1
    obtain ⟨rfl, rfl, rfl⟩ := h1
    exact ⟨ws, some a, cap, e, h2, hm, (fun e2 => by cases e2), h3⟩

theorem open_intsX {n : Nat} {v : Value} {x : DataW H × List MemPlace} (h : DataW.trod enc Tryz.prog W base (fun _ => true) held n 38 [v] = some x) :
    ∃ (zs : List Int) (ao : Option Addr) (cap : Nat), v = .slice ao zs.length cap ∧ zs.length ≤ cap ∧ (∀ z ∈ zs, -9223372036854775808 ≤ z ∧ z ≤ 9223372036854775807) ∧ Row W 1 ao (zs.map fun z => [.int .i64 z]) := by
  rcases Go.ChangeShapes.open_ints Tryz.underlying38 Tryz.underlying3 cells_intX h with ⟨e, _⟩ | ⟨a, len, cap, ss, e, _, hl, hm, hlen, _, hc, hs⟩
  · simp only [List.cons.injEq, and_true] at e
    exact ⟨[], none, 0, e, Nat.le_refl _, by simp, Row.nil _ _ _⟩
  · simp only [List.cons.injEq, and_true] at e
    simp only [if_true] at hlen
    have hw : (ss.take len).length = len := by rw [List.length_take]; omega
    refine ⟨ss.take len, some a, cap, by rw [hw]; exact e, by rw [hw]; exact hl, fun s hh => i64_arg (hs s (List.mem_of_mem_take hh)), ?_⟩
    have hr := row_cells1 (W := W) (a := a) (len := len) (f := fun i => .int .i64 (ss.getD i 0)) (fun i hi => hc i (by omega))
    have he : (ss.take len).map (fun z => [Value.int .i64 z]) = (List.range len).map fun i => [Value.int .i64 (ss.getD i 0)] := by
      apply List.ext_getElem
      · simp; omega
      · intro i h1 h2
        simp only [List.length_map, List.length_range] at h2
        simp [List.getD_eq_getElem?_getD, List.getElem?_eq_getElem (show i < ss.length by omega)]
    rw [he]
    exact hr
end
end Go.Proofs.YtfaoamdlknlgpaaGreat
