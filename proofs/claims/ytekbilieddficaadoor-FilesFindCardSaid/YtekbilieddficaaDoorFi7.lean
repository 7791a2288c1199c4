/- Files: Create. -/
import Derived.Test.YtekbilieddficaaDoorFi6
namespace Go.Proofs.YtekbilieddficaaDoor
open Go.RowKit
set_option linter.unusedVariables false

theorem map_shape : Tryd.prog.underlying 59 = some (.map (Tryd.prog.mapKeyOf 59) (Tryd.prog.mapElemOf 59)) := by kernel_rfl

theorem FAt.count {w : World} {B g fm vm : Nat} {dv : Value} {D : List ByteArray} {F : List (ByteArray × Nat × RT)} {V : List (ByteArray × Nat × Int)} (h : FAt w B g fm vm dv D F V) : ∃ es clock, w.heap[fm]? = some (.map es clock) ∧ es.size = F.length := by
  obtain ⟨es, clock, f1, f2, f3⟩ := h.files
  refine ⟨es, clock, f1, ?_⟩
  have := congrArg List.length f2
  simpa using this

set_option maxRecDepth 100000 in
theorem create_bad {g : Nat} (w : World) (n s : ByteArray) (hn : n.size ≤ 100000) (hv : ¬ ValidP n.data.toList) : Calls Tryd.prog 11 #[.pointer (some ⟨g, 0, none⟩), .string n, .string s] w fun e w' => e = .returned (.int .i64 1) ∧ Below w.heap.size w w' := by
  have HV := pvalid_any n hn w
  rw [decide_eq_false hv] at HV
  replace HV := Lib.hid HV
  clear hv
  go_enter Tryd.func11, Tryd.ntmps11
  go_wp2_with fail
  refine HV.out.mono ?_
  rintro e w' ⟨rfl, hb⟩
  replace hb := Lib.hid hb
  go_wp2
  go_ret
  exact ⟨rfl, hb.out⟩

set_option maxRecDepth 100000 in
theorem create_there {B g fm vm : Nat} {dv : Value} {D : List ByteArray} {F : List (ByteArray × Nat × RT)} {V : List (ByteArray × Nat × Int)} (w : World) (h : FAt w B g fm vm dv D F V) (n s : ByteArray) (hn : n.size ≤ 100000) (hv : ValidP n.data.toList) (hf : (fileOf F n).isSome = true) :
    Calls Tryd.prog 11 #[.pointer (some ⟨g, 0, none⟩), .string n, .string s] w fun e w' => e = .returned (.int .i64 3) ∧ Below w.heap.size w w' := by
  have HV := pvalid_any n hn w
  rw [decide_eq_true hv] at HV
  replace HV := Lib.hid HV
  have HF := Lib.hid (fun (W : World) (hW : Below w.heap.size w W) => show W.cell? ⟨g, 1, none⟩ = some (.map (some fm)) ∧ _ from ⟨Lib.cell_of_heap (h.moved hW).tab 1, (h.moved hW).file (n := n) (by unfold maxLen; omega)⟩)
  rw [hf] at HF
  generalize ((fileOf F n).map fun q => Value.pointer (some ⟨q.1, 0, none⟩)).getD (.pointer none) = v at HF
  clear hv h hf
  go_enter Tryd.func11, Tryd.ntmps11
  go_wp2_with fail
  refine HV.out.mono ?_
  rintro e w1 ⟨rfl, hb⟩
  obtain ⟨c1, hl⟩ := HF.out w1 hb
  replace hb := Lib.hid hb
  go_wp2
  go_ret
  exact ⟨rfl, hb.out⟩

set_option maxRecDepth 100000 in
theorem create_full {B g fm vm : Nat} {dv : Value} {D : List ByteArray} {F : List (ByteArray × Nat × RT)} {V : List (ByteArray × Nat × Int)} (w : World) (h : FAt w B g fm vm dv D F V) (n s : ByteArray) (hn : n.size ≤ 100000) (hv : ValidP n.data.toList) (hf : fileOf F n = none) (h50 : 50 ≤ F.length) :
    Calls Tryd.prog 11 #[.pointer (some ⟨g, 0, none⟩), .string n, .string s] w fun e w' => e = .returned (.int .i64 4) ∧ Below w.heap.size w w' := by
  have HV := pvalid_any n hn w
  rw [decide_eq_true hv] at HV
  replace HV := Lib.hid HV
  have HF := Lib.hid (fun (W : World) (hW : Below w.heap.size w W) => show W.cell? ⟨g, 1, none⟩ = some (.map (some fm)) ∧ _ ∧ _ from ⟨Lib.cell_of_heap (h.moved hW).tab 1, (h.moved hW).file (n := n) (by unfold maxLen; omega), (h.moved hW).count⟩)
  rw [hf] at HF
  simp only [Option.map_none, Option.getD_none, Option.isSome_none] at HF
  clear hv h hf
  go_enter Tryd.func11, Tryd.ntmps11
  go_wp2_with fail
  refine HV.out.mono ?_
  rintro e w1 ⟨rfl, hb⟩
  obtain ⟨c1, hl, es, clock, f1, f2⟩ := HF.out w1 hb
  have hsz : (50 : Int) ≤ (es.size : Int) := by omega
  have hlen := fun ty => run_len_map (P := Tryd.prog) (w := w1) 59 ty fm es clock map_shape f1
  replace hb := Lib.hid hb
  go_wp2
  go_ret
  exact ⟨rfl, hb.out⟩

/-- what a creation leaves -/
def Created (B g fm vm : Nat) (dv : Value) (D : List ByteArray) (F : List (ByteArray × Nat × RT)) (V : List (ByteArray × Nat × Int)) (n : ByteArray) (l : List UInt8) (w : World) (e : Ending) (w' : World) : Prop :=
  e = .returned (.int .i64 0) ∧ ∃ b t nb, t.text = l ∧ FAt w' B g fm vm dv D (F ++ [(n, b, t)]) (bumpV V n nb) ∧ Below B w w' ∧ RopesKept w w'

set_option maxRecDepth 100000 in
set_option maxHeartbeats 1000000 in
theorem create_yes {B g fm vm : Nat} {dv : Value} {D : List ByteArray} {F : List (ByteArray × Nat × RT)} {V : List (ByteArray × Nat × Int)} (w : World) (h : FAt w B g fm vm dv D F V) (hB : B ≤ w.heap.size) (n s : ByteArray) (hn : n.size ≤ 80) (hv : ValidP n.data.toList) (hf : fileOf F n = none) (h50 : F.length < 50) (hs : s.size ≤ 65536) (hlt : countOf V n < 1000000) :
    Calls Tryd.prog 11 #[.pointer (some ⟨g, 0, none⟩), .string n, .string s] w fun e w' => Created B g fm vm dv D F V n s.data.toList w e w' := by
  have HV := pvalid_any n (by omega) w
  rw [decide_eq_true hv] at HV
  replace HV := Lib.hid HV
  have HF := Lib.hid (fun (W : World) (hW : Below w.heap.size w W) => show W.cell? ⟨g, 1, none⟩ = some (.map (some fm)) ∧ _ ∧ _ from ⟨Lib.cell_of_heap (h.moved hW).tab 1, (h.moved hW).file (n := n) (by unfold maxLen; omega), (h.moved hW).count⟩)
  rw [hf] at HF
  simp only [Option.map_none, Option.getD_none, Option.isSome_none] at HF
  have hff := Lib.hid hf
  have hh := Lib.hid h
  clear hv h hf
  go_enter Tryd.func11, Tryd.ntmps11
  go_wp2_with fail
  refine HV.out.mono ?_
  rintro e w1 ⟨rfl, hb⟩
  obtain ⟨c1, hl, es, clock, f1, f2⟩ := HF.out w1 hb
  have hsz : ¬ (50 : Int) ≤ (es.size : Int) := by omega
  have hlen := fun ty => run_len_map (P := Tryd.prog) (w := w1) 59 ty fm es clock map_shape f1
  have HN := Lib.hid (new_any (B := B) s hs w1 (Nat.le_trans hB hb.size))
  replace hb := Lib.hid hb
  go_wp2_with fail
  refine HN.out.mono ?_
  rintro e w2 ⟨⟨b, t, rfl, hr, hg, ht⟩, b2⟩
  have hb2 := hb.out.trans (b2.mono hb.out.size)
  have HP := puts_yes w2 (hh.out.moved hb2) (Nat.le_trans hB hb2.size) n hn hr hg hlt
  rw [putF_new b t hff.out] at HP
  replace HP := Lib.hid HP
  replace hb2 := Lib.hid hb2
  replace ht := Lib.hid ht
  clear hr hg b2
  go_wp2_with fail
  refine HP.out.mono ?_
  rintro e w3 ⟨rfl, h1, h2, h3⟩
  replace h1 := Lib.hid h1
  replace h2 := Lib.hid h2
  replace h3 := Lib.hid h3
  go_wp2
  go_ret
  exact ⟨rfl, b, t, _, ht.out, h1.out, (hb2.out.mono hB).trans h2.out, (RopesKept.of_below hb2.out).trans h3.out⟩
end Go.Proofs.YtekbilieddficaaDoor
