/- Files: Insert and Delete. -/
import Derived.Test.YtekbilieddficaaDoorFi10
namespace Go.Proofs.YtekbilieddficaaDoor
open Go.RowKit
set_option linter.unusedVariables false

theorem fileOf_mem {F : List (ByteArray × Nat × RT)} {n : ByteArray} {q : Nat × RT} (h : fileOf F n = some q) : (n, q) ∈ F := by
  unfold fileOf at h
  cases hf : F.find? fun p => decide (p.1 = n) with
  | none => rw [hf] at h; cases h
  | some p =>
    rw [hf] at h
    simp only [Option.map_some, Option.some.injEq] at h
    have h1 : p.1 = n := by simpa using List.find?_some hf
    rw [← h, ← h1]
    exact List.mem_of_find?_eq_some hf

theorem FAt.rope {w : World} {B g fm vm b : Nat} {t : RT} {dv : Value} {D : List ByteArray} {F : List (ByteArray × Nat × RT)} {V : List (ByteArray × Nat × Int)} (h : FAt w B g fm vm dv D F V) {n : ByteArray} (hf : fileOf F n = some (b, t)) : RP w B (some ⟨b, 0, none⟩) (some t) ∧ n.size ≤ 80 := by
  have hm := fileOf_mem hf
  exact ⟨⟨(h.ropes _ hm).2, b, rfl, (h.ropes _ hm).1⟩, h.fsz _ hm⟩

/-- what a change leaves -/
def Changed (B g fm vm : Nat) (dv : Value) (D : List ByteArray) (F : List (ByteArray × Nat × RT)) (V : List (ByteArray × Nat × Int)) (n : ByteArray) (l : List UInt8) (w : World) (e : Ending) (w' : World) : Prop :=
  e = .returned (.int .i64 0) ∧ ∃ b t nb, t.text = l ∧ FAt w' B g fm vm dv D (putF F n b t) (bumpV V n nb) ∧ Below B w w' ∧ RopesKept w w'

set_option maxRecDepth 100000 in
set_option maxHeartbeats 1000000 in
theorem fileInsert_yes {B g fm vm b : Nat} {t : RT} {dv : Value} {D : List ByteArray} {F : List (ByteArray × Nat × RT)} {V : List (ByteArray × Nat × Int)} (w : World) (h : FAt w B g fm vm dv D F V) (hB : B ≤ w.heap.size) (n : ByteArray) (hf : fileOf F n = some (b, t)) (x : Nat) (s : ByteArray) (hx : x ≤ t.text.length) (hs : t.text.length + s.size ≤ 65536) (hlt : countOf V n < 1000000) :
    Calls Tryd.prog 18 #[.pointer (some ⟨g, 0, none⟩), .string n, .int .i64 x, .string s] w fun e w' => Changed B g fm vm dv D F V n (t.text.take x ++ s.data.toList ++ t.text.drop x) w e w' := by
  have hR := h.rope hf
  have HG := get_any w h n (le80 hR.2)
  rw [hf] at HG
  simp only [Option.map_some, Option.getD_some, Option.isSome_some] at HG
  replace HG := Lib.hid HG
  have HI := Lib.hid (insert_any w hR.1 hB x hx s hs)
  have hn := hR.2
  have hh := Lib.hid h
  replace hR := Lib.hid hR
  replace hf := Lib.hid hf
  clear h
  go_enter Tryd.func18, Tryd.ntmps18
  go_wp2_with fail
  refine HG.out.mono ?_
  rintro e w' ⟨rfl, hw'⟩
  replace hw' := hw'.symm
  subst hw'
  go_wp2_with fail
  refine HI.out.mono ?_
  rintro e w2 ⟨⟨b', t', rfl, hr, hg, ht⟩, b2⟩
  have HP := Lib.hid (puts_yes w2 (hh.out.moved b2) (Nat.le_trans hB b2.size) n hn hr hg hlt)
  replace b2 := Lib.hid b2
  replace ht := Lib.hid ht
  clear hr hg
  go_wp2_with fail
  refine HP.out.mono ?_
  rintro e w3 ⟨rfl, h1, h2, h3⟩
  replace h1 := Lib.hid h1
  replace h2 := Lib.hid h2
  replace h3 := Lib.hid h3
  go_wp2
  go_ret
  exact ⟨rfl, b', t', _, ht.out, h1.out, (b2.out.mono hB).trans h2.out, (RopesKept.of_below b2.out).trans h3.out⟩

set_option maxRecDepth 100000 in
set_option maxHeartbeats 1000000 in
theorem fileDelete_yes {B g fm vm b : Nat} {t : RT} {dv : Value} {D : List ByteArray} {F : List (ByteArray × Nat × RT)} {V : List (ByteArray × Nat × Int)} (w : World) (h : FAt w B g fm vm dv D F V) (hB : B ≤ w.heap.size) (n : ByteArray) (hf : fileOf F n = some (b, t)) (f z : Nat) (h1 : f ≤ z) (h2 : z ≤ t.text.length) (hl : t.text.length ≤ 1000000) (hlt : countOf V n < 1000000) :
    Calls Tryd.prog 19 #[.pointer (some ⟨g, 0, none⟩), .string n, .int .i64 f, .int .i64 z] w fun e w' => Changed B g fm vm dv D F V n (t.text.take f ++ t.text.drop z) w e w' := by
  have hR := h.rope hf
  have HG := get_any w h n (le80 hR.2)
  rw [hf] at HG
  simp only [Option.map_some, Option.getD_some, Option.isSome_some] at HG
  replace HG := Lib.hid HG
  have HI := Lib.hid (delete_any w hR.1 hB hl f z h1 h2)
  have hn := hR.2
  have hh := Lib.hid h
  replace hR := Lib.hid hR
  replace hf := Lib.hid hf
  clear h
  go_enter Tryd.func19, Tryd.ntmps19
  go_wp2_with fail
  refine HG.out.mono ?_
  rintro e w' ⟨rfl, hw'⟩
  replace hw' := hw'.symm
  subst hw'
  go_wp2_with fail
  refine HI.out.mono ?_
  rintro e w2 ⟨⟨b', t', rfl, hr, hg, ht⟩, b2⟩
  have HP := Lib.hid (puts_yes w2 (hh.out.moved b2) (Nat.le_trans hB b2.size) n hn hr hg hlt)
  replace b2 := Lib.hid b2
  replace ht := Lib.hid ht
  clear hr hg
  go_wp2_with fail
  refine HP.out.mono ?_
  rintro e w3 ⟨rfl, h1, h2, h3⟩
  replace h1 := Lib.hid h1
  replace h2 := Lib.hid h2
  replace h3 := Lib.hid h3
  go_wp2
  go_ret
  exact ⟨rfl, b', t', _, ht.out, h1.out, (b2.out.mono hB).trans h2.out, (RopesKept.of_below b2.out).trans h3.out⟩

set_option maxRecDepth 100000 in
theorem fileInsert_bad {B g fm vm b : Nat} {t : RT} {dv : Value} {D : List ByteArray} {F : List (ByteArray × Nat × RT)} {V : List (ByteArray × Nat × Int)} (w : World) (h : FAt w B g fm vm dv D F V) (n : ByteArray) (hf : fileOf F n = some (b, t)) (x : Int) (s : ByteArray) (hl : t.text.length ≤ 1000000) (hx : ¬ (0 ≤ x ∧ x ≤ t.text.length)) :
    Calls Tryd.prog 18 #[.pointer (some ⟨g, 0, none⟩), .string n, .int .i64 x, .string s] w fun e w' => e = .returned (.int .i64 1) ∧ w' = w := by
  have hR := h.rope hf
  have HG := get_any w h n (le80 hR.2)
  rw [hf] at HG
  simp only [Option.map_some, Option.getD_some, Option.isSome_some] at HG
  replace HG := Lib.hid HG
  have HI := Lib.hid (insert_bad w hR.1 hl x s hx)
  have HP := Lib.hid (puts_no (g := g) w n none 1 (by decide))
  clear h hf hR hx
  go_enter Tryd.func18, Tryd.ntmps18
  go_wp2_with fail
  refine HG.out.mono ?_
  rintro e w' ⟨rfl, hw'⟩
  replace hw' := hw'.symm
  subst hw'
  go_wp2_with fail
  refine HI.out.mono ?_
  rintro e w' ⟨rfl, hw'⟩
  replace hw' := hw'.symm
  subst hw'
  go_wp2_with fail
  refine HP.out.mono ?_
  rintro e w' ⟨rfl, hw'⟩
  replace hw' := hw'.symm
  subst hw'
  go_wp2
  go_ret
  exact ⟨rfl, rfl⟩
end Go.Proofs.YtekbilieddficaaDoor
