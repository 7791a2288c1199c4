/- Texts of this seat's proofs, laid into one file. -/
import Derived.Test.YtfaoamdlknlgpaaGreatSubstHashDoneG7
import Derived.Test.YtfaoamdlknlgpaaGreatShelf
import Derived.Test.YtfaoamdlknlgpaaGreatSubstHashDoneG8
import Derived.Deep.RegionLaw
/- macro's small functions: Is, Paste, Fixed, Hash, Param, Of. -/
namespace Go.Proofs.YtfaoamdlknlgpaaGreat
open Go.RowKit
set_option linter.unusedVariables false

def tmC (t : Tm) (v : Value) : List Value := [.int .i64 t.kind, .string t.text, .bool t.sp, .string t.file, .int .i64 t.f, .int .i64 t.t, .bool t.made, v]

theorem cells8 {w : World} {b : Nat} {a0 a1 a2 a3 a4 a5 a6 a7 : Value} {e : TypeId} {fz : Nat × Nat} (h : w.heap[b]? = some (.cells #[a0, a1, a2, a3, a4, a5, a6, a7] e fz)) :
    w.cell? ⟨b, 0, none⟩ = some a0 ∧ w.cell? ⟨b, 1, none⟩ = some a1 ∧ w.cell? ⟨b, 2, none⟩ = some a2 ∧ w.cell? ⟨b, 3, none⟩ = some a3 ∧ w.cell? ⟨b, 4, none⟩ = some a4 ∧ w.cell? ⟨b, 5, none⟩ = some a5 ∧ w.cell? ⟨b, 6, none⟩ = some a6 ∧ w.cell? ⟨b, 7, none⟩ = some a7 :=
  ⟨by simpa using Lib.cell_of_heap h 0, by simpa using Lib.cell_of_heap h 1, by simpa using Lib.cell_of_heap h 2, by simpa using Lib.cell_of_heap h 3, by simpa using Lib.cell_of_heap h 4, by simpa using Lib.cell_of_heap h 5, by simpa using Lib.cell_of_heap h 6, by simpa using Lib.cell_of_heap h 7⟩

set_option maxRecDepth 100000 in
theorem mIs_any (t : Tm) (v : Value) (s : ByteArray) (w : World) :
    Calls Tryz.prog 77 #[.agg (tmC t v).toArray, .string s] w fun e w' => e = .returned (.bool (isP t s)) ∧ Below w.heap.size w w' := by
  have hkk := t.kind
  unfold isP
  rw [← beq_text2]
  obtain ⟨k, hk⟩ : ∃ k, k = t.kind := ⟨_, rfl⟩
  unfold tmC
  rw [← hk]
  replace hk := Lib.hid hk
  go_enter Tryz.func77, Tryz.ntmps77
  by_cases h5 : k = 5
  · subst h5
    go_wp2
    go_ret
    exact ⟨by simp, (Below.refl _ w).alloc (Nat.le_refl _) _⟩
  · have hb : (k == 5) = false := by simpa using h5
    go_wp2
    go_ret
    exact ⟨by simp [h5], (Below.refl _ w).alloc (Nat.le_refl _) _⟩

set_option maxRecDepth 100000 in
theorem mPaste_any (t : Tm) (v : Value) (w : World) :
    Calls Tryz.prog 99 #[.agg (tmC t v).toArray] w fun e w' => e = .returned (.bool (pasteP t)) ∧ Below w.heap.size w w' := by
  have H1 := fun w => mIs_any t v (bs [35, 35]) w
  have H2 := fun w => mIs_any t v (bs [37, 58, 37, 58]) w
  unfold pasteP
  obtain ⟨x, hx⟩ : ∃ x, x = isP t (bs [35, 35]) := ⟨_, rfl⟩
  obtain ⟨y, hy⟩ : ∃ y, y = isP t (bs [37, 58, 37, 58]) := ⟨_, rfl⟩
  simp only [← hx, ← hy] at H1 H2 ⊢
  clear hx hy
  replace H1 := Lib.hid H1
  replace H2 := Lib.hid H2
  unfold tmC at *
  go_enter Tryz.func99, Tryz.ntmps99
  go_wp2_with fail
  refine (H1.out _).mono ?_
  rintro e w1 ⟨rfl, hb1⟩
  have hA : Below w.heap.size w w1 := ((Below.refl _ w).alloc (Nat.le_refl _) _).trans (hb1.mono (by simp))
  cases x with
  | true =>
    go_wp2
    go_ret
    exact ⟨rfl, hA⟩
  | false =>
    obtain ⟨d0, d1, d2, d3, d4, d5, d6, d7⟩ := cells8 ((hb1.block w.heap.size (by simp)).trans (heap_alloc_new w _))
    go_wp2_with fail
    refine (H2.out _).mono ?_
    rintro e w2 ⟨rfl, hb2⟩
    go_wp2
    go_ret
    exact ⟨by simp, hA.trans (hb2.mono hA.size)⟩


set_option maxRecDepth 100000 in
theorem mHash_any (t : Tm) (v : Value) (w : World) :
    Calls Tryz.prog 100 #[.agg (tmC t v).toArray] w fun e w' => e = .returned (.bool (hashP t)) ∧ Below w.heap.size w w' := by
  unfold hashP
  rw [← beq_text, ← beq_text]
  obtain ⟨k, hk⟩ : ∃ k, k = t.kind := ⟨_, rfl⟩
  unfold tmC
  rw [← hk]
  replace hk := Lib.hid hk
  go_enter Tryz.func100, Tryz.ntmps100
  by_cases h5 : k = 5
  · subst h5
    go_wp2
    all_goals
      go_ret
      exact ⟨by simp [*], (Below.refl _ w).alloc (Nat.le_refl _) _⟩
  · have hb : (k == 5) = false := by simpa using h5
    go_wp2
    go_ret
    exact ⟨by simp [h5], (Below.refl _ w).alloc (Nat.le_refl _) _⟩

set_option maxRecDepth 100000 in
theorem mIndex_any (ps : List ByteArray) (ao : Option Addr) (cap : Nat) (x : ByteArray) (hn : ps.length ≤ 1000000000) (w : World) (hrow : Row w 1 ao (ps.map fun p => [.string p])) :
    Calls Tryz.prog 115 #[.slice ao ps.length cap, .string x] w fun e w' => e = .returned (.int .i64 (Lib.idxOfS ps x)) ∧ w' = w := by
  cases ps with
  | nil => exact Tryz.slices_Index_string_empty ao cap x w
  | cons p r =>
    obtain ⟨b, o, rfl, hat⟩ := hrow (by simp)
    have := Tryz.slices_Index_string b o (p :: r).length cap (p :: r) x w (Nat.le_refl _) (by omega) (fun j hj => by
      have := hat.cell (i := j) (cs := [.string ((p :: r).getD j ByteArray.empty)]) (by rw [List.getElem?_map, List.getElem?_eq_getElem hj]; simp [List.getD_eq_getElem?_getD, List.getElem?_eq_getElem hj]) (j := 0) (u := .string ((p :: r).getD j ByteArray.empty)) rfl
      simpa using this)
    rw [List.take_length] at this
    exact this

def mcC (name : ByteArray) (fn va : Bool) (ps body : Value) (file : ByteArray) (f t : Int) : List Value := [.string name, .bool fn, .bool va, ps, body, .string file, .int .i64 f, .int .i64 t]

set_option maxRecDepth 100000 in
theorem mParam_any (name : ByteArray) (fn va : Bool) (body : Value) (file : ByteArray) (f t : Int) (ps : List ByteArray) (ao : Option Addr) (cap : Nat) (x : ByteArray) (hn : ps.length ≤ 1000000000) (w : World) (hrow : Row w 1 ao (ps.map fun p => [.string p])) :
    Calls Tryz.prog 98 #[.agg (mcC name fn va (.slice ao ps.length cap) body file f t).toArray, .string x] w fun e w' => e = .returned (.int .i64 (Lib.idxOfS ps x)) ∧ Below w.heap.size w w' := by
  have HI := fun o => mIndex_any ps ao cap x hn (w.alloc o) (hrow.below ((Below.refl _ w).alloc (Nat.le_refl _) o))
  obtain ⟨n, hnn⟩ : ∃ n, n = ps.length := ⟨_, rfl⟩
  rw [← hnn] at HI ⊢
  replace HI := Lib.hid HI
  clear hn hrow hnn
  unfold mcC
  go_enter Tryz.func98, Tryz.ntmps98
  go_wp2_with fail
  refine (HI.out _).mono ?_
  rintro e w1 ⟨rfl, rfl⟩
  go_wp2
  go_ret
  exact ⟨rfl, (Below.refl _ w).alloc (Nat.le_refl _) _⟩
end Go.Proofs.YtfaoamdlknlgpaaGreat

/- macro's Of, Parse's failure, and its parameters. -/
namespace Go.Proofs.YtfaoamdlknlgpaaGreat
open Go.RowKit
set_option linter.unusedVariables false

set_option maxRecDepth 100000 in
theorem mOf_any (t : Tm) (v : Value) (b : Nat) (name : ByteArray) (fn va : Bool) (body : Value) (file : ByteArray) (f tt : Int) (ps : List ByteArray) (ao : Option Addr) (cap : Nat) (fz : Nat × Nat) (hn : ps.length ≤ 1000000000) (w : World) (hrow : Row w 1 ao (ps.map fun p => [.string p]))
    (hb : w.heap[b]? = some (.cells (mcC name fn va (.slice ao ps.length cap) body file f tt).toArray 53 fz)) :
    Calls Tryz.prog 80 #[.pointer (some ⟨b, 0, none⟩), .agg (tmC t v).toArray] w fun e w' => e = .returned (.int .i64 (ofP fn ps t)) ∧ Below w.heap.size w w' := by
  have HI := fun x w' (h : Below w.heap.size w w') => mParam_any name fn va body file f tt ps ao cap x hn w' (hrow.below h)
  obtain ⟨d0, d1, d2, d3, d4, d5, d6, d7⟩ := cells8 hb
  unfold ofP
  obtain ⟨n, hnn⟩ : ∃ n, n = ps.length := ⟨_, rfl⟩
  rw [← hnn] at HI d3
  unfold mcC at HI
  replace HI := Lib.hid HI
  have ho : ∀ o, Below w.heap.size w (w.alloc o) := fun o => (Below.refl _ w).alloc (Nat.le_refl _) o
  have e0 := fun o => kept_cell (ho o) d0
  have e1 := fun o => kept_cell (ho o) d1
  have e2 := fun o => kept_cell (ho o) d2
  have e3 := fun o => kept_cell (ho o) d3
  have e4 := fun o => kept_cell (ho o) d4
  have e5 := fun o => kept_cell (ho o) d5
  have e6 := fun o => kept_cell (ho o) d6
  have e7 := fun o => kept_cell (ho o) d7
  clear hn hrow hnn hb
  obtain ⟨k, hk⟩ : ∃ k, k = t.kind := ⟨_, rfl⟩
  unfold tmC
  rw [← hk]
  replace hk := Lib.hid hk
  go_enter Tryz.func80, Tryz.ntmps80
  cases fn with
  | false =>
    go_wp2
    go_ret
    exact ⟨by simp, ho _⟩
  | true =>
    by_cases h1 : k = 1
    · subst h1
      go_wp2_with fail
      go_region_law (go_simp; go_at_call 98; refine (HI.out _ _ ((ho _).drew)).mono ?_; rintro e w1 ⟨rfl, hb1⟩)
      all_goals
        go_wp2
        go_ret
        exact ⟨by simp, (ho _).drew.trans (hb1.mono (by simp))⟩
    · have hb : (k == 1) = false := by simpa using h1
      go_wp2
      go_ret
      exact ⟨by simp, ho _⟩

def dgV (code : Int) (file : ByteArray) (f t : Int) : List Value := [.int .i64 code, .string file, .int .i64 f, .int .i64 t]

end Go.Proofs.YtfaoamdlknlgpaaGreat
