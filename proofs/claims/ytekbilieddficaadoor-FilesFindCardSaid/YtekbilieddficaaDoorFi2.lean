/- Files: a table in memory; New. -/
import Derived.Test.YtekbilieddficaaDoorFi1
import Derived.Test.YtekbilieddficaaDoorRp7
import Derived.Test.YtekbilieddficaaDoorMaps
import Derived.Test.YtekbilieddficaaDoorShelf
namespace Go.Proofs.YtekbilieddficaaDoor
open Go.RowKit
set_option linter.unusedVariables false

def strsB (D : List ByteArray) : List (List Value) := D.map fun p => [.string p]

def ptrF (p : ByteArray × Nat × RT) : ByteArray × Value := (p.1, .pointer (some ⟨p.2.1, 0, none⟩))
def ptrV (p : ByteArray × Nat × Int) : ByteArray × Value := (p.1, .pointer (some ⟨p.2.1, 0, none⟩))

/-- a map in memory -/
def MapOk (w : World) (b : Nat) (L : List (ByteArray × Value)) : Prop := ∃ es clock, w.heap[b]? = some (.map es clock) ∧ MapIs es L ∧ MapKept.Stamped es clock

/-- A table of files: its directories, its files (each a rope), how often each was changed. -/
structure FAt (w : World) (B g fm vm : Nat) (dv : Value) (D : List ByteArray) (F : List (ByteArray × Nat × RT)) (V : List (ByteArray × Nat × Int)) : Prop where
  tab : w.heap[g]? = some (.cells #[dv, .map (some fm), .map (some vm)] 62 (0, 0))
  dirs : ∃ ao c, dv = .slice ao D.length c ∧ D.length ≤ c ∧ Row w 1 ao (strsB D) ∧ (ao = none → D = [] ∧ c = 0)
  files : MapOk w fm (F.map ptrF)
  fnd : (F.map (·.1)).Nodup
  fsz : ∀ p ∈ F, p.1.size ≤ 80
  ropes : ∀ p ∈ F, RAt w B p.2.2 p.2.1 ∧ p.2.2.Good
  vers : MapOk w vm (V.map ptrV)
  vnd : (V.map (·.1)).Nodup
  vsz : ∀ p ∈ V, p.1.size ≤ 80
  cnts : ∀ p ∈ V, w.heap[p.2.1]? = some (.cells #[.int .i64 p.2.2] 128 (0, 0)) ∧ 0 ≤ p.2.2 ∧ p.2.2 ≤ 1000000
  vblk : (V.map (·.2.1)).Nodup
  ne : fm ≠ vm
  low : B ≤ g ∧ B ≤ fm ∧ B ≤ vm ∧ ∀ p ∈ V, B ≤ p.2.1

theorem clone_strs (D : List ByteArray) (ao : Option Addr) (cap : Nat) (hx : D.length ≤ 1000000) (h0 : ao = none → D = [] ∧ cap = 0) (w : World) (hr : Row w 1 ao (strsB D)) :
    Calls Tryd.prog 28 #[.slice ao D.length cap] w fun e w' => ∃ v', e = .returned v' ∧ Own w' w.heap.size 9 1 v' (strsB D) ∧ Below w.heap.size w w' := by
  have hfl : ∀ zs : List ByteArray, (strsB zs).flatten = zs.map Value.string := by intro zs; unfold strsB; induction zs with | nil => rfl | cons z zs ih => simp [ih]
  have hone : ∀ zs : List ByteArray, ∀ c ∈ strsB zs, c.length = 1 := by intro zs c hc; unfold strsB at hc; obtain ⟨p, _, rfl⟩ := List.mem_map.1 hc; rfl
  cases ao with
  | none =>
    obtain ⟨rfl, rfl⟩ := h0 rfl
    refine (Tryd.slices_Clone_string_nil 0 0 w).mono ?_
    rintro e w' ⟨rfl, rfl⟩
    exact ⟨_, rfl, Own.nil _ _ _ _, Below.refl _ _⟩
  | some a =>
    cases D with
    | nil =>
      refine (Tryd.slices_Clone_string_zero a cap w).mono ?_
      rintro e w' ⟨v', rfl, h1, _, h2⟩
      exact ⟨v', rfl, ⟨by simpa [strsB] using h1, by simp [strsB]⟩, h2⟩
    | cons x xs =>
      obtain ⟨b, o, e, hat⟩ := hr (by simp [strsB])
      injection e with e
      subst e
      refine (Tryd.slices_Clone_string b o (x :: xs).length cap (x :: xs) w (Nat.le_refl _) (by omega) (fun j hj => by
        have := hat.cell (i := j) (cs := [.string ((x :: xs).getD j ByteArray.empty)]) (by unfold strsB; rw [List.getElem?_map, List.getElem?_eq_getElem hj]; simp [List.getD_eq_getElem?_getD, List.getElem?_eq_getElem hj]) (j := 0) (u := .string ((x :: xs).getD j ByteArray.empty)) rfl
        simpa using this)).mono ?_
      rintro e w' ⟨v', rfl, h1, _, h2⟩
      rw [List.take_length] at h1
      refine ⟨v', rfl, ⟨?_, hone _⟩, h2⟩
      rw [hfl]
      rw [show (strsB (x :: xs)).length = (x :: xs).length by simp [strsB]]
      exact h1

theorem new_no {D : List ByteArray} (hD : ∀ d ∈ D, d.size ≤ 100000) (ao : Option Addr) (c : Nat) (hc : D.length ≤ c) (hl : D.length ≤ 1000000) (w : World) (hrow : Row w 1 ao (strsB D)) (hm : mayD D = false) :
    Calls Tryd.prog 10 #[.slice ao D.length c] w fun e w' => e = .returned (.tuple #[.pointer none, .int .i64 1]) ∧ Below w.heap.size w w' := by
  have HC := Lib.hid (contains_any D hD ao c hc hl w hrow)
  obtain ⟨n, hn⟩ : ∃ n, n = D.length := ⟨_, rfl⟩
  rw [← hn] at HC hc hl ⊢
  have hmm : n ≤ 10 → D.any badB = true := fun h => by
    unfold mayD at hm
    rw [decide_eq_true (by omega), Bool.true_and] at hm
    simpa using hm
  clear hn hm hrow hD
  by_cases h10 : n ≤ 10
  · have h10' : ¬ (10 : Int) < (n : Int) := by omega
    rw [hmm h10] at HC
    clear hmm
    go_enter Tryd.func10, Tryd.ntmps10
    go_wp2_with fail
    refine HC.out.mono ?_
    rintro e w' ⟨rfl, hb⟩
    replace hb := Lib.hid hb
    go_wp2
    go_ret2
    exact ⟨rfl, hb.out⟩
  · have h10' : (10 : Int) < (n : Int) := by omega
    clear hmm
    go_enter Tryd.func10, Tryd.ntmps10
    go_wp2
    go_ret2
    exact ⟨rfl, Below.refl _ _⟩

/-- a new table in memory -/
theorem fat_new {w1 w2 : World} {B : Nat} {dv : Value} {D : List ByteArray} (hB : B ≤ w1.heap.size) (hd : Own w1 B 9 1 dv (strsB D))
    (h2 : w2 = ((w1.alloc (.map #[] 0)).alloc (.map #[] 0)).alloc (.cells #[dv, .map (some w1.heap.size), .map (some (w1.heap.size + 1))] 62)) : FAt w2 B (w1.heap.size + 2) w1.heap.size (w1.heap.size + 1) dv D [] [] := by
  have hb : Below w1.heap.size w1 w2 := by
    rw [h2]
    exact (((Below.refl _ w1).alloc (Nat.le_refl _) _).alloc (by simp) _).alloc (by simp; omega) _
  have e3 : w2.heap[w1.heap.size + 2]? = some (.cells #[dv, .map (some w1.heap.size), .map (some (w1.heap.size + 1))] 62 (0, 0)) := by
    have := heap_alloc_new ((w1.alloc (.map #[] 0)).alloc (.map #[] 0)) (.cells #[dv, .map (some w1.heap.size), .map (some (w1.heap.size + 1))] 62)
    rw [show ((w1.alloc (.map #[] 0)).alloc (.map #[] 0)).heap.size = w1.heap.size + 2 by simp] at this
    rw [h2]
    exact this
  have e2 : w2.heap[w1.heap.size + 1]? = some (.map #[] 0) := by
    have := heap_alloc_new (w1.alloc (.map #[] 0)) (.map #[] 0)
    rw [show (w1.alloc (.map #[] 0)).heap.size = w1.heap.size + 1 by simp] at this
    rw [h2, Lib.alloc_old _ _ _ (by simp)]
    exact this
  have e1 : w2.heap[w1.heap.size]? = some (.map #[] 0) := by
    rw [h2, Lib.alloc_old _ _ _ (by simp; omega), Lib.alloc_old _ _ _ (by simp)]
    exact heap_alloc_new w1 _
  obtain ⟨ao, c, rfl, hc, _, hr, hz⟩ := hd.rown (n := D.length) (by simp [strsB])
  refine ⟨e3, ⟨ao, c, rfl, hc, hr.below hb, fun e => ⟨by have := (hz e).1; simpa [strsB] using this, (hz e).2⟩⟩, ⟨#[], 0, e1, rfl, MapKept.stamped_empty 0⟩, by simp, by simp, by simp, ⟨#[], 0, e2, rfl, MapKept.stamped_empty 0⟩, by simp, by simp, by simp, by simp, by omega, by omega, by omega, by omega, by simp⟩

theorem new_yes {D : List ByteArray} (hD : ∀ d ∈ D, d.size ≤ 100000) (ao : Option Addr) (c : Nat) (hc : D.length ≤ c) (h0 : ao = none → D = [] ∧ c = 0) (w : World) (hrow : Row w 1 ao (strsB D)) (hm : mayD D = true) :
    Calls Tryd.prog 10 #[.slice ao D.length c] w fun e w' => ∃ g fm vm dv, e = .returned (.tuple #[.pointer (some ⟨g, 0, none⟩), .int .i64 0]) ∧ FAt w' w.heap.size g fm vm dv D [] [] ∧ Below w.heap.size w w' := by
  obtain ⟨h10, hok⟩ := mayD_get hm
  have HC := contains_any D hD ao c hc (by omega) w hrow
  rw [show D.any badB = false from List.any_eq_false.2 (fun d hd => by rw [badB_false (hok d hd)]; decide)] at HC
  replace HC := Lib.hid HC
  have HK := Lib.hid (fun (W : World) (hW : Below w.heap.size w W) => clone_strs D ao c (by omega) h0 W (hrow.below hW))
  have mk1 := run_makeMap (P := Tryd.prog) 59
  have mk2 := run_makeMap (P := Tryd.prog) 60
  have h10' : ¬ (10 : Int) < (D.length : Int) := by omega
  clear hok hm hrow hD h0
  go_enter Tryd.func10, Tryd.ntmps10
  go_wp2_with fail
  refine HC.out.mono ?_
  rintro e w1 ⟨rfl, b1⟩
  have HK1 := Lib.hid (HK.out w1 b1)
  replace b1 := Lib.hid b1
  go_wp2_with fail
  refine HK1.out.mono ?_
  rintro e w2 ⟨dv, rfl, ho, b2⟩
  obtain ⟨bo, bc, rfl, _, _, _, _⟩ := ho.rown (n := D.length) (by simp [strsB])
  replace ho := Lib.hid ho
  replace b2 := Lib.hid b2
  go_wp2
  go_ret2
  have hb12 := b1.out.trans (b2.out.mono b1.out.size)
  refine ⟨_, _, _, _, rfl, fat_new (B := w.heap.size) hb12.size (ho.out.mono b1.out.size) rfl, ?_⟩
  exact ((hb12.alloc hb12.size _).alloc (by have := hb12.size; simp; omega) _).alloc (by have := hb12.size; simp; omega) _
end Go.Proofs.YtekbilieddficaaDoor
