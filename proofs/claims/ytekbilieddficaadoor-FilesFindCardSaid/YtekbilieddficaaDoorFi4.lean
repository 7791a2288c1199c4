/- Files: how often a path was changed. -/
import Derived.Test.YtekbilieddficaaDoorFi3
namespace Go.Proofs.YtekbilieddficaaDoor
open Go.RowKit
set_option linter.unusedVariables false

theorem RAt.typed {w w' : World} {B : Nat} : ∀ {t : RT} {g : Nat}, RAt w B t g → (∀ (b : Nat) (c : Array Value) (fz : Nat × Nat), w.heap[b]? = some (.cells c 122 fz) → w'.heap[b]? = some (.cells c 122 fz)) → RAt w' B t g := by
  intro t
  induction t with
  | leaf s =>
    intro g h hk
    obtain ⟨h1, d, l, hm, h2⟩ := h
    exact ⟨h1, d, l, hm, hk _ _ _ h2⟩
  | node a b iha ihb =>
    intro g h hk
    obtain ⟨h1, ga, gb, d, l, ha, hb, hm, h2, h3, h4⟩ := h
    exact ⟨h1, ga, gb, d, l, ha, hb, hm, hk _ _ _ h2, iha h3 hk, ihb h4 hk⟩

theorem FAt.moved {w w' : World} {B g fm vm : Nat} {dv : Value} {D : List ByteArray} {F : List (ByteArray × Nat × RT)} {V : List (ByteArray × Nat × Int)} (h : FAt w B g fm vm dv D F V) (hb : Below w.heap.size w w') : FAt w' B g fm vm dv D F V := by
  obtain ⟨ao, c, d1, d2, d3, d4⟩ := h.dirs
  have key : ∀ {b : Nat} {o : Obj}, w.heap[b]? = some o → w'.heap[b]? = some o := fun {b o} e => (hb.block b (lt_of_block e)).trans e
  obtain ⟨es, clock, f1, f2⟩ := h.files
  obtain ⟨es', clock', v1, v2⟩ := h.vers
  exact ⟨key h.tab, ⟨ao, c, d1, d2, d3.below hb, d4⟩, ⟨es, clock, key f1, f2⟩, h.fnd, h.fsz, fun p hp => ⟨(h.ropes p hp).1.below hb, (h.ropes p hp).2⟩, ⟨es', clock', key v1, v2⟩, h.vnd, h.vsz, fun p hp => ⟨key (h.cnts p hp).1, (h.cnts p hp).2⟩, h.vblk, h.ne, h.low⟩

/-- a row of texts, where all but a map, and a number's block, is as it was -/
theorem row_kept {w w' : World} {cb vm : Nat} {ao : Option Addr} {D : List ByteArray} {x : Int} {es : Array MapEntry} {clock : Nat} (h : Row w 1 ao (strsB D)) (hcb : w.heap[cb]? = none ∨ w.heap[cb]? = some (.cells #[.int .i64 x] 128 (0, 0))) (hvm : w.heap[vm]? = some (.map es clock))
    (hk : ∀ (b : Nat) (o : Obj), b ≠ cb → b ≠ vm → w.heap[b]? = some o → w'.heap[b]? = some o) : Row w' 1 ao (strsB D) := by
  intro hne
  obtain ⟨rb, o, e, hat⟩ := h hne
  refine ⟨rb, o, e, fun i cs hi j u hj => ?_⟩
  have hc := hat i cs hi j u hj
  have hu : ∃ s, u = .string s := by
    unfold strsB at hi
    rw [List.getElem?_map] at hi
    cases hx : D[i]? with
    | none => rw [hx] at hi; cases hi
    | some y =>
      rw [hx] at hi
      simp only [Option.map_some, Option.some.injEq] at hi
      subst hi
      cases j with
      | zero => simp only [List.getElem?_cons_zero, Option.some.injEq] at hj; exact ⟨_, hj.symm⟩
      | succ j => simp at hj
  obtain ⟨s, rfl⟩ := hu
  have hlt := cell_lt hc
  have n1 : rb ≠ cb := by
    rintro rfl
    rcases hcb with hcb | hcb
    · rw [Array.getElem?_eq_none_iff] at hcb; simp only at hlt; omega
    · rw [Lib.cell_of_heap hcb] at hc
      generalize o + i * 1 + j = q at hc
      match q, hc with
      | 0, hc => simp at hc
      | q + 1, hc => simp at hc
  have n2 : rb ≠ vm := by
    rintro rfl
    simp only [World.cell?, hvm] at hc
    cases hc
  have hob : w'.heap[rb]? = w.heap[rb]? := by rw [hk rb _ n1 n2 (Array.getElem?_eq_getElem hlt), Array.getElem?_eq_getElem hlt]
  rw [← hc]
  simp only [World.cell?, hob]

/-- one number more, or turned -/
theorem FAt.bump {w w' : World} {B g fm vm cb : Nat} {dv : Value} {D : List ByteArray} {F : List (ByteArray × Nat × RT)} {V V' : List (ByteArray × Nat × Int)} {x : Int} (h : FAt w B g fm vm dv D F V) (hcb : w.heap[cb]? = none ∨ w.heap[cb]? = some (.cells #[.int .i64 x] 128 (0, 0)))
    (hk : ∀ (b : Nat) (o : Obj), b ≠ cb → b ≠ vm → w.heap[b]? = some o → w'.heap[b]? = some o) (hv : MapOk w' vm (V'.map ptrV)) (h1 : (V'.map (·.1)).Nodup) (h2 : ∀ p ∈ V', p.1.size ≤ 80)
    (h3 : ∀ p ∈ V', w'.heap[p.2.1]? = some (.cells #[.int .i64 p.2.2] 128 (0, 0)) ∧ 0 ≤ p.2.2 ∧ p.2.2 ≤ 1000000) (h4 : (V'.map (·.2.1)).Nodup) (h5 : ∀ p ∈ V', B ≤ p.2.1) : FAt w' B g fm vm dv D F V' := by
  obtain ⟨ao, c, d1, d2, d3, d4⟩ := h.dirs
  obtain ⟨es, clock, f1, f2⟩ := h.files
  obtain ⟨es', clock', v1, v2⟩ := h.vers
  have kc : ∀ {b : Nat} {c : Array Value} {e : TypeId} {fz : Nat × Nat}, w.heap[b]? = some (.cells c e fz) → e ≠ 128 → w'.heap[b]? = some (.cells c e fz) := fun {b c e fz} e0 hne => by
    refine hk b _ ?_ ?_ e0
    · rintro rfl
      rcases hcb with hcb | hcb
      · rw [hcb] at e0; cases e0
      · rw [hcb] at e0
        simp only [Option.some.injEq, Obj.cells.injEq] at e0
        exact hne e0.2.1.symm
    · rintro rfl
      rw [v1] at e0
      cases e0
  refine ⟨kc h.tab (by decide), ⟨ao, c, d1, d2, row_kept d3 hcb v1 hk, d4⟩, ⟨es, clock, hk fm _ ?_ h.ne f1, f2⟩, h.fnd, h.fsz, fun p hp => ⟨(h.ropes p hp).1.typed fun b c fz e0 => kc e0 (by decide), (h.ropes p hp).2⟩, hv, h1, h2, h3, h4, h.ne, h.low.1, h.low.2.1, h.low.2.2.1, h5⟩
  rintro rfl
  rcases hcb with hcb | hcb
  · rw [hcb] at f1; cases f1
  · rw [hcb] at f1; cases f1

def bumpV (V : List (ByteArray × Nat × Int)) (n : ByteArray) (nb : Nat) : List (ByteArray × Nat × Int) :=
  match timesOf V n with
  | some _ => V.map fun p => if p.1 = n then (p.1, p.2.1, p.2.2 + 1) else p
  | none => V ++ [(n, nb, 1)]

theorem timesOf_mem {V : List (ByteArray × Nat × Int)} {n : ByteArray} {q : Nat × Int} (h : timesOf V n = some q) : (n, q) ∈ V := by
  unfold timesOf at h
  cases hf : V.find? fun p => decide (p.1 = n) with
  | none => rw [hf] at h; cases h
  | some p =>
    rw [hf] at h
    simp only [Option.map_some, Option.some.injEq] at h
    have h1 : p.1 = n := by simpa using List.find?_some hf
    rw [← h, ← h1]
    exact List.mem_of_find?_eq_some hf
theorem timesOf_none {V : List (ByteArray × Nat × Int)} {n : ByteArray} (h : timesOf V n = none) : ∀ p ∈ V, p.1 ≠ n := by
  unfold timesOf at h
  rw [Option.map_eq_none_iff] at h
  intro p hp
  simpa using List.find?_eq_none.1 h p hp

def countOf (V : List (ByteArray × Nat × Int)) (n : ByteArray) : Int := ((timesOf V n).map (·.2)).getD 0

set_option maxRecDepth 100000 in
theorem version_any {B g fm vm : Nat} {dv : Value} {D : List ByteArray} {F : List (ByteArray × Nat × RT)} {V : List (ByteArray × Nat × Int)} (w : World) (h : FAt w B g fm vm dv D F V) (n : ByteArray) (hn : n.size ≤ maxLen) :
    Calls Tryd.prog 21 #[.pointer (some ⟨g, 0, none⟩), .string n] w fun e w' => e = .returned (.int .i64 (countOf V n)) ∧ w' = w := by
  have c1 := Lib.cell_of_heap h.tab 2
  have hl := h.times hn
  unfold countOf
  cases ht : timesOf V n with
  | none =>
    rw [ht] at hl
    simp only [Option.map_none, Option.getD_none] at hl ⊢
    replace h := Lib.hid h
    go_enter Tryd.func21, Tryd.ntmps21
    go_wp2
    go_ret
    exact ⟨rfl, rfl⟩
  | some q =>
    obtain ⟨b, x⟩ := q
    obtain ⟨hb, x0, x1⟩ := h.cnts _ (timesOf_mem ht)
    rw [ht] at hl
    simp only [Option.map_some, Option.getD_some] at hl ⊢
    have HL := Lib.hid (load64 w (Lib.cell_of_heap hb 0))
    replace h := Lib.hid h
    replace hb := Lib.hid hb
    replace ht := Lib.hid ht
    have g1 : IntKind.i64.wrap x = x := IntWalk.i64_in _ (by simp only at x0 x1; omega)
    go_enter Tryd.func21, Tryd.ntmps21
    go_wp2_with fail
    refine HL.out.mono ?_
    rintro e w' ⟨rfl, hw'⟩
    replace hw' := hw'.symm
    subst hw'
    go_wp2
    go_ret
    exact ⟨rfl, rfl⟩
end Go.Proofs.YtekbilieddficaaDoor
