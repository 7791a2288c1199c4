/- Appends of rows to rows that the call owns, in a region that does not draw. -/
import Derived.Test.YtekbilieddficaaDoorAppN
namespace Go.Proofs.YtekbilieddficaaDoor
open Go.RowKit
set_option linter.unusedVariables false

theorem wpList_appendN {P : Program} {w : World} {ops : Array Oper} {rest : List Oper} {o : Oper} {a : Act} {Q : Exit → Act → World → Prop} {t e : TypeId} {z : Value} {size bytes : Nat} (E : EI P t e z size bytes)
    (hgd : o.guard = none) {s x : Operand} (ho : o.op = .call { callee := .builtin .append, args := #[s, x], argTypes := #[t, t] })
    {B : Nat} {v : Value} {css : List (List Value)} (hown : Own w B e size v css) (hs : a.eval s = v)
    {ao : Option Addr} {n c : Nat} {css2 : List (List Value)} (hx : a.eval x = .slice ao n c) (hn2 : css2.length = n) (hz : ao = none → c = 0) (hrow : Row w size ao css2) (hl : ∀ cs ∈ css2, cs.length = size) (h1 : ∀ cs ∈ css2, ∀ u ∈ cs, u.oneCell' = true)
    (hn : css.length + n ≤ 1000000000) (hbytes : bytes ≤ 1000) (hbase : B ≤ w.heap.size)
    (h : ∀ v' w', Own w' B e size v' (css ++ css2) → w.grownBy w' v.ownBlock → wpList P ops Q rest (a.put o.dst v') w') : wpList P ops Q (o :: rest) a w :=
  wpList_plain hgd fun K hK => by
    have := step_appendN (ops := ops) (Z := True) (Q := Q) E hgd ho hown hs hx hn2 hz hrow hl h1 hn hbytes hbase (K := K) (fun v' w' h2 h3 => hK _ _ (h v' w' h2 h3))
    rw [if_pos (by simp [Region.wanted, hgd])] at this
    exact this

theorem row_grown {w w' : World} {sz b o r : Nat} {css : List (List Value)} (h : Row w sz (some ⟨b, o, none⟩) css) (hb : b < w.heap.size) (hg : w.grownBy w' (some r)) (hne : b ≠ r) : Row w' sz (some ⟨b, o, none⟩) css := by
  intro h0
  obtain ⟨b', o', e, hat⟩ := h h0
  simp only [Option.some.injEq, Addr.mk.injEq, and_true] at e
  obtain ⟨rfl, rfl⟩ := e
  exact ⟨b, o, rfl, fun i cs hi j u hj => (World.cell?_of_block (hg.block b hb (by simpa using hne))).trans (hat i cs hi j u hj)⟩

/-- two literals side by side: an empty one, and one of one element -/
theorem lit_two (w : World) (T sz : Nat) (news : List Value) (hl : news.length = sz) :
    Own ((w.alloc (.cells #[] T)).alloc (.cells news.toArray T)) w.heap.size T sz (.slice (some ⟨w.heap.size, 0, none⟩) 0 0) [] ∧
    Below w.heap.size w ((w.alloc (.cells #[] T)).alloc (.cells news.toArray T)) ∧
    ∀ w4, ((w.alloc (.cells #[] T)).alloc (.cells news.toArray T)).grownBy w4 (some w.heap.size) → Row w4 sz (some ⟨w.heap.size + 1, 0, none⟩) [news] := by
  refine ⟨(own_new0 w _ _).alloc _, ((Below.refl _ w).alloc (Nat.le_refl _) _).alloc (by simp) _, fun w4 hg => ?_⟩
  refine row_grown (row_new (w.alloc (.cells #[] T)) (sz := sz) (css := [news]) (by simp [hl]) T (by simp) (by simp)) (by simp) hg (by omega)

theorem own_ne {w : World} {B e sz g : Nat} {v : Value} {css : List (List Value)} {c : Array Value} {T : TypeId} {fz : Nat × Nat} (h : Own w B e sz v css) (hg : w.heap[g]? = some (.cells c T fz)) (hne : e ≠ T) : v.ownBlock = none ∨ v.ownBlock ≠ some g := by
  by_cases h0 : v.ownBlock = some g
  · obtain ⟨c', fz', hx⟩ := h.size_lt g h0
    rw [hg] at hx
    simp only [Option.some.injEq, Obj.cells.injEq] at hx
    exact absurd hx.2.1.symm hne
  · exact .inr h0

theorem set_grown (w : World) (g j : Nat) (v : Value) : w.grownBy (w.setCell ⟨g, j, none⟩ v) (some g) :=
  ⟨rfl, rfl, rfl, by simp, fun k hk hne => Below.heap_setCell _ _ _ _ (fun e => hne (by rw [e]))⟩

/-- a row is stored into a slot of a table's block -/
theorem tab_set {w w5 : World} {g : Nat} {cs : Array Value} {T : TypeId} (hg : w.heap[g]? = some (.cells cs T (0, 0))) (hb : Below w.heap.size w w5) (j : Nat) (v : Value) :
    (w5.setCell ⟨g, j, none⟩ v).heap[g]? = some (.cells (cs.setIfInBounds j v) T (0, 0)) ∧ w.grownBy (w5.setCell ⟨g, j, none⟩ v) (some g) ∧
    (∀ (B e sz : Nat) (v' : Value) (css : List (List Value)), e ≠ T → Own w B e sz v' css → Own (w5.setCell ⟨g, j, none⟩ v) B e sz v' css) ∧
    (∀ (B e sz : Nat) (v' : Value) (css : List (List Value)), e ≠ T → Own w5 B e sz v' css → Own (w5.setCell ⟨g, j, none⟩ v) B e sz v' css) := by
  have hg5 := (hb.block g (lt_of_block hg)).trans hg
  refine ⟨heap_setCell_same _ _ _ _ _ _ hg5, grown_trans ⟨hb.os, hb.tape, hb.output, hb.size, fun k hk _ => hb.block k hk⟩ (set_grown w5 g j v), fun B e sz v' css hne h => ?_, fun B e sz v' css hne h => ?_⟩
  · exact (h.below hb).kept (set_grown _ _ _ _) (own_ne (h.below hb) hg5 hne)
  · exact h.kept (set_grown _ _ _ _) (own_ne h hg5 hne)

theorem own_new0' {w : World} {n : Nat} (e sz : Nat) (hn : n = w.heap.size) : Own (w.alloc (.cells #[] e)) n e sz (.slice (some ⟨n, 0, none⟩) 0 0) [] := by subst hn; exact own_new0 w e sz
end Go.Proofs.YtekbilieddficaaDoor
