/- Texts of this seat's proofs, laid into one file. -/
import Derived.Test.YtllbbacnakoomaaGreatDoorS10
import Derived.Deep.LoopGhost
set_option maxRecDepth 100000
set_option maxHeartbeats 16000000
namespace Go.Proofs.YtllbbacnakoomaaGreatDoor
open Go.RowKit
set_option linter.unusedVariables false
theorem rowAt_flat {w : World} {sz b o : Nat} {css : List (List Value)} (hl : ∀ cs ∈ css, cs.length = sz) (hat : RowAt w sz b o css) : ∀ j u, css.flatten[j]? = some u → w.cell? ⟨b, o + j, none⟩ = some u := by
 induction css generalizing o with
 | nil => intro j u h; simp at h
 | cons c cs ih =>
   intro j u hj
   have hc := hl c (by simp)
   rw [List.flatten_cons] at hj
   by_cases h : j < sz
   ·rw [List.getElem?_append_left (by omega)] at hj
    have := hat 0 c rfl j u hj
    simpa using this
   ·rw [List.getElem?_append_right (by omega), hc] at hj
    have h2 : RowAt w sz b (o + sz) cs := by
     intro i cs' hi j' u' hj'
     have := hat (i + 1) cs' (by simpa using hi) j' u' hj'
     rw [← this, Nat.add_mul, Nat.one_mul]
     congr 2
     omega
    have := ih (fun x hx => hl x (by simp [hx])) h2 (j - sz) u hj
    rw [show o + sz + (j - sz) = o + j by omega] at this
    exact this
theorem step_appendN {P : Program} {w : World} {ops : Array Oper} {o : Oper} {a : Act} {K : Act → World → Prop} {Q : Exit → Act → World → Prop} {Z : Prop} {t e : TypeId} {z : Value} {size bytes : Nat} (E : EI P t e z size bytes)
 (hgd : o.guard = none) {s x : Operand} (ho : o.op = .call { callee := .builtin .append, args := #[s, x], argTypes := #[t, t] })
 {B : Nat} {v : Value} {css : List (List Value)} (hown : Own w B e size v css) (hs : a.eval s = v)
 {ao : Option Addr} {n c : Nat} {css2 : List (List Value)} (hx : a.eval x = .slice ao n c) (hn2 : css2.length = n) (hz : ao = none → c = 0) (hrow : Row w size ao css2) (hl : ∀ cs ∈ css2, cs.length = size) (h1 : ∀ cs ∈ css2, ∀ u ∈ cs, u.oneCell' = true)
 (hn : css.length + n ≤ 1000000000) (hbytes : bytes ≤ 1000) (hbase : B ≤ w.heap.size)
 (h : ∀ v' w', Own w' B e size v' (css ++ css2) → w.grownBy w' v.ownBlock → K (a.put o.dst v') w') :
 if Region.wanted o (yielded ops a.tmps) = true then Oper.wp P o a w K Q else Z := by
 obtain ⟨i, hi, hz0, hz1, hz2⟩ := info_parts E.info
 have hw : Region.wanted o (yielded ops a.tmps) = true := by simp [Region.wanted, hgd]
 rw [if_pos hw]
 have hb : (css.length + n) * bytes ≤ 140737488355328 := by
  calc (css.length + n) * bytes ≤ 1000000000 * 1000 := Nat.mul_le_mul hn hbytes
   _ ≤ 140737488355328 := by decide
 have hown2 : ∀ {v' w'}, w'.ownsRow B e size v' (css.length + n) (css.flatten ++ css2.flatten) → Own w' B e size v' (css ++ css2) := by
  intro v' w' h2
  refine ⟨by rw [List.length_append, hn2, List.flatten_append]; exact h2, ?_⟩
  intro cs hcs
  rcases List.mem_append.1 hcs with hcs | hcs
  ·exact hown.2 cs hcs
  ·exact hl cs hcs
 cases ao with
 | none =>
   have he : css2 = [] := by
    by_cases h0 : css2 = []
    ·exact h0
    ·obtain ⟨b, o, e, _⟩ := hrow h0
     cases e
   subst he
   obtain rfl := hz rfl
   obtain rfl : n = 0 := hn2.symm
   have hrun := run_append_owned_none (P := P) (w := w) B t o.type e i size E.under hi v _ _ hown.1
   unfold Oper.wp
   simp [execOp, ho, resolve, invoke, builtin, hs, hx, hrun, Result.andThen]
   exact h v w (by simpa using hown) ⟨rfl, rfl, rfl, Nat.le_refl _, fun _ _ _ => rfl⟩
 | some ad =>
   refine wp_append_own w s x t ho B e i z size bytes E.under hi hz0 hz1 hz2 E.zs E.pos v css.length css.flatten hs hown.1 ad n c css2.flatten hx (by rw [flatten_len hl, hn2]) ?_ ?_ (by unfold maxLen; omega) hb hbase ?_
   ·intro j u hj
    by_cases h0 : css2 = []
    ·subst h0; simp at hj
    ·obtain ⟨b, off, e, hat⟩ := hrow h0
     simp only [Option.some.injEq] at e
     subst e
     rw [Addr.add_lit]
     exact rowAt_flat hl hat j u hj
   ·intro u hu
    obtain ⟨cs, hcs, hu⟩ := List.mem_flatten.1 hu
    exact h1 cs hcs u hu
   ·intro v' w' h2 h3 _
    exact h v' w' (hown2 h2) h3
theorem own_new0 (w : World) (e sz : Nat) : Own (w.alloc (.cells #[] e)) w.heap.size e sz (.slice (some ⟨w.heap.size, 0, none⟩) 0 0) [] :=
 ⟨⟨by simp, .inr ⟨w.heap.size, 0, #[], rfl, Nat.le_refl _, heap_alloc_new w _, Nat.le_refl _, Nat.zero_le _, by simp, by simp⟩⟩, by simp⟩
theorem own_new1 (w : World) (o : Obj) (e sz : Nat) : Own ((w.alloc o).alloc (.cells #[] e)) w.heap.size e sz (.slice (some ⟨w.heap.size + 1,0, none⟩) 0 0) [] := by
 have := (own_new0 (w.alloc o) e sz).mono (B' := w.heap.size) (by simp)
 rw [World.size_alloc] at this
 exact this
theorem new_two (w : World) (x y : Array Value) (e e' : TypeId) : ((w.alloc (.cells x e)).alloc (.cells y e')).drew.heap[w.heap.size + 1]? = some (.cells y e' (0,0)) := by
 have := heap_alloc_new (w.alloc (.cells x e)) (.cells y e')
 rw [World.size_alloc] at this
 exact this
theorem new_one (w : World) (x y : Array Value) (e e' : TypeId) : ((w.alloc (.cells x e)).alloc (.cells y e')).drew.heap[w.heap.size]? = some (.cells x e (0,0)) :=
 (Lib.alloc_old _ _ _ (by simp)).trans (heap_alloc_new w _)
end Go.Proofs.YtllbbacnakoomaaGreatDoor
namespace Go.Proofs.YtllbbacnakoomaaGreatDoor
open Go.RowKit
set_option linter.unusedVariables false
theorem wpList_appendN {P : Program} {w : World} {ops : Array Oper} {rest : List Oper} {o : Oper} {a : Act} {Q : Exit → Act → World → Prop} {t e : TypeId} {z : Value} {size bytes : Nat} (E : EI P t e z size bytes)
 (hgd : o.guard = none) {s x : Operand} (ho : o.op = .call { callee := .builtin .append, args := #[s, x], argTypes := #[t, t] })
 {B : Nat} {v : Value} {css : List (List Value)} (hown : Own w B e size v css) (hs : a.eval s = v)
 {ao : Option Addr} {n c : Nat} {css2 : List (List Value)} (hx : a.eval x = .slice ao n c) (hn2 : css2.length = n) (hz : ao = none → c = 0) (hrow : Row w size ao css2) (hl : ∀ cs ∈ css2, cs.length = size) (h1 : ∀ cs ∈ css2, ∀ u ∈ cs, u.oneCell' = true)
 (hn : css.length + n ≤ 1000000000) (hbytes : bytes ≤ 1000) (hbase : B ≤ w.heap.size)
 (h : ∀ v' w', Own w' B e size v' (css ++ css2) → w.grownBy w' v.ownBlock → wpList P ops Q rest (a.put o.dst v') w') : wpList P ops Q (o :: rest) a w :=
 wpList_plain hgd fun K hK => by
  have := step_appendN (ops := ops) (Z := True) (Q := Q) E hgd ho hown hs hx hn2 hz hrow hl h1 hn hbytes hbase (K := K) (fun v' w' h2 h3 => hK _ _ (h v' w' h2 h3))
  rw [if_pos (by simp [Region.wanted, hgd])] at this
  exact this
theorem row_grown {w w' : World} {sz b o r : Nat} {css : List (List Value)} (h : Row w sz (some ⟨b, o, none⟩) css) (hb : b < w.heap.size) (hg : w.grownBy w' (some r)) (hne : b ≠ r) : Row w' sz (some ⟨b, o, none⟩) css := by
 intro h0
 obtain ⟨b', o', e, hat⟩ := h h0
 simp only [Option.some.injEq, Addr.mk.injEq, and_true] at e
 obtain ⟨rfl, rfl⟩ := e
 exact ⟨b, o, rfl, fun i cs hi j u hj => (World.cell?_of_block (hg.block b hb (by simpa using hne))).trans (hat i cs hi j u hj)⟩
theorem lit_two (w : World) (T sz : Nat) (news : List Value) (hl : news.length = sz) :
 Own ((w.alloc (.cells #[] T)).alloc (.cells news.toArray T)) w.heap.size T sz (.slice (some ⟨w.heap.size, 0, none⟩) 0 0) [] ∧
 Below w.heap.size w ((w.alloc (.cells #[] T)).alloc (.cells news.toArray T)) ∧
 ∀ w4, ((w.alloc (.cells #[] T)).alloc (.cells news.toArray T)).grownBy w4 (some w.heap.size) → Row w4 sz (some ⟨w.heap.size + 1,0, none⟩) [news] := by
 refine ⟨(own_new0 w _ _).alloc _, ((Below.refl _ w).alloc (Nat.le_refl _) _).alloc (by simp) _, fun w4 hg => ?_⟩
 refine row_grown (row_new (w.alloc (.cells #[] T)) (sz := sz) (css := [news]) (by simp [hl]) T (by simp) (by simp)) (by simp) hg (by omega)
theorem own_ne {w : World} {B e sz g : Nat} {v : Value} {css : List (List Value)} {c : Array Value} {T : TypeId} {fz : Nat × Nat} (h : Own w B e sz v css) (hg : w.heap[g]? = some (.cells c T fz)) (hne : e ≠ T) : v.ownBlock = none ∨ v.ownBlock ≠ some g := by
 by_cases h0 : v.ownBlock = some g
 ·obtain ⟨c', fz', hx⟩ := h.size_lt g h0
  rw [hg] at hx
  simp only [Option.some.injEq, Obj.cells.injEq] at hx
  exact absurd hx.2.1.symm hne
 ·exact .inr h0
theorem set_grown (w : World) (g j : Nat) (v : Value) : w.grownBy (w.setCell ⟨g, j, none⟩ v) (some g) :=
 ⟨rfl, rfl, rfl, by simp, fun k hk hne => Below.heap_setCell _ _ _ _ (fun e => hne (by rw [e]))⟩
theorem tab_set {w w5 : World} {g : Nat} {cs : Array Value} {T : TypeId} (hg : w.heap[g]? = some (.cells cs T (0,0))) (hb : Below w.heap.size w w5) (j : Nat) (v : Value) :
 (w5.setCell ⟨g, j, none⟩ v).heap[g]? = some (.cells (cs.setIfInBounds j v) T (0,0)) ∧ w.grownBy (w5.setCell ⟨g, j, none⟩ v) (some g) ∧
 (∀ (B e sz : Nat) (v' : Value) (css : List (List Value)), e ≠ T → Own w B e sz v' css → Own (w5.setCell ⟨g, j, none⟩ v) B e sz v' css) ∧
 (∀ (B e sz : Nat) (v' : Value) (css : List (List Value)), e ≠ T → Own w5 B e sz v' css → Own (w5.setCell ⟨g, j, none⟩ v) B e sz v' css) := by
 have hg5 := (hb.block g (lt_of_block hg)).trans hg
 refine ⟨heap_setCell_same _ _ _ _ _ _ hg5, grown_trans ⟨hb.os, hb.tape, hb.output, hb.size, fun k hk _ => hb.block k hk⟩ (set_grown w5 g j v), fun B e sz v' css hne h => ?_, fun B e sz v' css hne h => ?_⟩
 ·exact (h.below hb).kept (set_grown _ _ _ _) (own_ne (h.below hb) hg5 hne)
 ·exact h.kept (set_grown _ _ _ _) (own_ne h hg5 hne)
theorem own_new0' {w : World} {n : Nat} (e sz : Nat) (hn : n = w.heap.size) : Own (w.alloc (.cells #[] e)) n e sz (.slice (some ⟨n, 0, none⟩) 0 0) [] := by subst hn; exact own_new0 w e sz
end Go.Proofs.YtllbbacnakoomaaGreatDoor
