/- Appends of rows to rows that the call owns. -/
import Derived.Test.YtekbilieddficaaDoorRowMore
import Derived.Deep.LoopGhost
namespace Go.Proofs.YtekbilieddficaaDoor
open Go.RowKit
set_option linter.unusedVariables false

theorem rowAt_flat {w : World} {sz b o : Nat} {css : List (List Value)} (hl : ∀ cs ∈ css, cs.length = sz) (hat : RowAt w sz b o css) : ∀ j u, css.flatten[j]? = some u → w.cell? ⟨b, o + j, none⟩ = some u := by
  induction css generalizing o with
  | nil => intro j u h; simp at h
  | cons c cs ih =>
    intro j u hj
    have hc := hl c (by simp)
    rw [List.flatten_cons] at hj
    by_cases h : j < sz
    · rw [List.getElem?_append_left (by omega)] at hj
      have := hat 0 c rfl j u hj
      simpa using this
    · rw [List.getElem?_append_right (by omega), hc] at hj
      have h2 : RowAt w sz b (o + sz) cs := by
        intro i cs' hi j' u' hj'
        have := hat (i + 1) cs' (by simpa using hi) j' u' hj'
        rw [← this, Nat.add_mul, Nat.one_mul]
        congr 2
        omega
      have := ih (fun x hx => hl x (by simp [hx])) h2 (j - sz) u hj
      rw [show o + sz + (j - sz) = o + j by omega] at this
      exact this

/-- the length is given by itself -/
theorem step_appendN {P : Program} {w : World} {ops : Array Oper} {o : Oper} {a : Act} {K : Act → World → Prop} {Q : Exit → Act → World → Prop} {Z : Prop} {t e : TypeId} {z : Value} {size bytes : Nat} (E : EI P t e z size bytes)
    (hgd : o.guard = none) {s x : Operand} (ho : o.op = .call { callee := .builtin .append, args := #[s, x], argTypes := #[t, t] })
    {B : Nat} {v : Value} {css : List (List Value)} (hown : Own w B e size v css) (hs : a.eval s = v)
    {ao : Option Addr} {n c : Nat} {css2 : List (List Value)} (hx : a.eval x = .slice ao n c) (hn2 : css2.length = n) (hz : ao = none → c = 0) (hrow : Row w size ao css2) (hl : ∀ cs ∈ css2, cs.length = size) (h1 : ∀ cs ∈ css2, ∀ u ∈ cs, u.oneCell' = true)
    (hn : css.length + n ≤ 1000000000) (hbytes : bytes ≤ 1000) (hbase : B ≤ w.heap.size)
    (h : ∀ v' w', Own w' B e size v' (css ++ css2) → w.grownBy w' v.ownBlock → K (a.put o.dst v') w') :
    if Region.wanted o (yielded ops a.tmps) = true then Oper.wp P o a w K Q else Z := by
  obtain ⟨i, hi, hz0, hz1, hz2⟩ := info_parts E.info
  have hw : Region.wanted o (yielded ops a.tmps) = true := by simp [Region.wanted, hgd]
  rw [if_pos hw]
  have hb : (css.length + n) * bytes ≤ 140737488355328 := by
    calc (css.length + n) * bytes ≤ 1000000000 * 1000 := Nat.mul_le_mul hn hbytes
      _ ≤ 140737488355328 := by decide
  have hown2 : ∀ {v' w'}, w'.ownsRow B e size v' (css.length + n) (css.flatten ++ css2.flatten) → Own w' B e size v' (css ++ css2) := by
    intro v' w' h2
    refine ⟨by rw [List.length_append, hn2, List.flatten_append]; exact h2, ?_⟩
    intro cs hcs
    rcases List.mem_append.1 hcs with hcs | hcs
    · exact hown.2 cs hcs
    · exact hl cs hcs
  cases ao with
  | none =>
    have he : css2 = [] := by
      by_cases h0 : css2 = []
      · exact h0
      · obtain ⟨b, o, e, _⟩ := hrow h0
        cases e
    subst he
    obtain rfl := hz rfl
    obtain rfl : n = 0 := hn2.symm
    have hrun := run_append_owned_none (P := P) (w := w) B t o.type e i size E.under hi v _ _ hown.1
    unfold Oper.wp
    simp [execOp, ho, resolve, invoke, builtin, hs, hx, hrun, Result.andThen]
    exact h v w (by simpa using hown) ⟨rfl, rfl, rfl, Nat.le_refl _, fun _ _ _ => rfl⟩
  | some ad =>
    refine wp_append_own w s x t ho B e i z size bytes E.under hi hz0 hz1 hz2 E.zs E.pos v css.length css.flatten hs hown.1 ad n c css2.flatten hx (by rw [flatten_len hl, hn2]) ?_ ?_ (by unfold maxLen; omega) hb hbase ?_
    · intro j u hj
      by_cases h0 : css2 = []
      · subst h0; simp at hj
      · obtain ⟨b, off, e, hat⟩ := hrow h0
        simp only [Option.some.injEq] at e
        subst e
        rw [Addr.add_lit]
        exact rowAt_flat hl hat j u hj
    · intro u hu
      obtain ⟨cs, hcs, hu⟩ := List.mem_flatten.1 hu
      exact h1 cs hcs u hu
    · intro v' w' h2 h3 _
      exact h v' w' (hown2 h2) h3

theorem own_new0 (w : World) (e sz : Nat) : Own (w.alloc (.cells #[] e)) w.heap.size e sz (.slice (some ⟨w.heap.size, 0, none⟩) 0 0) [] :=
  ⟨⟨by simp, .inr ⟨w.heap.size, 0, #[], rfl, Nat.le_refl _, heap_alloc_new w _, Nat.le_refl _, Nat.zero_le _, by simp, by simp⟩⟩, by simp⟩

theorem own_new1 (w : World) (o : Obj) (e sz : Nat) : Own ((w.alloc o).alloc (.cells #[] e)) w.heap.size e sz (.slice (some ⟨w.heap.size + 1, 0, none⟩) 0 0) [] := by
  have := (own_new0 (w.alloc o) e sz).mono (B' := w.heap.size) (by simp)
  rw [World.size_alloc] at this
  exact this

theorem new_two (w : World) (x y : Array Value) (e e' : TypeId) : ((w.alloc (.cells x e)).alloc (.cells y e')).drew.heap[w.heap.size + 1]? = some (.cells y e' (0, 0)) := by
  have := heap_alloc_new (w.alloc (.cells x e)) (.cells y e')
  rw [World.size_alloc] at this
  exact this

theorem new_one (w : World) (x y : Array Value) (e e' : TypeId) : ((w.alloc (.cells x e)).alloc (.cells y e')).drew.heap[w.heap.size]? = some (.cells x e (0, 0)) :=
  (Lib.alloc_old _ _ _ (by simp)).trans (heap_alloc_new w _)
end Go.Proofs.YtekbilieddficaaDoor
