/- Texts of this seat's proofs, laid into one file. -/
import Derived.Test.YtfaoamdlknlgpaaGreatSubstHashDoneG12
import Derived.Maps.AppendAt
/- Appends of rows that tell where the new row lies; a row without its last element. -/
namespace Go.Proofs.YtfaoamdlknlgpaaGreat
open Go.RowKit
set_option linter.unusedVariables false

theorem step_appendA {P : Program} {w : World} {ops : Array Oper} {o : Oper} {a : Act} {K : Act → World → Prop} {Q : Exit → Act → World → Prop} {Z : Prop} {t e : TypeId} {z : Value} {size bytes : Nat} (E : EI P t e z size bytes)
    (hgd : o.guard = none) {s x : Operand} (ho : o.op = .call { callee := .builtin .append, args := #[s, x], argTypes := #[t, t] })
    {B : Nat} {v : Value} {css : List (List Value)} (hown : Own w B e size v css) (hs : a.eval s = v)
    {ao : Option Addr} {n c : Nat} {css2 : List (List Value)} (hx : a.eval x = .slice ao n c) (hn2 : css2.length = n) (hz : ao = none → c = 0) (hrow : Row w size ao css2) (hl : ∀ cs ∈ css2, cs.length = size) (h1 : ∀ cs ∈ css2, ∀ u ∈ cs, u.oneCell' = true)
    (hn : css.length + n ≤ 1000000000) (hbytes : bytes ≤ 1000) (hbase : B ≤ w.heap.size)
    (h : ∀ v' w', Own w' B e size v' (css ++ css2) → w.grownBy w' v.ownBlock → (v'.ownBlock = v.ownBlock ∨ v'.ownBlock = some w.heap.size) → K (a.put o.dst v') w') :
    if Region.wanted o (yielded ops a.tmps) = true then Oper.wp P o a w K Q else Z := by
  obtain ⟨i, hi, hz0, hz1, hz2⟩ := info_parts E.info
  have hw : Region.wanted o (yielded ops a.tmps) = true := by simp [Region.wanted, hgd]
  rw [if_pos hw]
  have hb : (css.length + n) * bytes ≤ 140737488355328 := by
    calc (css.length + n) * bytes ≤ 1000000000 * 1000 := Nat.mul_le_mul hn hbytes
      _ ≤ 140737488355328 := by decide
  have hown2 : ∀ {v' w'}, w'.ownsRow B e size v' (css.length + n) (css.flatten ++ css2.flatten) → Own w' B e size v' (css ++ css2) := by
    intro v' w' h2
    refine ⟨by rw [List.length_append, hn2, List.flatten_append]; exact h2, ?_⟩
    intro cs hcs
    rcases List.mem_append.1 hcs with hcs | hcs
    · exact hown.2 cs hcs
    · exact hl cs hcs
  cases ao with
  | none =>
    have he : css2 = [] := by
      by_cases h0 : css2 = []
      · exact h0
      · obtain ⟨b, o, e, _⟩ := hrow h0
        cases e
    subst he
    obtain rfl := hz rfl
    obtain rfl : n = 0 := hn2.symm
    have hrun := run_append_owned_none (P := P) (w := w) B t o.type e i size E.under hi v _ _ hown.1
    unfold Oper.wp
    simp [execOp, ho, resolve, invoke, builtin, hs, hx, hrun, Result.andThen]
    exact h v w (by simpa using hown) ⟨rfl, rfl, rfl, Nat.le_refl _, fun _ _ _ => rfl⟩ (.inl rfl)
  | some ad =>
    obtain ⟨v', w', hr, h2, h3, _, h5⟩ := run_append_own_at (P := P) w B t o.type e i z size bytes E.under hi hz0 hz1 hz2 E.zs E.pos v css.length css.flatten hown.1 ad n c css2.flatten (by rw [flatten_len hl, hn2]) (by
      intro j u hj
      by_cases h0 : css2 = []
      · subst h0; simp at hj
      · obtain ⟨b, off, e, hat⟩ := hrow h0
        simp only [Option.some.injEq] at e
        subst e
        rw [Addr.add_lit]
        exact rowAt_flat hl hat j u hj) (by
      intro u hu
      obtain ⟨cs, hcs, hu⟩ := List.mem_flatten.1 hu
      exact h1 cs hcs u hu) (by unfold maxLen; omega) hb hbase
    unfold Oper.wp execOp
    simp only [ho, resolve, invoke, builtin, Sem.run_bind, Sem.run_pure, Result.andThen_ok, List.map_toArray, List.map_cons, List.map_nil, hs, hx, hr]
    exact h v' w' (hown2 h2) h3 h5

theorem wpList_appendA {P : Program} {w : World} {ops : Array Oper} {rest : List Oper} {o : Oper} {a : Act} {Q : Exit → Act → World → Prop} {t e : TypeId} {z : Value} {size bytes : Nat} (E : EI P t e z size bytes)
    (hgd : o.guard = none) {s x : Operand} (ho : o.op = .call { callee := .builtin .append, args := #[s, x], argTypes := #[t, t] })
    {B : Nat} {v : Value} {css : List (List Value)} (hown : Own w B e size v css) (hs : a.eval s = v)
    {ao : Option Addr} {n c : Nat} {css2 : List (List Value)} (hx : a.eval x = .slice ao n c) (hn2 : css2.length = n) (hz : ao = none → c = 0) (hrow : Row w size ao css2) (hl : ∀ cs ∈ css2, cs.length = size) (h1 : ∀ cs ∈ css2, ∀ u ∈ cs, u.oneCell' = true)
    (hn : css.length + n ≤ 1000000000) (hbytes : bytes ≤ 1000) (hbase : B ≤ w.heap.size)
    (h : ∀ v' w', Own w' B e size v' (css ++ css2) → w.grownBy w' v.ownBlock → (v'.ownBlock = v.ownBlock ∨ v'.ownBlock = some w.heap.size) → wpList P ops Q rest (a.put o.dst v') w') : wpList P ops Q (o :: rest) a w :=
  wpList_plain hgd fun K hK => by
    have := step_appendA (ops := ops) (Z := True) (Q := Q) E hgd ho hown hs hx hn2 hz hrow hl h1 hn hbytes hbase (K := K) (fun v' w' h2 h3 h4 => hK _ _ (h v' w' h2 h3 h4))
    rw [if_pos (by simp [Region.wanted, hgd])] at this
    exact this

/-- a row without its last element -/
theorem Own.init {w : World} {B e sz n cap : Nat} {ao : Option Addr} {css : List (List Value)} {c : List Value} (h : Own w B e sz (.slice ao (n + 1) cap) (css ++ [c])) : Own w B e sz (.slice ao n cap) css := by
  have hs : ∀ x ∈ css, x.length = sz := fun x hx => h.2 x (by simp [hx])
  have hf : css.flatten.length = css.length * sz := flatten_len hs
  refine ⟨⟨hf, ?_⟩, hs⟩
  rcases h.1.2 with ⟨hv, _⟩ | ⟨g, cap', cur, hv, hb, hg, hn, hm, hc, ht⟩
  · simp at hv
  · simp only [Value.slice.injEq, List.length_append, List.length_cons, List.length_nil, Nat.zero_add] at hv hn
    obtain ⟨h1, h2, h3⟩ := hv
    refine .inr ⟨g, cap', cur, by rw [h1, h3]; simp; omega, hb, hg, by omega, hm, hc, ?_⟩
    have := congrArg (List.take css.flatten.length) ht
    rw [List.take_take, Nat.min_eq_left (by rw [hf]; exact Nat.mul_le_mul_right _ (by simp)), List.flatten_append, List.take_left' rfl, hf] at this
    exact this

theorem cells5 {w : World} {b : Nat} {a0 a1 a2 a3 a4 : Value} {e : TypeId} {fz : Nat × Nat} (h : w.heap[b]? = some (.cells #[a0, a1, a2, a3, a4] e fz)) : w.cell? ⟨b, 0, none⟩ = some a0 ∧ w.cell? ⟨b, 1, none⟩ = some a1 ∧ w.cell? ⟨b, 2, none⟩ = some a2 ∧ w.cell? ⟨b, 3, none⟩ = some a3 ∧ w.cell? ⟨b, 4, none⟩ = some a4 := by
  refine ⟨?_, ?_, ?_, ?_, ?_⟩ <;> rw [Lib.cell_of_heap h] <;> rfl

/-- a literal of one element -/
theorem own_lit1 (w : World) (T sz : Nat) (news : List Value) (hl : news.length = sz) : Own (w.alloc (.cells news.toArray T)) w.heap.size T sz (.slice (some ⟨w.heap.size, 0, none⟩) 1 1) [news] :=
  ⟨⟨by simp [hl], .inr ⟨w.heap.size, 1, news.toArray, rfl, Nat.le_refl _, heap_alloc_new w _, Nat.le_refl _, by unfold maxLen; omega, by simp [hl], by rw [← hl]; simp⟩⟩, by simp [hl]⟩

theorem Own.ao {w : World} {B e sz n cap : Nat} {ao : Option Addr} {css : List (List Value)} (h : Own w B e sz (.slice ao n cap) css) : n = css.length ∧ (ao = none → cap = 0) := by
  obtain ⟨ao', cap', hv, _, _, _, hn⟩ := h.row
  simp only [Value.slice.injEq] at hv
  obtain ⟨rfl, rfl, rfl⟩ := hv
  exact ⟨rfl, fun e => (hn e).2⟩
end Go.Proofs.YtfaoamdlknlgpaaGreat
