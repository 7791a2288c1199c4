/- Two rows of one type that grow side by side; Round. -/
import Derived.Test.YtcafiaoinonpgaaTreeDeepSpec
namespace Go.Proofs.Ytcafiaoinonpgaa
open Go.RowKit
set_option linter.unusedVariables false

/-- an append of one element that also tells where the new slice lies -/
theorem wpList_append1L {P : Program} {w : World} {ops : Array Oper} {rest : List Oper} {o : Oper} {a : Act} {Q : Exit → Act → World → Prop} {t e : TypeId} {z : Value} {size bytes : Nat} (E : EI P t e z size bytes)
    (hgd : o.guard = none) {s x : Operand} (ho : o.op = .call { callee := .builtin .append, args := #[s, x], argTypes := #[t, t] })
    {B : Nat} {v : Value} {css : List (List Value)} (hown : Own w B e size v css) (hs : a.eval s = v)
    {news : List Value} {c g : Nat} (hx : a.eval x = .slice (some ⟨g, 0, none⟩) 1 c) (hg : g = w.heap.size) (hl : news.length = size) (h1 : ∀ u ∈ news, u.oneCell' = true)
    (hn : css.length + 1 ≤ 1000000000) (hbytes : bytes ≤ 1000) (hbase : B ≤ w.heap.size)
    (h : ∀ n g' cap w', Own w' B e size (.slice (some ⟨g', 0, none⟩) n cap) (css ++ [news]) → w.grownBy w' v.ownBlock → (v.ownBlock = some g' ∨ w.heap.size ≤ g') → wpList P ops Q rest (a.put o.dst (.slice (some ⟨g', 0, none⟩) n cap)) w') :
    wpList P ops Q (o :: rest) a (w.alloc (.cells news.toArray e)) := by
  subst hg
  obtain ⟨i, hi, hz0, hz1, hz2⟩ := info_parts E.info
  have hb : (css.length + 1) * bytes ≤ 140737488355328 := by
    calc (css.length + 1) * bytes ≤ 1000000000 * 1000 := Nat.mul_le_mul hn hbytes
      _ ≤ 140737488355328 := by decide
  refine wpList_append_lies _ hgd s x t ho B e i z size bytes E.under hi hz0 hz1 hz2 E.zs E.pos v css.length css.flatten hs (hown.1.alloc _) ⟨w.heap.size, 0, none⟩ 1 c news hx (by simpa using hl) (cells_new w news e) h1 (by decide) (by unfold maxLen; omega) hb (by simp; omega) _ rfl ?_
  intro g' cap w' h2 h3 h4 _
  refine h _ g' cap w' ⟨by simpa using h2, ?_⟩ (grown_trans (World.grownBy_alloc w _ _) h3) (h4.imp id (fun e => by rw [e]; simp))
  intro c hc
  rcases List.mem_append.1 hc with hc | hc
  · exact hown.2 c hc
  · simp at hc; subst hc; exact hl

/-- a row that grows, held by the last cell of a node -/
structure Held (w : World) (B b g : Nat) (a0 a1 a2 a3 v : Value) (css : List (List Value)) : Prop where
  here : w.heap[b]? = some (.cells #[a0, a1, a2, a3, v] 40 (0, 0))
  own : Own w B 40 5 v css
  block : v.ownBlock = some g
  ne : g ≠ b
  base : B ≤ b

theorem Held.lt {w : World} {B b g : Nat} {a0 a1 a2 a3 v : Value} {css : List (List Value)} (h : Held w B b g a0 a1 a2 a3 v css) : b < w.heap.size ∧ g < w.heap.size := by
  refine ⟨lt_of_block h.here, ?_⟩
  obtain ⟨c, fz, hc⟩ := h.own.size_lt g h.block
  exact lt_of_block hc

/-- behind an append and the store of its value: the row that grew, and the other one -/
theorem Held.step {w w' : World} {B b g b2 g2 : Nat} {a0 a1 a2 a3 v c0 c1 c2 c3 v2 : Value} {css dss : List (List Value)} (h : Held w B b g a0 a1 a2 a3 v css) (k : Held w B b2 g2 c0 c1 c2 c3 v2 dss)
    (hd : b ≠ b2 ∧ g ≠ g2 ∧ g ≠ b2 ∧ g2 ≠ b) {n g' cap : Nat} {new : List Value} (ho : Own w' B 40 5 (.slice (some ⟨g', 0, none⟩) n cap) (css ++ [new])) (hg : w.grownBy w' v.ownBlock) (hl : v.ownBlock = some g' ∨ w.heap.size ≤ g') (hB : B ≤ w.heap.size) :
    w'.cell? ⟨b, 4, none⟩ = some v ∧ w'.frozen? ⟨b, 4, none⟩ = false ∧
    Held (w'.setCell ⟨b, 4, none⟩ (.slice (some ⟨g', 0, none⟩) n cap)) B b g' a0 a1 a2 a3 (.slice (some ⟨g', 0, none⟩) n cap) (css ++ [new]) ∧
    Held (w'.setCell ⟨b, 4, none⟩ (.slice (some ⟨g', 0, none⟩) n cap)) B b2 g2 c0 c1 c2 c3 v2 dss ∧ (b ≠ b2 ∧ g' ≠ g2 ∧ g' ≠ b2 ∧ g2 ≠ b) ∧
    Below B w (w'.setCell ⟨b, 4, none⟩ (.slice (some ⟨g', 0, none⟩) n cap)) := by
  obtain ⟨h1, h2, h3, h4⟩ := hd
  have hb1 := h.lt
  have hb2 := k.lt
  rw [h.block] at hg hl
  have e1 : w'.heap[b]? = some (.cells #[a0, a1, a2, a3, v] 40 (0, 0)) := by rw [hg.block b hb1.1 (fun e => h.ne (Option.some.inj e).symm)]; exact h.here
  have e2 : w'.heap[b2]? = some (.cells #[c0, c1, c2, c3, v2] 40 (0, 0)) := by rw [hg.block b2 hb2.1 (fun e => h3 (Option.some.inj e).symm)]; exact k.here
  have hg' : ∀ x, x < w.heap.size → x ≠ g → g' ≠ x := by
    intro x hx hxg e
    rcases hl with hl | hl
    · exact hxg (by rw [← e, Option.some.inj hl])
    · omega
  have o2 : Own w' B 40 5 v2 dss := k.own.kept hg (.inr (by rw [k.block]; exact fun e => h2 (Option.some.inj e).symm))
  have hs := setCell_eq_setRow w' b 4 #[a0, a1, a2, a3, v] 40 (0, 0) (.slice (some ⟨g', 0, none⟩) n cap) e1
  refine ⟨(node_cells e1).2.2.2.2, Lib.frozen_of_heap e1 4, ⟨?_, ⟨ownsRow_setCell_other ho.1 (by simpa [Value.ownBlock] using hg' b hb1.1 (Ne.symm h.ne)) _, ho.2⟩, rfl, hg' b hb1.1 (Ne.symm h.ne), h.base⟩, ⟨?_, ⟨ownsRow_setCell_other o2.1 (by rw [k.block]; simpa using h4) _, o2.2⟩, k.block, k.ne, k.base⟩, ⟨h1, hg' g2 hb2.2 (Ne.symm h2), hg' b2 hb2.1 (Ne.symm h3), h4⟩, ?_⟩
  · rw [hs, setRow_heap _ _ _ _ _ _ e1]
    rfl
  · rw [Below.heap_setCell _ _ _ _ (Ne.symm h1)]
    exact e2
  · exact ((Below.refl B w).grown hg hB (by intro r hr; obtain rfl := Option.some.inj hr; exact h.own.ge _ h.block)).setCell h.base _

set_option maxRecDepth 100000 in
theorem round_any (a n : Int) (h0 : 0 < n) (h1 : n ≤ 1000) (ha : -9223372036854775808 ≤ a ∧ a ≤ 9223372036854775807) (w : World) :
    Calls Try.prog 18 #[.int .i64 a, .int .i64 n] w fun e w' => e = .returned (.int .i64 (rnd a n)) ∧ w' = w := by
  have hr := rnd_range a n h0
  have h2 : -n < a.tmod n := Int.lt_tmod_of_pos a h0
  have h3 : a.tmod n < n := Int.tmod_lt_of_pos a h0
  have HQ : Hid (rnd a n = (a.tmod n + n) % n) := Lib.hid (Int.tmod_eq_emod_of_nonneg (by omega))
  go_enter Try.func18, Try.ntmps18
  go_wp2
  go_ret
  exact ⟨by rw [HQ.out]; rfl, rfl⟩

theorem E40 : EI Try.prog 38 40 (.agg #[.string ⟨#[]⟩, .string ⟨#[]⟩, .int .i64 0, .int .i64 0, .slice none 0 0]) 5 72 := ⟨Try.underlying38, by kernel_rfl, rfl, by decide⟩
end Go.Proofs.Ytcafiaoinonpgaa
