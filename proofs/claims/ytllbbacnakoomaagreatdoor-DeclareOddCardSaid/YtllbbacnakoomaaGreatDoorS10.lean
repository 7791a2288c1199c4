/- Texts of this seat's proofs, laid into one file. -/
import Derived.Test.YtllbbacnakoomaaGreatDoorS1
import Derived.Deep.AppendLies
import Derived.Deep.RegionLaw
set_option maxRecDepth 100000
set_option maxHeartbeats 16000000
namespace Go.Proofs.YtllbbacnakoomaaGreatDoor
open Go.RowKit
set_option linter.unusedVariables false
theorem Own.size_lt {w : World} {B e sz : Nat} {v : Value} {css : List (List Value)} (h : Own w B e sz v css) : ∀ k, v.ownBlock = some k → ∃ c fz, w.heap[k]? = some (.cells c e fz) := by
 intro k hk
 rcases h.1.2 with ⟨rfl, _⟩ | ⟨g, cap, cur, rfl, _, hg, _⟩
 ·simp [Value.ownBlock] at hk
 ·simp only [Value.ownBlock, Option.some.injEq] at hk; subst hk; exact ⟨_, _, hg⟩
theorem others_app {w w' : World} {B e sz : Nat} {v : Value} {css : List (List Value)} (h : Own w B e sz v css) (hg : w.grownBy w' v.ownBlock) : Lib.OthersKept e none w w' :=
 (Lib.OthersKept.refl e none w).grown hg h.size_lt
theorem own_kt0 {w w' : World} {B e e' sz : Nat} {v : Value} {css : List (List Value)} (h : Own w B e sz v css) (he : e ≠ e') (hk : Lib.OthersKept e' none w w') : Own w' B e sz v css := by
 refine ⟨⟨h.1.1, ?_⟩, h.2⟩
 rcases h.1.2 with h0 | ⟨g, cap, cur, hv, hg1, hg, r⟩
 ·exact .inl h0
 ·refine .inr ⟨g, cap, cur, hv, hg1, hk g _ hg (by simp) ?_, r⟩
  intro c fz e1
  injection e1 with _ e2 _
  exact he e2
theorem Own.setBelow {w : World} {B e sz b j : Nat} {v : Value} {css : List (List Value)} (h : Own w B e sz v css) (hb : b < B) (u : Value) : Own (w.setCell ⟨b, j, none⟩ u) B e sz v css :=
 ⟨ownsRow_setCell_other h.1 (by intro e1; have := h.ge _ e1; simp only at this; omega) _, h.2⟩
theorem Own.rowBelow {w : World} {B e sz b : Nat} {v : Value} {css : List (List Value)} (h : Own w B e sz v css) (hb : b < B) (cs : Array Value) : Own (w.setRow b cs) B e sz v css := by
 refine ⟨⟨h.1.1, ?_⟩, h.2⟩
 rcases h.1.2 with h0 | ⟨g, cap, cur, hv, hg1, hg, r⟩
 ·exact .inl h0
 ·exact .inr ⟨g, cap, cur, hv, hg1, (setRow_other _ _ _ _ (by omega)).trans hg, r⟩
theorem Below.row {B g : Nat} {a w : World} (h : Below B a w) (hg : B ≤ g) (cs : Array Value) : Below B a (w.setRow g cs) :=
 h.trans ⟨rfl, rfl, rfl, by simp, fun k hk => setRow_other _ _ _ _ (by omega)⟩
theorem step_append1 {P : Program} {w : World} {ops : Array Oper} {o : Oper} {a : Act} {K : Act → World → Prop} {Q : Exit → Act → World → Prop} {Z : Prop} {t e : TypeId} {z : Value} {size bytes : Nat} (E : EI P t e z size bytes)
 (hgd : o.guard = none) {s x : Operand} (ho : o.op = .call { callee := .builtin .append, args := #[s, x], argTypes := #[t, t] })
 {B : Nat} {v : Value} {css : List (List Value)} (hown : Own w B e size v css) (hs : a.eval s = v)
 {news : List Value} {c g : Nat} (hx : a.eval x = .slice (some ⟨g, 0, none⟩) 1 c) (hg : w.heap[g]? = some (.cells news.toArray e (0,0))) (hl : news.length = size) (h1 : ∀ u ∈ news, u.oneCell' = true)
 (hn : css.length + 1 ≤ 1000000000) (hbytes : bytes ≤ 1000) (hbase : B ≤ w.heap.size)
 (h : ∀ v' w', Own w' B e size v' (css ++ [news]) → w.grownBy w' v.ownBlock → K (a.put o.dst v') w') :
 if Region.wanted o (yielded ops a.tmps) = true then Oper.wp P o a w K Q else Z := by
 obtain ⟨i, hi, hz0, hz1, hz2⟩ := info_parts E.info
 have hb : (css.length + 1) * bytes ≤ 140737488355328 := by
  calc (css.length + 1) * bytes ≤ 1000000000 * 1000 := Nat.mul_le_mul hn hbytes
   _ ≤ 140737488355328 := by decide
 refine step_append_lies w hgd s x t ho B e i z size bytes E.under hi hz0 hz1 hz2 E.zs E.pos v css.length css.flatten hs hown.1 ⟨g, 0, none⟩ 1 c news hx (by simpa using hl) ?_ h1 (by decide) (by unfold maxLen; omega) hb hbase _ rfl ?_
 ·intro j u hj
  rw [Addr.add_lit, Lib.cell_of_heap hg]
  simpa using hj
 ·intro g' cap w' h2 h3 _ _
  refine h _ w' ⟨by simpa using h2, ?_⟩ h3
  intro c hc
  rcases List.mem_append.1 hc with hc | hc
  ·exact hown.2 c hc
  ·simp at hc; subst hc; exact hl
end Go.Proofs.YtllbbacnakoomaaGreatDoor
namespace Go.Proofs.YtllbbacnakoomaaGreatDoor
open Go.RowKit
set_option linter.unusedVariables false
theorem wpList_append1L {P : Program} {w : World} {ops : Array Oper} {rest : List Oper} {o : Oper} {a : Act} {Q : Exit → Act → World → Prop} {t e : TypeId} {z : Value} {size bytes : Nat} (E : EI P t e z size bytes)
 (hgd : o.guard = none) {s x : Operand} (ho : o.op = .call { callee := .builtin .append, args := #[s, x], argTypes := #[t, t] })
 {B : Nat} {v : Value} {css : List (List Value)} (hown : Own w B e size v css) (hs : a.eval s = v)
 {news : List Value} {c g : Nat} (hx : a.eval x = .slice (some ⟨g, 0, none⟩) 1 c) (hg : g = w.heap.size) (hl : news.length = size) (h1 : ∀ u ∈ news, u.oneCell' = true)
 (hn : css.length + 1 ≤ 1000000000) (hbytes : bytes ≤ 1000) (hbase : B ≤ w.heap.size)
 (h : ∀ n g' cap w', Own w' B e size (.slice (some ⟨g', 0, none⟩) n cap) (css ++ [news]) → w.grownBy w' v.ownBlock → (v.ownBlock = some g' ∨ w.heap.size ≤ g') → wpList P ops Q rest (a.put o.dst (.slice (some ⟨g', 0, none⟩) n cap)) w') :
 wpList P ops Q (o :: rest) a (w.alloc (.cells news.toArray e)) := by
 subst hg
 obtain ⟨i, hi, hz0, hz1, hz2⟩ := info_parts E.info
 have hb : (css.length + 1) * bytes ≤ 140737488355328 := by
  calc (css.length + 1) * bytes ≤ 1000000000 * 1000 := Nat.mul_le_mul hn hbytes
   _ ≤ 140737488355328 := by decide
 refine wpList_append_lies _ hgd s x t ho B e i z size bytes E.under hi hz0 hz1 hz2 E.zs E.pos v css.length css.flatten hs (hown.1.alloc _) ⟨w.heap.size, 0, none⟩ 1 c news hx (by simpa using hl) (cells_new w news e) h1 (by decide) (by unfold maxLen; omega) hb (by simp; omega) _ rfl ?_
 intro g' cap w' h2 h3 h4 _
 refine h _ g' cap w' ⟨by simpa using h2, ?_⟩ (grown_trans (World.grownBy_alloc w _ _) h3) (h4.imp id (fun e => by rw [e]; simp))
 intro c hc
 rcases List.mem_append.1 hc with hc | hc
 ·exact hown.2 c hc
 ·simp at hc; subst hc; exact hl
theorem E50 : EI Tryz.prog 48 50 (.agg #[.string ⟨#[]⟩, .string ⟨#[]⟩, .int .i64 0, .int .i64 0, .slice none 0 0]) 5 72 := ⟨Tryz.underlying48, by kernel_rfl, rfl, by decide⟩
end Go.Proofs.YtllbbacnakoomaaGreatDoor
namespace Go.Proofs.YtllbbacnakoomaaGreatDoor
open Go.RowKit
set_option linter.unusedVariables false
theorem Row.take {w : World} {sz : Nat} {ao : Option Addr} {css : List (List Value)} (h : Row w sz ao css) (k : Nat) : Row w sz ao (css.take k) := by
 intro hne
 obtain ⟨b, o, e, hat⟩ := h (by rintro rfl; simp at hne)
 refine ⟨b, o, e, fun i cs hi j u hj => hat i cs ?_ j u hj⟩
 rw [List.getElem?_take] at hi
 split at hi
 ·exact hi
 ·cases hi
theorem Row.drop1 {w : World} {b o : Nat} {css : List (List Value)} (h : Row w 1 (some ⟨b, o, none⟩) css) (k : Nat) : Row w 1 (some ⟨b, o + k, none⟩) (css.drop k) := by
 intro hne
 obtain ⟨b', o', e, hat⟩ := h (by rintro rfl; simp at hne)
 simp only [Option.some.injEq, Addr.mk.injEq, and_true] at e
 obtain ⟨rfl, rfl⟩ := e
 refine ⟨b, o + k, rfl, fun i cs hi j u hj => ?_⟩
 rw [List.getElem?_drop] at hi
 have := hat (k + i) cs hi j u hj
 rw [← this]
 congr 2
 omega
theorem own_cases {w : World} {B e n lc : Nat} {lo : Option Addr} {css : List (List Value)} (h : Own w B e 1 (.slice lo n lc) css) : (lo = none ∧ n = 0 ∧ lc = 0) ∨ ∃ gb, lo = some ⟨gb, 0, none⟩ := by
 rcases h.1.2 with ⟨hv, h0⟩ | ⟨g, cap, cur, hv, _⟩
 ·simp only [Value.slice.injEq] at hv
  exact .inl hv
 ·simp only [Value.slice.injEq] at hv
  exact .inr ⟨g, hv.1⟩
end Go.Proofs.YtllbbacnakoomaaGreatDoor
