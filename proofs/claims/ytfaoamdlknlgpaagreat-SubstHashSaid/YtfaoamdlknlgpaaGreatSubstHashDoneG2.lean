/- Texts of this seat's proofs, laid into one file. -/
import Derived.Test.YtfaoamdlknlgpaaGreatProg
import Derived.WalkKit
import Derived.WalkSmall
import Derived.BigQuiet
import Derived.BigGuardPart
import Derived.WalkSpells
import Derived.Lib.Hide
import Derived.Lib.Builder
/- What every text of this seat's proofs leans on: small laws on worlds, rows of cells, appends of one element. Nothing here speaks of the program but through the facts that are handed in. -/
namespace Go.Proofs.YtfaoamdlknlgpaaGreat
open Go.RowKit

/-! ## worlds -/

/-- What is kept off the walk: a fact behind a name. -/
theorem cell_lt {w : World} {a : Addr} {v : Value} (h : w.cell? a = some v) : a.block < w.heap.size := World.block_lt_of_cell? w a h

theorem kept_cell {w w' : World} (hb : Below w.heap.size w w') {a : Addr} {v : Value} (h : w.cell? a = some v) : w'.cell? a = some v :=
  (hb.cell (cell_lt h)).trans h

theorem bstep {B : Nat} {w w1 w2 : World} (h1 : Below B w w1) (h2 : Below w1.heap.size w1 w2) (hB : B ≤ w1.heap.size) : Below B w w2 :=
  h1.trans (h2.mono hB)

theorem grown_trans {a b c : World} {row : Option Nat} (h : a.grownBy b row) (k : b.grownBy c row) : a.grownBy c row :=
  ⟨k.os.trans h.os, k.tape.trans h.tape, k.output.trans h.output, Nat.le_trans h.size k.size, fun i hi hr => (k.block i (Nat.lt_of_lt_of_le hi h.size) hr).trans (h.block i hi hr)⟩

/-! ## rows: a slice's elements as lists of cells -/

/-- the cells of the elements lie one behind the other from the address on -/
def RowAt (w : World) (sz : Nat) (b o : Nat) (css : List (List Value)) : Prop :=
  ∀ i cs, css[i]? = some cs → ∀ j u, cs[j]? = some u → w.cell? ⟨b, o + i * sz + j, none⟩ = some u

/-- a slice's address and its elements: nothing is said of the address of an empty one -/
def Row (w : World) (sz : Nat) (ao : Option Addr) (css : List (List Value)) : Prop :=
  css ≠ [] → ∃ b o, ao = some ⟨b, o, none⟩ ∧ RowAt w sz b o css

theorem RowAt.cell {w : World} {sz b o : Nat} {css : List (List Value)} (h : RowAt w sz b o css) {i : Nat} {cs : List Value} (hi : css[i]? = some cs) {j : Nat} {u : Value} (hj : cs[j]? = some u) :
    w.cell? ⟨b, o + i * sz + j, none⟩ = some u := h i cs hi j u hj

theorem RowAt.below {w w' : World} {sz b o : Nat} {css : List (List Value)} (h : RowAt w sz b o css) (hb : Below w.heap.size w w') : RowAt w' sz b o css :=
  fun i cs hi j u hj => kept_cell hb (h i cs hi j u hj)

theorem Row.below {w w' : World} {sz : Nat} {ao : Option Addr} {css : List (List Value)} (h : Row w sz ao css) (hb : Below w.heap.size w w') : Row w' sz ao css :=
  fun hne => let ⟨b, o, e, r⟩ := h hne; ⟨b, o, e, r.below hb⟩

theorem Row.nil (w : World) (sz : Nat) (ao : Option Addr) : Row w sz ao [] := fun h => (h rfl).elim

theorem flatten_at {css : List (List Value)} {sz : Nat} (hs : ∀ c ∈ css, c.length = sz) : ∀ {i : Nat} {cs : List Value}, css[i]? = some cs → ∀ {j : Nat} {u : Value}, cs[j]? = some u → css.flatten[i * sz + j]? = some u := by
  induction css with
  | nil => intro i cs hi; simp at hi
  | cons c r ih =>
    intro i cs hi j u hj
    have hc : c.length = sz := hs c (by simp)
    cases i with
    | zero =>
      simp only [List.getElem?_cons_zero, Option.some.injEq] at hi
      subst hi
      have hlt : j < c.length := (List.getElem?_eq_some_iff.1 hj).1
      simp only [List.flatten_cons, Nat.zero_mul, Nat.zero_add]
      rw [List.getElem?_append_left hlt]
      exact hj
    | succ i =>
      simp only [List.getElem?_cons_succ] at hi
      have := ih (fun c hc => hs c (by simp [hc])) hi hj
      simp only [List.flatten_cons]
      rw [List.getElem?_append_right (by rw [hc, Nat.add_mul]; omega)]
      rw [show (i + 1) * sz + j - c.length = i * sz + j by rw [hc, Nat.add_mul]; omega]
      exact this

theorem flatten_len {css : List (List Value)} {sz : Nat} (hs : ∀ c ∈ css, c.length = sz) : css.flatten.length = css.length * sz := by
  induction css with
  | nil => simp
  | cons c r ih =>
    simp only [List.flatten_cons, List.length_append, List.length_cons]
    rw [ih (fun c hc => hs c (by simp [hc])), hs c (by simp), Nat.add_mul]
    omega

/-- A slice of the call's own: its elements. -/
def Own (w : World) (B e sz : Nat) (v : Value) (css : List (List Value)) : Prop :=
  w.ownsRow B e sz v css.length css.flatten ∧ ∀ c ∈ css, c.length = sz

theorem Own.nil (w : World) (B e sz : Nat) : Own w B e sz (.slice none 0 0) [] := ⟨World.ownsRow_nil w B e sz, by simp⟩

theorem Own.row {w : World} {B e sz : Nat} {v : Value} {css : List (List Value)} (h : Own w B e sz v css) :
    ∃ ao cap, v = .slice ao css.length cap ∧ css.length ≤ cap ∧ cap ≤ maxLen ∧ Row w sz ao css ∧ (ao = none → css = [] ∧ cap = 0) := by
  obtain ⟨h1, h2⟩ := h
  rcases h1.2 with ⟨hv, h0⟩ | ⟨g, cap, cur, hv, hb, hg, hn, hm, hs, ht⟩
  · have : css = [] := List.eq_nil_of_length_eq_zero h0
    subst this
    exact ⟨none, 0, hv, Nat.le_refl _, Nat.zero_le _, Row.nil _ _ _, fun _ => ⟨rfl, rfl⟩⟩
  · refine ⟨some ⟨g, 0, none⟩, cap, hv, hn, hm, fun _ => ⟨g, 0, rfl, fun i cs hi j u hj => ?_⟩, fun h => by cases h⟩
    have := h1.cells (g := g) (by rw [hv]; rfl) (i * sz + j) u (flatten_at h2 hi hj)
    rw [Addr.add_lit] at this
    simpa [Nat.add_assoc] using this

/-- the same with the number of elements under a name of its own -/
theorem Own.rown {w : World} {B e sz : Nat} {v : Value} {css : List (List Value)} {n : Nat} (h : Own w B e sz v css) (hn : css.length = n) :
    ∃ ao cap, v = .slice ao n cap ∧ n ≤ cap ∧ cap ≤ maxLen ∧ Row w sz ao css ∧ (ao = none → css = [] ∧ cap = 0) := by
  subst hn; exact h.row

/-- what an owned slice gives that is written out -/
theorem Own.here {w : World} {B e sz n cap : Nat} {ao : Option Addr} {css : List (List Value)} (h : Own w B e sz (.slice ao n cap) css) : Row w sz ao css := by
  obtain ⟨ao', cap', e1, _, _, hr, _⟩ := h.row
  simp only [Value.slice.injEq] at e1
  rw [e1.1]; exact hr

theorem Own.mono {w : World} {B B' e sz : Nat} {v : Value} {css : List (List Value)} (h : Own w B e sz v css) (hB : B' ≤ B) : Own w B' e sz v css := by
  refine ⟨⟨h.1.1, ?_⟩, h.2⟩
  rcases h.1.2 with h0 | ⟨g, cap, cur, hv, hb, r⟩
  · exact .inl h0
  · exact .inr ⟨g, cap, cur, hv, Nat.le_trans hB hb, r⟩

theorem Own.kept {w w' : World} {B e sz : Nat} {v : Value} {css : List (List Value)} {row : Option Nat} (h : Own w B e sz v css) (hg : w.grownBy w' row) (hne : v.ownBlock = none ∨ v.ownBlock ≠ row) : Own w' B e sz v css :=
  ⟨h.1.kept hg hne, h.2⟩

theorem bgrown {w w' : World} (h : Below w.heap.size w w') : w.grownBy w' none := ⟨h.os, h.tape, h.output, h.size, fun k hk _ => h.block k hk⟩

theorem Own.below {w w' : World} {B e sz : Nat} {v : Value} {css : List (List Value)} (h : Own w B e sz v css) (hb : Below w.heap.size w w') : Own w' B e sz v css :=
  h.kept (bgrown hb) (by cases v.ownBlock <;> simp)

/-- What the program's table says of a slice's type and its elements'. -/
structure EI (P : Program) (t e : TypeId) (z : Value) (size bytes : Nat) : Prop where
  under : P.underlying t = some (.slice e)
  info : (P.info? e).map (fun i => (i.zero, i.size, i.bytes)) = some (some z, size, bytes)
  zs : z.cells.size = size
  pos : 0 < size

theorem cells_new (w : World) (news : List Value) (e : TypeId) : ∀ j u, news[j]? = some u → (w.alloc (.cells news.toArray e)).cell? ((⟨w.heap.size, 0, none⟩ : Addr).add j) = some u := by
  intro j u hj
  rw [Addr.add_lit, Lib.cell_of_heap (heap_alloc_new w _)]
  simpa using hj

/-- 'out = append(out, x)', out of the call's own: x's cells have just been laid into a new block. -/
theorem wpList_append1 {P : Program} {w : World} {ops : Array Oper} {rest : List Oper} {o : Oper} {a : Act} {Q : Exit → Act → World → Prop} {t e : TypeId} {z : Value} {size bytes : Nat} (E : EI P t e z size bytes)
    (hgd : o.guard = none) {s x : Operand} (ho : o.op = .call { callee := .builtin .append, args := #[s, x], argTypes := #[t, t] })
    {B : Nat} {v : Value} {css : List (List Value)} (hown : Own w B e size v css) (hs : a.eval s = v)
    {news : List Value} {c g : Nat} (hx : a.eval x = .slice (some ⟨g, 0, none⟩) 1 c) (hg : g = w.heap.size) (hl : news.length = size) (h1 : ∀ u ∈ news, u.oneCell' = true)
    (hn : css.length + 1 ≤ 1000000000) (hbytes : bytes ≤ 1000) (hbase : B ≤ w.heap.size)
    (h : ∀ v' w', Own w' B e size v' (css ++ [news]) → w.grownBy w' v.ownBlock → wpList P ops Q rest (a.put o.dst v') w') :
    wpList P ops Q (o :: rest) a (w.alloc (.cells news.toArray e)) := by
  subst hg
  obtain ⟨i, hi, hz0, hz1, hz2⟩ := info_parts E.info
  have hb : (css.length + 1) * bytes ≤ 140737488355328 := by
    calc (css.length + 1) * bytes ≤ 1000000000 * 1000 := Nat.mul_le_mul hn hbytes
      _ ≤ 140737488355328 := by decide
  refine wpList_append_own _ hgd s x t ho B e i z size bytes E.under hi hz0 hz1 hz2 E.zs E.pos v css.length css.flatten hs (hown.1.alloc _) ⟨w.heap.size, 0, none⟩ 1 c news hx (by simpa using hl) (cells_new w news e) h1 (by unfold maxLen; omega) hb (by simp; omega) ?_
  intro v' w' h2 h3 _
  refine h v' w' ⟨by simpa using h2, ?_⟩ (grown_trans (World.grownBy_alloc w _ _) h3)
  intro c hc
  rcases List.mem_append.1 hc with hc | hc
  · exact hown.2 c hc
  · simp at hc; subst hc; exact hl

theorem Own.alloc {w : World} {B e sz : Nat} {v : Value} {css : List (List Value)} (h : Own w B e sz v css) (o : Obj) : Own (w.alloc o) B e sz v css := ⟨h.1.alloc o, h.2⟩

theorem Own.drew {w : World} {B e sz : Nat} {v : Value} {css : List (List Value)} (h : Own w B e sz v css) : Own w.drew B e sz v css := h

theorem cell_new (w : World) (cs : List Value) (e : TypeId) {j : Nat} {u : Value} (hj : cs[j]? = some u) : (w.alloc (.cells cs.toArray e)).cell? ⟨w.heap.size, j, none⟩ = some u := by
  rw [Lib.cell_of_heap (heap_alloc_new w _)]
  simpa using hj

/-- a row that has just been laid -/
theorem row_new (w : World) {sz : Nat} {css : List (List Value)} (hs : ∀ c ∈ css, c.length = sz) (e : TypeId) {cs : List Value} (hcs : cs = css.flatten) {g : Nat} (hg : g = w.heap.size) : Row (w.alloc (.cells cs.toArray e)) sz (some ⟨g, 0, none⟩) css := by
  subst hcs hg
  refine fun _ => ⟨_, 0, rfl, fun i c hi j u hj => ?_⟩
  rw [Nat.zero_add]
  exact cell_new w _ e (flatten_at hs hi hj)

theorem Own.ge {w : World} {B e sz : Nat} {v : Value} {css : List (List Value)} (h : Own w B e sz v css) : ∀ k, v.ownBlock = some k → B ≤ k := fun k hk => (h.1.lt k hk).1

theorem bapp {B : Nat} {a w w' : World} {e sz : Nat} {v : Value} {css : List (List Value)} (h : Below B a w) (ho : Own w B e sz v css) (hg : w.grownBy w' v.ownBlock) (hB : B ≤ w.heap.size) : Below B a w' :=
  h.grown hg hB ho.ge

theorem u8_of {a : UInt8} {n : Nat} (hn : n < 256) (h : (a.toNat : Int) = (n : Int)) : a = n.toUInt8 := by
  apply UInt8.toNat_inj.1
  simp
  omega

theorem u8_arg {a : Int} (h : (Lit.int .u8 a).wf = true) : ∃ c : UInt8, a = (c.toNat : Int) := by
  have h' : 0 ≤ a ∧ a ≤ 255 := by simpa [Lit.wf, IntKind.min, IntKind.max, IntKind.signed, IntKind.bits] using h
  refine ⟨a.toNat.toUInt8, ?_⟩
  simp
  omega

theorem i64_arg {a : Int} (h : (Lit.int .i64 a).wf = true) : -9223372036854775808 ≤ a ∧ a ≤ 9223372036854775807 := by
  simpa [Lit.wf, IntKind.min, IntKind.max, IntKind.signed, IntKind.bits] using h

theorem u8_beq {a : UInt8} {n : Int} (h : ((a.toNat : Int) == n) = true) : (a.toNat : Int) = n := by simpa using h
theorem u8_bne {a : UInt8} {n : Int} (h : ((a.toNat : Int) == n) = false) : (a.toNat : Int) ≠ n := by simpa using h

theorem Own.last {w : World} {B e sz : Nat} {v : Value} {css : List (List Value)} {c d : List Value} (h : Own w B e sz v (css ++ [c])) (hcd : c = d) : Own w B e sz v (css ++ [d]) := hcd ▸ h

/-- two owned rows of two types lie apart -/
theorem own_apart {w : World} {B B' e e' sz sz' : Nat} {v v' : Value} {css css' : List (List Value)} (h : Own w B e sz v css) (h' : Own w B' e' sz' v' css') (he : e ≠ e') : v.ownBlock = none ∨ v.ownBlock ≠ v'.ownBlock := by
  rcases h.1.2 with ⟨rfl, _⟩ | ⟨g, cap, cur, rfl, _, hg, _⟩
  · exact .inl rfl
  · rcases h'.1.2 with ⟨rfl, _⟩ | ⟨g', cap', cur', rfl, _, hg', _⟩
    · exact .inr (by simp [Value.ownBlock])
    · refine .inr ?_
      intro e1
      simp only [Value.ownBlock, Option.some.injEq] at e1
      rw [e1, hg'] at hg
      simp only [Option.some.injEq, Obj.cells.injEq] at hg
      exact he hg.2.1.symm

/-- 'string(b)', b an owned row of bytes -/
theorem run_str_own {P : Program} {w : World} {B e : Nat} {v : Value} {l : List UInt8} (h : Own w B e 1 v (l.map fun c => [.int .u8 c.toNat])) (src dst : TypeId)
    (hs : P.underlying src = some (.slice e)) (he : P.underlying e = some (.int .u8)) (hd : P.underlying dst = some .string) : (convert src dst v).run P w = .ok (.string ⟨l.toArray⟩) w := by
  obtain ⟨ao, cap, rfl, _, _, hr, hn⟩ := h.rown (n := l.length) (by simp)
  cases ao with
  | none =>
    have hl : l = [] := by simpa using (hn rfl).1
    subst hl
    exact run_convert_bytes_nil w src e hs he _ _ dst hd
  | some a =>
    by_cases hl : l = []
    · subst hl
      rw [run_convert_bytes_back w src dst e a cap [] hs he hd (by intro j hj; simp at hj)]
    · obtain ⟨b, o, e1, hat⟩ := hr (by simpa using hl)
      injection e1 with e1
      subst e1
      refine run_convert_bytes_back w src dst e _ cap l hs he hd ?_
      intro j hj
      have := hat.cell (i := j) (cs := [.int .u8 l[j].toNat]) (by simp [hj]) (j := 0) (u := .int .u8 l[j].toNat) rfl
      rw [Addr.add_lit]
      simpa using this

/-! ## a label that is jumped back to: the way on from it is walked once -/

theorem wp_scope_loop {P : Program} {a : Act} {w : World} {Q : Exit → Act → World → Prop} {c rest : Code} (l : Nat) (J : Act → World → Prop) (μ : Act → World → Nat) (hf : findLabel c l = some (.seq .skip rest))
    (first : (Hid (∀ a w, J a w → rest.wp P (Exit.jump l J Q) a w)) → c.wp P (Exit.jump l J Q) a w)
    (pass : ∀ a w, J a w → rest.wp P (Exit.jump l (fun a' w' => J a' w' ∧ μ a' w' < μ a w) Q) a w) : (Code.scope c).wp P Q a w :=
  wp_scope_jumps l J μ hf (first fun a w h => Code.wp_mono (fun e a' w' q => by
    cases e <;> first | exact q | exact ⟨q.1, q.2.1⟩) (pass a w h)) fun a w h => wp_seq (wp_skip (pass a w h))

end Go.Proofs.YtfaoamdlknlgpaaGreat
