/- Texts of this seat's proofs, laid into one file. -/
import Derived.Test.YtllbbacnakoomaaGreatDoorProg
import Derived.WalkKit
import Derived.WalkSmall
import Derived.BigQuiet
import Derived.BigGuardPart
import Derived.WalkSpells
import Derived.Lib.Hide
import Derived.Lib.Builder
/- What every text of this seat's proofs leans on: small laws on worlds, rows of cells, appends of one element. Nothing here speaks of the program but through the facts that are handed in. -/
namespace Go.Proofs.YtllbbacnakoomaaGreatDoor
open Go.RowKit

/-! ## worlds -/

/-- What is kept off the walk: a fact behind a name. -/
theorem cell_lt {w : World} {a : Addr} {v : Value} (h : w.cell? a = some v) : a.block < w.heap.size := World.block_lt_of_cell? w a h

theorem kept_cell {w w' : World} (hb : Below w.heap.size w w') {a : Addr} {v : Value} (h : w.cell? a = some v) : w'.cell? a = some v :=
  (hb.cell (cell_lt h)).trans h

theorem bstep {B : Nat} {w w1 w2 : World} (h1 : Below B w w1) (h2 : Below w1.heap.size w1 w2) (hB : B ≤ w1.heap.size) : Below B w w2 :=
  h1.trans (h2.mono hB)

theorem grown_trans {a b c : World} {row : Option Nat} (h : a.grownBy b row) (k : b.grownBy c row) : a.grownBy c row :=
  ⟨k.os.trans h.os, k.tape.trans h.tape, k.output.trans h.output, Nat.le_trans h.size k.size, fun i hi hr => (k.block i (Nat.lt_of_lt_of_le hi h.size) hr).trans (h.block i hi hr)⟩

/-! ## rows: a slice's elements as lists of cells -/

/-- the cells of the elements lie one behind the other from the address on -/
def RowAt (w : World) (sz : Nat) (b o : Nat) (css : List (List Value)) : Prop :=
  ∀ i cs, css[i]? = some cs → ∀ j u, cs[j]? = some u → w.cell? ⟨b, o + i * sz + j, none⟩ = some u

/-- a slice's address and its elements: nothing is said of the address of an empty one -/
def Row (w : World) (sz : Nat) (ao : Option Addr) (css : List (List Value)) : Prop :=
  css ≠ [] → ∃ b o, ao = some ⟨b, o, none⟩ ∧ RowAt w sz b o css

theorem RowAt.cell {w : World} {sz b o : Nat} {css : List (List Value)} (h : RowAt w sz b o css) {i : Nat} {cs : List Value} (hi : css[i]? = some cs) {j : Nat} {u : Value} (hj : cs[j]? = some u) :
    w.cell? ⟨b, o + i * sz + j, none⟩ = some u := h i cs hi j u hj

theorem RowAt.below {w w' : World} {sz b o : Nat} {css : List (List Value)} (h : RowAt w sz b o css) (hb : Below w.heap.size w w') : RowAt w' sz b o css :=
  fun i cs hi j u hj => kept_cell hb (h i cs hi j u hj)

theorem Row.below {w w' : World} {sz : Nat} {ao : Option Addr} {css : List (List Value)} (h : Row w sz ao css) (hb : Below w.heap.size w w') : Row w' sz ao css :=
  fun hne => let ⟨b, o, e, r⟩ := h hne; ⟨b, o, e, r.below hb⟩

theorem Row.nil (w : World) (sz : Nat) (ao : Option Addr) : Row w sz ao [] := fun h => (h rfl).elim

theorem flatten_at {css : List (List Value)} {sz : Nat} (hs : ∀ c ∈ css, c.length = sz) : ∀ {i : Nat} {cs : List Value}, css[i]? = some cs → ∀ {j : Nat} {u : Value}, cs[j]? = some u → css.flatten[i * sz + j]? = some u := by
  induction css with
  | nil => intro i cs hi; simp at hi
  | cons c r ih =>
    intro i cs hi j u hj
    have hc : c.length = sz := hs c (by simp)
    cases i with
    | zero =>
      simp only [List.getElem?_cons_zero, Option.some.injEq] at hi
      subst hi
      have hlt : j < c.length := (List.getElem?_eq_some_iff.1 hj).1
      simp only [List.flatten_cons, Nat.zero_mul, Nat.zero_add]
      rw [List.getElem?_append_left hlt]
      exact hj
    | succ i =>
      simp only [List.getElem?_cons_succ] at hi
      have := ih (fun c hc => hs c (by simp [hc])) hi hj
      simp only [List.flatten_cons]
      rw [List.getElem?_append_right (by rw [hc, Nat.add_mul]; omega)]
      rw [show (i + 1) * sz + j - c.length = i * sz + j by rw [hc, Nat.add_mul]; omega]
      exact this

theorem flatten_len {css : List (List Value)} {sz : Nat} (hs : ∀ c ∈ css, c.length = sz) : css.flatten.length = css.length * sz := by
  induction css with
  | nil => simp
  | cons c r ih =>
    simp only [List.flatten_cons, List.length_append, List.length_cons]
    rw [ih (fun c hc => hs c (by simp [hc])), hs c (by simp), Nat.add_mul]
    omega

/-- A slice of the call's own: its elements. -/
def Own (w : World) (B e sz : Nat) (v : Value) (css : List (List Value)) : Prop :=
  w.ownsRow B e sz v css.length css.flatten ∧ ∀ c ∈ css, c.length = sz

theorem Own.nil (w : World) (B e sz : Nat) : Own w B e sz (.slice none 0 0) [] := ⟨World.ownsRow_nil w B e sz, by simp⟩

theorem Own.row {w : World} {B e sz : Nat} {v : Value} {css : List (List Value)} (h : Own w B e sz v css) :
    ∃ ao cap, v = .slice ao css.length cap ∧ css.length ≤ cap ∧ cap ≤ maxLen ∧ Row w sz ao css ∧ (ao = none → css = [] ∧ cap = 0) := by
  obtain ⟨h1, h2⟩ := h
  rcases h1.2 with ⟨hv, h0⟩ | ⟨g, cap, cur, hv, hb, hg, hn, hm, hs, ht⟩
  · have : css = [] := List.eq_nil_of_length_eq_zero h0
    subst this
    exact ⟨none, 0, hv, Nat.le_refl _, Nat.zero_le _, Row.nil _ _ _, fun _ => ⟨rfl, rfl⟩⟩
  · refine ⟨some ⟨g, 0, none⟩, cap, hv, hn, hm, fun _ => ⟨g, 0, rfl, fun i cs hi j u hj => ?_⟩, fun h => by cases h⟩
    have := h1.cells (g := g) (by rw [hv]; rfl) (i * sz + j) u (flatten_at h2 hi hj)
    rw [Addr.add_lit] at this
    simpa [Nat.add_assoc] using this

/-- the same with the number of elements under a name of its own -/
theorem Own.rown {w : World} {B e sz : Nat} {v : Value} {css : List (List Value)} {n : Nat} (h : Own w B e sz v css) (hn : css.length = n) :
    ∃ ao cap, v = .slice ao n cap ∧ n ≤ cap ∧ cap ≤ maxLen ∧ Row w sz ao css ∧ (ao = none → css = [] ∧ cap = 0) := by
  subst hn; exact h.row

/-- what an owned slice gives that is written out -/
theorem Own.here {w : World} {B e sz n cap : Nat} {ao : Option Addr} {css : List (List Value)} (h : Own w B e sz (.slice ao n cap) css) : Row w sz ao css := by
  obtain ⟨ao', cap', e1, _, _, hr, _⟩ := h.row
  simp only [Value.slice.injEq] at e1
  rw [e1.1]; exact hr

theorem Own.mono {w : World} {B B' e sz : Nat} {v : Value} {css : List (List Value)} (h : Own w B e sz v css) (hB : B' ≤ B) : Own w B' e sz v css := by
  refine ⟨⟨h.1.1, ?_⟩, h.2⟩
  rcases h.1.2 with h0 | ⟨g, cap, cur, hv, hb, r⟩
  · exact .inl h0
  · exact .inr ⟨g, cap, cur, hv, Nat.le_trans hB hb, r⟩

theorem Own.kept {w w' : World} {B e sz : Nat} {v : Value} {css : List (List Value)} {row : Option Nat} (h : Own w B e sz v css) (hg : w.grownBy w' row) (hne : v.ownBlock = none ∨ v.ownBlock ≠ row) : Own w' B e sz v css :=
  ⟨h.1.kept hg hne, h.2⟩

theorem bgrown {w w' : World} (h : Below w.heap.size w w') : w.grownBy w' none := ⟨h.os, h.tape, h.output, h.size, fun k hk _ => h.block k hk⟩

theorem Own.below {w w' : World} {B e sz : Nat} {v : Value} {css : List (List Value)} (h : Own w B e sz v css) (hb : Below w.heap.size w w') : Own w' B e sz v css :=
  h.kept (bgrown hb) (by cases v.ownBlock <;> simp)

/-- What the program's table says of a slice's type and its elements'. -/
structure EI (P : Program) (t e : TypeId) (z : Value) (size bytes : Nat) : Prop where
  under : P.underlying t = some (.slice e)
  info : (P.info? e).map (fun i => (i.zero, i.size, i.bytes)) = some (some z, size, bytes)
  zs : z.cells.size = size
  pos : 0 < size

theorem cells_new (w : World) (news : List Value) (e : TypeId) : ∀ j u, news[j]? = some u → (w.alloc (.cells news.toArray e)).cell? ((⟨w.heap.size, 0, none⟩ : Addr).add j) = some u := by
  intro j u hj
  rw [Addr.add_lit, Lib.cell_of_heap (heap_alloc_new w _)]
  simpa using hj

/-- 'out = append(out, x)', out of the call's own: x's cells have just been laid into a new block. -/
theorem wpList_append1 {P : Program} {w : World} {ops : Array Oper} {rest : List Oper} {o : Oper} {a : Act} {Q : Exit → Act → World → Prop} {t e : TypeId} {z : Value} {size bytes : Nat} (E : EI P t e z size bytes)
    (hgd : o.guard = none) {s x : Operand} (ho : o.op = .call { callee := .builtin .append, args := #[s, x], argTypes := #[t, t] })
    {B : Nat} {v : Value} {css : List (List Value)} (hown : Own w B e size v css) (hs : a.eval s = v)
    {news : List Value} {c g : Nat} (hx : a.eval x = .slice (some ⟨g, 0, none⟩) 1 c) (hg : g = w.heap.size) (hl : news.length = size) (h1 : ∀ u ∈ news, u.oneCell' = true)
    (hn : css.length + 1 ≤ 1000000000) (hbytes : bytes ≤ 1000) (hbase : B ≤ w.heap.size)
    (h : ∀ v' w', Own w' B e size v' (css ++ [news]) → w.grownBy w' v.ownBlock → wpList P ops Q rest (a.put o.dst v') w') :
    wpList P ops Q (o :: rest) a (w.alloc (.cells news.toArray e)) := by
  subst hg
  obtain ⟨i, hi, hz0, hz1, hz2⟩ := info_parts E.info
  have hb : (css.length + 1) * bytes ≤ 140737488355328 := by
    calc (css.length + 1) * bytes ≤ 1000000000 * 1000 := Nat.mul_le_mul hn hbytes
      _ ≤ 140737488355328 := by decide
  refine wpList_append_own _ hgd s x t ho B e i z size bytes E.under hi hz0 hz1 hz2 E.zs E.pos v css.length css.flatten hs (hown.1.alloc _) ⟨w.heap.size, 0, none⟩ 1 c news hx (by simpa using hl) (cells_new w news e) h1 (by unfold maxLen; omega) hb (by simp; omega) ?_
  intro v' w' h2 h3 _
  refine h v' w' ⟨by simpa using h2, ?_⟩ (grown_trans (World.grownBy_alloc w _ _) h3)
  intro c hc
  rcases List.mem_append.1 hc with hc | hc
  · exact hown.2 c hc
  · simp at hc; subst hc; exact hl

theorem Own.alloc {w : World} {B e sz : Nat} {v : Value} {css : List (List Value)} (h : Own w B e sz v css) (o : Obj) : Own (w.alloc o) B e sz v css := ⟨h.1.alloc o, h.2⟩

theorem Own.drew {w : World} {B e sz : Nat} {v : Value} {css : List (List Value)} (h : Own w B e sz v css) : Own w.drew B e sz v css := h

theorem cell_new (w : World) (cs : List Value) (e : TypeId) {j : Nat} {u : Value} (hj : cs[j]? = some u) : (w.alloc (.cells cs.toArray e)).cell? ⟨w.heap.size, j, none⟩ = some u := by
  rw [Lib.cell_of_heap (heap_alloc_new w _)]
  simpa using hj

/-- a row that has just been laid -/
theorem row_new (w : World) {sz : Nat} {css : List (List Value)} (hs : ∀ c ∈ css, c.length = sz) (e : TypeId) {cs : List Value} (hcs : cs = css.flatten) {g : Nat} (hg : g = w.heap.size) : Row (w.alloc (.cells cs.toArray e)) sz (some ⟨g, 0, none⟩) css := by
  subst hcs hg
  refine fun _ => ⟨_, 0, rfl, fun i c hi j u hj => ?_⟩
  rw [Nat.zero_add]
  exact cell_new w _ e (flatten_at hs hi hj)

theorem Own.ge {w : World} {B e sz : Nat} {v : Value} {css : List (List Value)} (h : Own w B e sz v css) : ∀ k, v.ownBlock = some k → B ≤ k := fun k hk => (h.1.lt k hk).1

theorem bapp {B : Nat} {a w w' : World} {e sz : Nat} {v : Value} {css : List (List Value)} (h : Below B a w) (ho : Own w B e sz v css) (hg : w.grownBy w' v.ownBlock) (hB : B ≤ w.heap.size) : Below B a w' :=
  h.grown hg hB ho.ge

theorem u8_of {a : UInt8} {n : Nat} (hn : n < 256) (h : (a.toNat : Int) = (n : Int)) : a = n.toUInt8 := by
  apply UInt8.toNat_inj.1
  simp
  omega

theorem u8_arg {a : Int} (h : (Lit.int .u8 a).wf = true) : ∃ c : UInt8, a = (c.toNat : Int) := by
  have h' : 0 ≤ a ∧ a ≤ 255 := by simpa [Lit.wf, IntKind.min, IntKind.max, IntKind.signed, IntKind.bits] using h
  refine ⟨a.toNat.toUInt8, ?_⟩
  simp
  omega

theorem i64_arg {a : Int} (h : (Lit.int .i64 a).wf = true) : -9223372036854775808 ≤ a ∧ a ≤ 9223372036854775807 := by
  simpa [Lit.wf, IntKind.min, IntKind.max, IntKind.signed, IntKind.bits] using h

theorem u8_beq {a : UInt8} {n : Int} (h : ((a.toNat : Int) == n) = true) : (a.toNat : Int) = n := by simpa using h
theorem u8_bne {a : UInt8} {n : Int} (h : ((a.toNat : Int) == n) = false) : (a.toNat : Int) ≠ n := by simpa using h

theorem Own.last {w : World} {B e sz : Nat} {v : Value} {css : List (List Value)} {c d : List Value} (h : Own w B e sz v (css ++ [c])) (hcd : c = d) : Own w B e sz v (css ++ [d]) := hcd ▸ h

/-- two owned rows of two types lie apart -/
theorem own_apart {w : World} {B B' e e' sz sz' : Nat} {v v' : Value} {css css' : List (List Value)} (h : Own w B e sz v css) (h' : Own w B' e' sz' v' css') (he : e ≠ e') : v.ownBlock = none ∨ v.ownBlock ≠ v'.ownBlock := by
  rcases h.1.2 with ⟨rfl, _⟩ | ⟨g, cap, cur, rfl, _, hg, _⟩
  · exact .inl rfl
  · rcases h'.1.2 with ⟨rfl, _⟩ | ⟨g', cap', cur', rfl, _, hg', _⟩
    · exact .inr (by simp [Value.ownBlock])
    · refine .inr ?_
      intro e1
      simp only [Value.ownBlock, Option.some.injEq] at e1
      rw [e1, hg'] at hg
      simp only [Option.some.injEq, Obj.cells.injEq] at hg
      exact he hg.2.1.symm

/-- 'string(b)', b an owned row of bytes -/
theorem run_str_own {P : Program} {w : World} {B e : Nat} {v : Value} {l : List UInt8} (h : Own w B e 1 v (l.map fun c => [.int .u8 c.toNat])) (src dst : TypeId)
    (hs : P.underlying src = some (.slice e)) (he : P.underlying e = some (.int .u8)) (hd : P.underlying dst = some .string) : (convert src dst v).run P w = .ok (.string ⟨l.toArray⟩) w := by
  obtain ⟨ao, cap, rfl, _, _, hr, hn⟩ := h.rown (n := l.length) (by simp)
  cases ao with
  | none =>
    have hl : l = [] := by simpa using (hn rfl).1
    subst hl
    exact run_convert_bytes_nil w src e hs he _ _ dst hd
  | some a =>
    by_cases hl : l = []
    · subst hl
      rw [run_convert_bytes_back w src dst e a cap [] hs he hd (by intro j hj; simp at hj)]
    · obtain ⟨b, o, e1, hat⟩ := hr (by simpa using hl)
      injection e1 with e1
      subst e1
      refine run_convert_bytes_back w src dst e _ cap l hs he hd ?_
      intro j hj
      have := hat.cell (i := j) (cs := [.int .u8 l[j].toNat]) (by simp [hj]) (j := 0) (u := .int .u8 l[j].toNat) rfl
      rw [Addr.add_lit]
      simpa using this

/-! ## a label that is jumped back to: the way on from it is walked once -/

theorem wp_scope_loop {P : Program} {a : Act} {w : World} {Q : Exit → Act → World → Prop} {c rest : Code} (l : Nat) (J : Act → World → Prop) (μ : Act → World → Nat) (hf : findLabel c l = some (.seq .skip rest))
    (first : (Hid (∀ a w, J a w → rest.wp P (Exit.jump l J Q) a w)) → c.wp P (Exit.jump l J Q) a w)
    (pass : ∀ a w, J a w → rest.wp P (Exit.jump l (fun a' w' => J a' w' ∧ μ a' w' < μ a w) Q) a w) : (Code.scope c).wp P Q a w :=
  wp_scope_jumps l J μ hf (first fun a w h => Code.wp_mono (fun e a' w' q => by
    cases e <;> first | exact q | exact ⟨q.1, q.2.1⟩) (pass a w h)) fun a w h => wp_seq (wp_skip (pass a w h))

end Go.Proofs.YtllbbacnakoomaaGreatDoor

/- Trees (chapter 19) in plain Lean: what is told of them; and how they lie in memory. Nothing of the program's numbers but the row's size. -/
namespace Go.Proofs.YtllbbacnakoomaaGreatDoor
open Go.RowKit

/-- a tree's node -/
inductive T where
  | mk (kind text : ByteArray) (f o : Int) (kids : List T)

namespace T
def kind : T → ByteArray | .mk k _ _ _ _ => k
def text : T → ByteArray | .mk _ t _ _ _ => t
def from_ : T → Int | .mk _ _ f _ _ => f
def to_ : T → Int | .mk _ _ _ o _ => o
def kids : T → List T | .mk _ _ _ _ ks => ks
end T

theorem T.ind {P : T → Prop} (h : ∀ k t f o ks, (∀ x ∈ ks, P x) → P (.mk k t f o ks)) : ∀ t, P t := by
  intro t
  exact T.rec (motive_1 := P) (motive_2 := fun ks => ∀ x ∈ ks, P x) (fun k t f o ks ih => h k t f o ks ih) (by simp) (fun a l ha hl => by
    intro x hx
    rcases List.mem_cons.1 hx with rfl | hx
    · exact ha
    · exact hl x hx) t

/-! ## in memory -/

/-- a row whose block is one of F -/
def RowF (w : World) (F : Nat → Prop) (sz : Nat) (ao : Option Addr) (css : List (List Value)) : Prop :=
  css ≠ [] → ∃ b o, ao = some ⟨b, o, none⟩ ∧ F b ∧ RowAt w sz b o css

/-- what two worlds have alike: the blocks of F -/
def KeptOn (F : Nat → Prop) (w w' : World) : Prop := ∀ k, F k → k < w.heap.size → w'.heap[k]? = w.heap[k]?

theorem KeptOn.cell {F : Nat → Prop} {w w' : World} (h : KeptOn F w w') {a : Addr} {v : Value} (hf : F a.block) (hc : w.cell? a = some v) : w'.cell? a = some v :=
  (World.cell?_of_block (h a.block hf (cell_lt hc))).trans hc

theorem KeptOn.of_below {F : Nat → Prop} {w w' : World} (h : Below w.heap.size w w') : KeptOn F w w' := fun k _ hk => h.block k hk

theorem RowF.row {w : World} {F : Nat → Prop} {sz : Nat} {ao : Option Addr} {css : List (List Value)} (h : RowF w F sz ao css) : Row w sz ao css :=
  fun hne => let ⟨b, o, e, _, r⟩ := h hne; ⟨b, o, e, r⟩

theorem RowF.later {w w' : World} {F : Nat → Prop} {sz : Nat} {ao : Option Addr} {css : List (List Value)} (h : RowF w F sz ao css) (k : KeptOn F w w') : RowF w' F sz ao css :=
  fun hne => let ⟨b, o, e, f, r⟩ := h hne; ⟨b, o, e, f, fun i cs hi j u hj => k.cell f (r i cs hi j u hj)⟩

mutual
inductive Rep (w : World) (F : Nat → Prop) : T → List Value → Prop
  | mk {k t : ByteArray} {f o : Int} {kids : List T} {ao : Option Addr} {cap : Nat} {css : List (List Value)} (hk : Reps w F kids css) (hr : RowF w F 5 ao css) (hc : kids.length ≤ cap ∧ kids.length ≤ 1000000000) : Rep w F (.mk k t f o kids) [.string k, .string t, .int .i64 f, .int .i64 o, .slice ao kids.length cap]
inductive Reps (w : World) (F : Nat → Prop) : List T → List (List Value) → Prop
  | nil : Reps w F [] []
  | cons {t : T} {cs : List Value} {ts : List T} {css : List (List Value)} (h : Rep w F t cs) (r : Reps w F ts css) : Reps w F (t :: ts) (cs :: css)
end

theorem Reps.len {w : World} {F : Nat → Prop} {ts : List T} {css : List (List Value)} (h : Reps w F ts css) : css.length = ts.length := by
  induction ts generalizing css with
  | nil => cases h; rfl
  | cons t ts ih => cases h with | cons h r => simp [ih r]

theorem Rep.len {w : World} {F : Nat → Prop} {t : T} {cs : List Value} (h : Rep w F t cs) : cs.length = 5 := by cases h; rfl

theorem Rep.one {w : World} {F : Nat → Prop} {t : T} {cs : List Value} (h : Rep w F t cs) : ∀ u ∈ cs, u.oneCell' = true := by
  cases h; intro u hu; simp at hu; rcases hu with rfl | rfl | rfl | rfl | rfl <;> rfl

theorem Reps.at {w : World} {F : Nat → Prop} {ts : List T} {css : List (List Value)} (h : Reps w F ts css) : ∀ {i : Nat} {t : T}, ts[i]? = some t → ∃ cs, css[i]? = some cs ∧ Rep w F t cs := by
  induction ts generalizing css with
  | nil => intro i t hi; simp at hi
  | cons t ts ih =>
    cases h with
    | cons h r =>
      intro i x hi
      cases i with
      | zero => simp at hi; subst hi; exact ⟨_, rfl, h⟩
      | succ i => simp at hi; simpa using ih r hi

theorem Reps.of {w : World} {F : Nat → Prop} : ∀ {ts : List T} {css : List (List Value)}, css.length = ts.length → (∀ (i : Nat) (t : T) (cs : List Value), ts[i]? = some t → css[i]? = some cs → Rep w F t cs) → Reps w F ts css := by
  intro ts
  induction ts with
  | nil => intro css hl _; simp at hl; subst hl; exact .nil
  | cons t ts ih =>
    intro css hl h
    cases css with
    | nil => simp at hl
    | cons c css => exact .cons (h 0 t c rfl rfl) (ih (by simpa using hl) (fun i t' cs' h1 h2 => h (i + 1) t' cs' (by simpa using h1) (by simpa using h2)))

theorem Reps.snoc {w : World} {F : Nat → Prop} {ts : List T} {css : List (List Value)} (h : Reps w F ts css) {t : T} {cs : List Value} (ht : Rep w F t cs) : Reps w F (ts ++ [t]) (css ++ [cs]) := by
  induction ts generalizing css with
  | nil => cases h; exact .cons ht .nil
  | cons x ts ih => cases h with | cons h r => exact .cons h (ih r)

theorem Rep.later {w w' : World} {F : Nat → Prop} (hb : KeptOn F w w') : ∀ {t : T} {cs : List Value}, Rep w F t cs → Rep w' F t cs := by
  intro t
  induction t using T.ind with
  | h k t f o ks ih =>
    intro cs h
    cases h with
    | mk hk hr hc =>
      refine .mk (Reps.of hk.len fun i t cs h1 h2 => ?_) (hr.later hb) hc
      obtain ⟨cs', h3, h4⟩ := hk.at h1
      rw [h2] at h3
      obtain rfl := Option.some.inj h3
      exact ih t (List.mem_of_getElem? h1) h4

theorem Reps.later {w w' : World} {F : Nat → Prop} (hb : KeptOn F w w') {ts : List T} {css : List (List Value)} (h : Reps w F ts css) : Reps w' F ts css :=
  Reps.of h.len fun i t cs h1 h2 => by
    obtain ⟨cs', h3, h4⟩ := h.at h1
    rw [h2] at h3
    obtain rfl := Option.some.inj h3
    exact h4.later hb

theorem RowAt.lt {w : World} {sz b o : Nat} {css : List (List Value)} (h : RowAt w sz b o css) (hne : ∃ (i : Nat) (cs : List Value), css[i]? = some cs ∧ cs ≠ []) : b < w.heap.size := by
  obtain ⟨i, cs, hi, hc⟩ := hne
  obtain ⟨u, l, rfl⟩ := List.exists_cons_of_ne_nil hc
  have := cell_lt (h i _ hi 0 u rfl)
  simpa using this

/-- every tree that lies in a world lies in its blocks -/
theorem Rep.wide {w : World} {F G : Nat → Prop} (hb : ∀ k, F k → k < w.heap.size → G k) : ∀ {t : T} {cs : List Value}, Rep w F t cs → Rep w G t cs := by
  intro t
  induction t using T.ind with
  | h k t f o ks ih =>
    intro cs h
    cases h with
    | @mk _ _ _ _ _ ao cap css hk hr hc =>
      refine .mk (Reps.of hk.len fun i t cs h1 h2 => ?_) (fun hne => ?_) hc
      · obtain ⟨cs', h3, h4⟩ := hk.at h1
        rw [h2] at h3
        obtain rfl := Option.some.inj h3
        exact ih t (List.mem_of_getElem? h1) h4
      · obtain ⟨b, o, e, f, r⟩ := hr hne
        refine ⟨b, o, e, hb b f (r.lt ?_), r⟩
        cases css with
        | nil => exact (hne rfl).elim
        | cons c css =>
          refine ⟨0, c, rfl, fun e0 => ?_⟩
          subst e0
          cases hk with
          | cons h0 _ => have := h0.len; simp at this

theorem Rep.leaf {w : World} {F : Nat → Prop} (k t : ByteArray) (f o : Int) : Rep w F (.mk k t f o []) [.string k, .string t, .int .i64 f, .int .i64 o, .slice none 0 0] :=
  .mk (kids := []) .nil (fun h => (h rfl).elim) ⟨Nat.le_refl _, Nat.zero_le _⟩

theorem bl_inj {a b : ByteArray} (h : a.toList = b.toList) : a = b := by
  rw [ByteArray.toList_eq, ByteArray.toList_eq] at h
  obtain ⟨⟨a⟩⟩ := a
  obtain ⟨⟨b⟩⟩ := b
  simpa using h

/-! ## what is told -/

mutual
def T.out : T → List UInt8
  | .mk k t _ _ ks => 40 :: k.data.toList ++ (if t.size = 0 then [] else 32 :: t.data.toList) ++ T.outs ks ++ [41]
def T.outs : List T → List UInt8
  | [] => []
  | t :: ts => 32 :: T.out t ++ T.outs ts
end

mutual
def T.size : T → Nat
  | .mk _ _ _ _ ks => 1 + T.sizes ks
def T.sizes : List T → Nat
  | [] => 0
  | t :: ts => T.size t + T.sizes ts
end

mutual
def T.leaves : T → List Int
  | .mk _ t f _ ks => (if ks.length = 0 ∧ t.size ≠ 0 then [f] else []) ++ T.leavess ks
def T.leavess : List T → List Int
  | [] => []
  | t :: ts => T.leaves t ++ T.leavess ts
end

mutual
def T.same : T → T → Bool
  | .mk k t f o ks, .mk k' t' f' o' ks' => decide (k = k') && decide (t = t') && decide (f = f') && decide (o = o') && T.sames ks ks'
def T.sames : List T → List T → Bool
  | [], [] => true
  | t :: ts, t' :: ts' => T.same t t' && T.sames ts ts'
  | _, _ => false
end

mutual
/-- all nodes, from the top, from the left -/
def T.pre : T → List T
  | .mk k t f o ks => .mk k t f o ks :: T.pres ks
def T.pres : List T → List T
  | [] => []
  | t :: ts => T.pre t ++ T.pres ts
end

def T.leaf (x : T) : List Int := if x.kids.length = 0 ∧ x.text.size ≠ 0 then [x.from_] else []

theorem T.size_pre : ∀ t : T, T.size t = (T.pre t).length := by
  intro t
  induction t using T.ind with
  | h k t f o ks ih =>
    have : ∀ l : List T, (∀ x ∈ l, T.size x = (T.pre x).length) → T.sizes l = (T.pres l).length := by
      intro l
      induction l with
      | nil => intro _; rfl
      | cons a l il => intro h; simp [T.sizes, T.pres, h a (by simp), il (fun x hx => h x (by simp [hx]))]
    simp [T.size, T.pre, this ks ih, Nat.add_comm]

theorem T.leaves_pre : ∀ t : T, T.leaves t = (T.pre t).flatMap T.leaf := by
  intro t
  induction t using T.ind with
  | h k t f o ks ih =>
    have : ∀ l : List T, (∀ x ∈ l, T.leaves x = (T.pre x).flatMap T.leaf) → T.leavess l = (T.pres l).flatMap T.leaf := by
      intro l
      induction l with
      | nil => intro _; rfl
      | cons a l il => intro h; simp [T.leavess, T.pres, h a (by simp), il (fun x hx => h x (by simp [hx]))]
    simp [T.leaves, T.pre, this ks ih, T.leaf, T.kids, T.text, T.from_]

theorem T.pre_pos (t : T) : 1 ≤ (T.pre t).length := by cases t; simp [T.pre]

def T.has (x : T) (tok : Int) : Prop := x.from_ ≤ tok ∧ tok < x.to_
instance (x : T) (tok : Int) : Decidable (x.has tok) := inferInstanceAs (Decidable (_ ∧ _))

/-- the way down to a token: the kinds of the nodes on it -/
inductive Way (tok : Int) : T → List ByteArray → Prop
  | stop {x : T} (h : ∀ k ∈ x.kids, ¬ k.has tok) : Way tok x [x.kind]
  | go {x y : T} {l : List ByteArray} (i : Nat) (hi : x.kids[i]? = some y) (hy : y.has tok) (hn : ∀ j z, j < i → x.kids[j]? = some z → ¬ z.has tok) (h : Way tok y l) : Way tok x (x.kind :: l)

theorem T.outs_append (a b : List T) : T.outs (a ++ b) = T.outs a ++ T.outs b := by
  induction a with
  | nil => simp [T.outs]
  | cons x a ih => simp [T.outs, ih]

theorem T.sizes_append (a b : List T) : T.sizes (a ++ b) = T.sizes a + T.sizes b := by
  induction a with
  | nil => simp [T.sizes]
  | cons x a ih => simp [T.sizes, ih, Nat.add_assoc]

theorem T.leavess_append (a b : List T) : T.leavess (a ++ b) = T.leavess a ++ T.leavess b := by
  induction a with
  | nil => simp [T.leavess]
  | cons x a ih => simp [T.leavess, ih]

end Go.Proofs.YtllbbacnakoomaaGreatDoor

/- The parser (chapters 18, 20 to 22) in plain Lean: what the program's rules read. -/
namespace Go.Proofs.YtllbbacnakoomaaGreatDoor
set_option linter.unusedVariables false

/-- a token of a program -/
structure Ct where
  (kind : Int) (text file : ByteArray) (f t fro cnt : Int)

/-- scopes: one; one more; a name -/
inductive Ev where
  | new
  | push (e : Ev)
  | decl (e : Ev) (name : ByteArray) (is : Bool)

namespace Ev
def depth : Ev → Nat | .new => 1 | .push e => e.depth + 1 | .decl e _ _ => e.depth
def find (x : ByteArray) : Ev → Option Bool
  | .new => none
  | .push e => e.find x
  | .decl e n b => if n = x ∧ x.size ≠ 0 then some b else e.find x
def isType (e : Ev) (x : ByteArray) : Bool := (e.find x).getD false
def known (e : Ev) (x : ByteArray) : Bool := (e.find x).isSome
/-- ahead of the innermost scope -/
def outside : Ev → Option Ev | .new => none | .push e => some e | .decl e _ _ => e.outside
end Ev

/-- where a rule reads -/
structure Ps where
  (at_ : Int) (env : Ev) (bad : Bool)
namespace Ps
def up (s : Ps) (n : Int) : Ps := { s with at_ := s.at_ + n }
def fail (s : Ps) : Ps := { s with bad := true }
def deep (s : Ps) (nest : Nat) : Bool := s.bad || decide (200 ≤ nest)
def into (s : Ps) (e : Ev) : Ps := { s with env := e }
def declare (s : Ps) (name : ByteArray) (is : Bool) : Ps := if name.size ≠ 0 ∧ s.bad = false then s.into (.decl s.env name is) else s
end Ps

abbrev PO (α : Type) := Option (α × Ps)

def eB : ByteArray := ⟨#[]⟩
def zT : T := .mk ⟨#[]⟩ ⟨#[]⟩ 0 0 []
def endT : Ct := ⟨8, ⟨#[]⟩, ⟨#[]⟩, 0, 0, 0, 0⟩
/-- a token; behind all, and ahead of all, the end -/
def tokP (L : List Ct) (i : Int) : Ct := if 0 ≤ i then L[i.toNat]?.getD endT else endT
def isT (t : Ct) (x : ByteArray) : Bool := decide (t.kind = 7) && decide (t.text = x)
def isP (L : List Ct) (s : Ps) (x : ByteArray) : Bool := isT (tokP L s.at_) x
def behP (L : List Ct) (s : Ps) (x : ByteArray) : Bool := isT (tokP L (s.at_ + 1)) x
def hasP (L : List Ct) (s : Ps) (x : ByteArray) : Bool := !s.bad && isP L s x
def needP (L : List Ct) (s : Ps) (x : ByteArray) : Ps := if hasP L s x then s.up 1 else s.fail
def wordP (L : List Ct) (s : Ps) (x : ByteArray) : Bool := decide ((tokP L s.at_).kind = 2) && decide ((tokP L s.at_).text = x)
def hasW (L : List Ct) (s : Ps) (x : ByteArray) : Bool := !s.bad && wordP L s x
def leafP (L : List Ct) (s : Ps) (kind : ByteArray) : T := .mk kind (tokP L s.at_).text s.at_ (s.at_ + 1) []
def identP (L : List Ct) (s : Ps) (kind : ByteArray) : T × Ps := if s.bad = true ∨ (tokP L s.at_).kind ≠ 1 then (zT, s.fail) else (leafP L s kind, s.up 1)
def mkP (kind text : ByteArray) (fro : Int) (s : Ps) (kids : List T) : T := .mk kind text fro s.at_ kids

def kindRows : List (ByteArray × List ByteArray) := [
  ((⟨#[115, 116, 111, 114, 97, 103, 101]⟩ : ByteArray), [(⟨#[116, 121, 112, 101, 100, 101, 102]⟩ : ByteArray), (⟨#[101, 120, 116, 101, 114, 110]⟩ : ByteArray), (⟨#[115, 116, 97, 116, 105, 99]⟩ : ByteArray), (⟨#[97, 117, 116, 111]⟩ : ByteArray), (⟨#[114, 101, 103, 105, 115, 116, 101, 114]⟩ : ByteArray), (⟨#[95, 84, 104, 114, 101, 97, 100, 95, 108, 111, 99, 97, 108]⟩ : ByteArray)]),
  ((⟨#[102, 117, 110, 99, 116, 105, 111, 110]⟩ : ByteArray), [(⟨#[105, 110, 108, 105, 110, 101]⟩ : ByteArray), (⟨#[95, 78, 111, 114, 101, 116, 117, 114, 110]⟩ : ByteArray)]),
  ((⟨#[113, 117, 97, 108, 105, 102, 105, 101, 114]⟩ : ByteArray), [(⟨#[99, 111, 110, 115, 116]⟩ : ByteArray), (⟨#[118, 111, 108, 97, 116, 105, 108, 101]⟩ : ByteArray), (⟨#[114, 101, 115, 116, 114, 105, 99, 116]⟩ : ByteArray), (⟨#[95, 65, 116, 111, 109, 105, 99]⟩ : ByteArray)]),
  ((⟨#[116, 121, 112, 101]⟩ : ByteArray), [(⟨#[118, 111, 105, 100]⟩ : ByteArray), (⟨#[99, 104, 97, 114]⟩ : ByteArray), (⟨#[115, 104, 111, 114, 116]⟩ : ByteArray), (⟨#[105, 110, 116]⟩ : ByteArray), (⟨#[108, 111, 110, 103]⟩ : ByteArray), (⟨#[102, 108, 111, 97, 116]⟩ : ByteArray), (⟨#[100, 111, 117, 98, 108, 101]⟩ : ByteArray), (⟨#[115, 105, 103, 110, 101, 100]⟩ : ByteArray), (⟨#[117, 110, 115, 105, 103, 110, 101, 100]⟩ : ByteArray), (⟨#[95, 66, 111, 111, 108]⟩ : ByteArray), (⟨#[95, 67, 111, 109, 112, 108, 101, 120]⟩ : ByteArray), (⟨#[95, 73, 109, 97, 103, 105, 110, 97, 114, 121]⟩ : ByteArray)]),
  ((⟨#[97, 108, 105, 103, 110, 97, 115]⟩ : ByteArray), [(⟨#[95, 65, 108, 105, 103, 110, 97, 115]⟩ : ByteArray)]), ((⟨#[115, 116, 114, 117, 99, 116]⟩ : ByteArray), [(⟨#[115, 116, 114, 117, 99, 116]⟩ : ByteArray)]), ((⟨#[117, 110, 105, 111, 110]⟩ : ByteArray), [(⟨#[117, 110, 105, 111, 110]⟩ : ByteArray)]), ((⟨#[101, 110, 117, 109]⟩ : ByteArray), [(⟨#[101, 110, 117, 109]⟩ : ByteArray)])]
/-- what a keyword is among specifiers; empty: none -/
def kindOf (w : ByteArray) : ByteArray := ((kindRows.find? fun r => r.2.any fun x => decide (x = w)).map (·.1)).getD ⟨#[]⟩

def typedP (e : Ev) (t : Ct) : Bool := decide (t.kind = 1) && e.isType t.text
def beginsP (e : Ev) (t : Ct) : Bool := if t.kind = 2 then decide ((kindOf t.text).size ≠ 0) else typedP e t
def startsP (L : List Ct) (s : Ps) : Bool := beginsP s.env (tokP L s.at_)

def assignsL : List ByteArray := [(⟨#[61]⟩ : ByteArray), (⟨#[42, 61]⟩ : ByteArray), (⟨#[47, 61]⟩ : ByteArray), (⟨#[37, 61]⟩ : ByteArray), (⟨#[43, 61]⟩ : ByteArray), (⟨#[45, 61]⟩ : ByteArray), (⟨#[60, 60, 61]⟩ : ByteArray), (⟨#[62, 62, 61]⟩ : ByteArray), (⟨#[38, 61]⟩ : ByteArray), (⟨#[94, 61]⟩ : ByteArray), (⟨#[124, 61]⟩ : ByteArray)]
def levelRows : List (List ByteArray) := [[(⟨#[124, 124]⟩ : ByteArray)], [(⟨#[38, 38]⟩ : ByteArray)], [(⟨#[124]⟩ : ByteArray)], [(⟨#[94]⟩ : ByteArray)], [(⟨#[38]⟩ : ByteArray)], [(⟨#[61, 61]⟩ : ByteArray), (⟨#[33, 61]⟩ : ByteArray)], [(⟨#[60]⟩ : ByteArray), (⟨#[62]⟩ : ByteArray), (⟨#[60, 61]⟩ : ByteArray), (⟨#[62, 61]⟩ : ByteArray)], [(⟨#[60, 60]⟩ : ByteArray), (⟨#[62, 62]⟩ : ByteArray)], [(⟨#[43]⟩ : ByteArray), (⟨#[45]⟩ : ByteArray)], [(⟨#[42]⟩ : ByteArray), (⟨#[47]⟩ : ByteArray), (⟨#[37]⟩ : ByteArray)]]
/-- how strong an operator of two is; 0: it is none -/
def levelT (t : Ct) : Nat := if t.kind = 7 then ((levelRows.findIdx? fun r => r.any fun x => decide (x = t.text)).map (· + 1)).getD 0 else 0

mutual
/-- the name of a declarator -/
def nameT : T → ByteArray
  | .mk k t _ _ ks => if k = (⟨#[110, 97, 109, 101]⟩ : ByteArray) then t else namesT ks
def namesT : List T → ByteArray
  | [] => ⟨#[]⟩
  | x :: r => if x.kind = (⟨#[113, 117, 97, 108, 105, 102, 105, 101, 114]⟩ : ByteArray) then namesT r else nameT x
end

def isTypedefT (specs : T) : Bool := specs.kids.any fun k => decide (k.kind = (⟨#[115, 116, 111, 114, 97, 103, 101]⟩ : ByteArray)) && decide (k.text = (⟨#[116, 121, 112, 101, 100, 101, 102]⟩ : ByteArray))

/-- the rules that call themselves -/
structure Rec where
  expr : Nat → Ps → PO T
  assign : Nat → Ps → PO T
  cond : Nat → Ps → PO (T × Bool)
  binary : Nat → Nat → Ps → PO (T × Bool)
  cast : Nat → Ps → PO (T × Bool)
  unary : Nat → Ps → PO T
  init : Nat → Ps → PO T
  typeName : Nat → Ps → PO T
  specs : Nat → Bool → Ps → PO T
  declr : Nat → Nat → Ps → PO T
  pointer : Nat → Nat → Ps → PO T
  declaration : Nat → Ps → PO T
  stmt : Nat → Ps → PO T
  block : Nat → Ps → PO T

/-- how often a loop may go round -/
def KK : Nat := 5000

section
variable (L : List Ct) (R : Rec)

/-! ## expressions -/

def exprLoop (nest : Nat) : Nat → T → Ps → PO T
  | 0, _, _ => none
  | k + 1, n, s => if hasP L s (⟨#[44]⟩ : ByteArray) then (R.assign (nest + 1) (s.up 1)).bind fun b => exprLoop nest k (mkP (⟨#[99, 111, 109, 109, 97]⟩ : ByteArray) eB n.from_ b.2 [n, b.1]) b.2 else some (n, s)

def exprF (nest : Nat) (s : Ps) : PO T :=
  if s.deep nest then some (zT, s.fail) else (R.assign (nest + 1) s).bind fun r => exprLoop L R nest KK r.1 r.2

def assignF (nest : Nat) (s : Ps) : PO T :=
  if s.deep nest then some (zT, s.fail) else (R.cond (nest + 1) s).bind fun r =>
    if r.2.bad = true ∨ r.1.2 = false ∨ (tokP L r.2.at_).kind ≠ 7 ∨ (assignsL.any fun x => decide (x = (tokP L r.2.at_).text)) = false then some (r.1.1, r.2)
    else (R.assign (nest + 1) (r.2.up 1)).bind fun q => some (mkP (⟨#[97, 115, 115, 105, 103, 110]⟩ : ByteArray) (tokP L r.2.at_).text r.1.1.from_ q.2 [r.1.1, q.1], q.2)

def condF (nest : Nat) (s : Ps) : PO (T × Bool) :=
  if s.deep nest then some ((zT, false), s.fail) else (R.binary 1 (nest + 1) s).bind fun r =>
    if hasP L r.2 (⟨#[63]⟩ : ByteArray) then (R.expr (nest + 1) (r.2.up 1)).bind fun a => (R.cond (nest + 1) (needP L a.2 (⟨#[58]⟩ : ByteArray))).bind fun b => some ((mkP (⟨#[99, 111, 110, 100]⟩ : ByteArray) eB r.1.1.from_ b.2 [r.1.1, a.1, b.1.1], false), b.2)
    else some r

def binLoop (least nest : Nat) : Nat → T × Bool → Ps → PO (T × Bool)
  | 0, _, _ => none
  | k + 1, a, s =>
    if s.bad = true ∨ levelT (tokP L s.at_) = 0 ∨ levelT (tokP L s.at_) < least then some (a, s)
    else (R.binary (levelT (tokP L s.at_) + 1) nest (s.up 1)).bind fun b => binLoop least nest k (mkP (⟨#[98, 105, 110, 97, 114, 121]⟩ : ByteArray) (tokP L s.at_).text a.1.from_ b.2 [a.1, b.1.1], false) b.2

def binaryF (least nest : Nat) (s : Ps) : PO (T × Bool) := (R.cast nest s).bind fun r => binLoop L R least nest KK r.1 r.2

def bracketedP (s : Ps) : Bool := isP L s (⟨#[40]⟩ : ByteArray) && beginsP s.env (tokP L (s.at_ + 1))

def inBrF (nest : Nat) (s : Ps) : PO T := (R.typeName nest (needP L s (⟨#[40]⟩ : ByteArray))).bind fun r => some (r.1, needP L r.2 (⟨#[41]⟩ : ByteArray))

def argsLoop (nest : Nat) : Nat → List T → Ps → PO (List T)
  | 0, _, _ => none
  | k + 1, ks, s => if hasP L s (⟨#[44]⟩ : ByteArray) then (R.assign nest (s.up 1)).bind fun a => argsLoop nest k (ks ++ [a.1]) a.2 else some (ks, s)

def callF (f : T) (nest : Nat) (s : Ps) : PO T :=
  if hasP L s (⟨#[41]⟩ : ByteArray) then some (mkP (⟨#[99, 97, 108, 108]⟩ : ByteArray) eB f.from_ (s.up 1) [f], s.up 1)
  else (R.assign nest s).bind fun a => (argsLoop L R nest KK [f, a.1] a.2).bind fun ks => some (mkP (⟨#[99, 97, 108, 108]⟩ : ByteArray) eB f.from_ (needP L ks.2 (⟨#[41]⟩ : ByteArray)) ks.1, needP L ks.2 (⟨#[41]⟩ : ByteArray))

def postLoop (nest : Nat) : Nat → T → Ps → PO T
  | 0, _, _ => none
  | k + 1, n, s =>
    if s.bad = true then some (n, s)
    else if isP L s (⟨#[91]⟩ : ByteArray) then (R.expr nest (s.up 1)).bind fun b => postLoop nest k (mkP (⟨#[105, 110, 100, 101, 120]⟩ : ByteArray) eB n.from_ (needP L b.2 (⟨#[93]⟩ : ByteArray)) [n, b.1]) (needP L b.2 (⟨#[93]⟩ : ByteArray))
    else if isP L s (⟨#[40]⟩ : ByteArray) then (callF L R n nest (s.up 1)).bind fun c => postLoop nest k c.1 c.2
    else if isP L s (⟨#[46]⟩ : ByteArray) || isP L s (⟨#[45, 62]⟩ : ByteArray) then postLoop nest k (mkP (⟨#[109, 101, 109, 98, 101, 114]⟩ : ByteArray) ((tokP L s.at_).text ++ (identP L (s.up 1) eB).1.text) n.from_ (identP L (s.up 1) eB).2 [n]) (identP L (s.up 1) eB).2
    else if isP L s (⟨#[43, 43]⟩ : ByteArray) || isP L s (⟨#[45, 45]⟩ : ByteArray) then postLoop nest k (mkP (⟨#[112, 111, 115, 116]⟩ : ByteArray) (tokP L s.at_).text n.from_ (s.up 1) [n]) (s.up 1)
    else some (n, s)

def postF (n : T) (nest : Nat) (s : Ps) : PO T := postLoop L R nest KK n s

def literalF (fro : Int) (t : T) (nest : Nat) (s : Ps) : PO T :=
  (R.init nest (if isP L s (⟨#[123]⟩ : ByteArray) then s else s.fail)).bind fun i => postF L R (mkP (⟨#[108, 105, 116, 101, 114, 97, 108]⟩ : ByteArray) eB fro i.2 [t, i.1]) nest i.2

def castF (nest : Nat) (s : Ps) : PO (T × Bool) :=
  if s.bad = true ∨ bracketedP L s = false then (R.unary nest s).bind fun n => some ((n.1, true), n.2)
  else (inBrF L R nest s).bind fun t =>
    if t.2.bad = true ∨ isP L t.2 (⟨#[123]⟩ : ByteArray) = true then (literalF L R s.at_ t.1 nest t.2).bind fun n => some ((n.1, true), n.2)
    else (R.cast nest t.2).bind fun e => some ((mkP (⟨#[99, 97, 115, 116]⟩ : ByteArray) eB s.at_ e.2 [t.1, e.1.1], false), e.2)

def sizeF (fro : Int) (nest : Nat) (s : Ps) : PO T :=
  if bracketedP L s = false then (R.unary nest s).bind fun e => some (mkP (⟨#[115, 105, 122, 101, 111, 102]⟩ : ByteArray) eB fro e.2 [e.1], e.2)
  else (inBrF L R nest s).bind fun e =>
    if e.2.bad = true ∨ isP L e.2 (⟨#[123]⟩ : ByteArray) = false then some (mkP (⟨#[115, 105, 122, 101, 111, 102, 116, 121, 112, 101]⟩ : ByteArray) eB fro e.2 [e.1], e.2)
    else (literalF L R s.at_ e.1 nest e.2).bind fun l => some (mkP (⟨#[115, 105, 122, 101, 111, 102]⟩ : ByteArray) eB fro l.2 [l.1], l.2)

def genNext (nest : Nat) (s : Ps) : PO T :=
  if hasW L s (⟨#[100, 101, 102, 97, 117, 108, 116]⟩ : ByteArray) then (R.assign nest (needP L (s.up 1) (⟨#[58]⟩ : ByteArray))).bind fun a => some (mkP (⟨#[100, 101, 102, 97, 117, 108, 116]⟩ : ByteArray) eB s.at_ a.2 [a.1], a.2)
  else (R.typeName nest s).bind fun t => (R.assign nest (needP L t.2 (⟨#[58]⟩ : ByteArray))).bind fun a => some (mkP (⟨#[97, 115, 115, 111, 99]⟩ : ByteArray) eB s.at_ a.2 [t.1, a.1], a.2)

def genLoop (nest : Nat) : Nat → List T → Ps → PO (List T)
  | 0, _, _ => none
  | k + 1, ks, s => (genNext L R nest s).bind fun a => if hasP L a.2 (⟨#[44]⟩ : ByteArray) then genLoop nest k (ks ++ [a.1]) (a.2.up 1) else some (ks ++ [a.1], a.2)

def genericF (fro : Int) (nest : Nat) (s : Ps) : PO T :=
  (R.assign nest (needP L s (⟨#[40]⟩ : ByteArray))).bind fun a => (genLoop L R nest KK [a.1] (needP L a.2 (⟨#[44]⟩ : ByteArray))).bind fun ks => some (mkP (⟨#[103, 101, 110, 101, 114, 105, 99]⟩ : ByteArray) eB fro (needP L ks.2 (⟨#[41]⟩ : ByteArray)) ks.1, needP L ks.2 (⟨#[41]⟩ : ByteArray))

def primaryF (nest : Nat) (s : Ps) : PO T :=
  if (tokP L s.at_).kind = 1 ∧ s.env.isType (tokP L s.at_).text = false then some (leafP L s (⟨#[110, 97, 109, 101]⟩ : ByteArray), s.up 1)
  else if (tokP L s.at_).kind = 3 then some (leafP L s (⟨#[105, 110, 116]⟩ : ByteArray), s.up 1)
  else if (tokP L s.at_).kind = 4 then some (leafP L s (⟨#[102, 108, 111, 97, 116]⟩ : ByteArray), s.up 1)
  else if (tokP L s.at_).kind = 5 then some (leafP L s (⟨#[99, 104, 97, 114]⟩ : ByteArray), s.up 1)
  else if (tokP L s.at_).kind = 6 then some (leafP L s (⟨#[115, 116, 114, 105, 110, 103]⟩ : ByteArray), s.up 1)
  else if hasW L s (⟨#[95, 71, 101, 110, 101, 114, 105, 99]⟩ : ByteArray) then genericF L R s.at_ nest (s.up 1)
  else if hasP L s (⟨#[40]⟩ : ByteArray) then (R.expr nest (s.up 1)).bind fun e => some (.mk e.1.kind e.1.text s.at_ (needP L e.2 (⟨#[41]⟩ : ByteArray)).at_ e.1.kids, needP L e.2 (⟨#[41]⟩ : ByteArray))
  else some (zT, s.fail)

def unaryF (nest : Nat) (s : Ps) : PO T :=
  if s.bad = true then some (zT, s)
  else if isP L s (⟨#[43, 43]⟩ : ByteArray) || isP L s (⟨#[45, 45]⟩ : ByteArray) then (R.unary nest (s.up 1)).bind fun e => some (mkP (⟨#[112, 114, 101]⟩ : ByteArray) (tokP L s.at_).text s.at_ e.2 [e.1], e.2)
  else if isP L s (⟨#[38]⟩ : ByteArray) || isP L s (⟨#[42]⟩ : ByteArray) || isP L s (⟨#[43]⟩ : ByteArray) || isP L s (⟨#[45]⟩ : ByteArray) || isP L s (⟨#[126]⟩ : ByteArray) || isP L s (⟨#[33]⟩ : ByteArray) then (R.cast nest (s.up 1)).bind fun e => some (mkP (⟨#[117, 110, 97, 114, 121]⟩ : ByteArray) (tokP L s.at_).text s.at_ e.2 [e.1.1], e.2)
  else if wordP L s (⟨#[115, 105, 122, 101, 111, 102]⟩ : ByteArray) then sizeF L R s.at_ nest (s.up 1)
  else if wordP L s (⟨#[95, 65, 108, 105, 103, 110, 111, 102]⟩ : ByteArray) then (inBrF L R nest (s.up 1)).bind fun e => some (mkP (⟨#[97, 108, 105, 103, 110, 111, 102]⟩ : ByteArray) eB s.at_ e.2 [e.1], e.2)
  else if bracketedP L s then (inBrF L R nest s).bind fun e => literalF L R s.at_ e.1 nest e.2
  else (primaryF L R nest s).bind fun p => postF L R p.1 nest p.2

def elLoop (nest : Nat) (fro : Int) : Nat → List T → Ps → PO T
  | 0, _, _ => none
  | k + 1, ks, s =>
    if hasP L s (⟨#[91]⟩ : ByteArray) then (R.cond nest (s.up 1)).bind fun c => elLoop nest fro k (ks ++ [mkP (⟨#[105, 110, 100, 101, 120]⟩ : ByteArray) eB s.at_ (needP L c.2 (⟨#[93]⟩ : ByteArray)) [c.1.1]]) (needP L c.2 (⟨#[93]⟩ : ByteArray))
    else if hasP L s (⟨#[46]⟩ : ByteArray) then elLoop nest fro k (ks ++ [mkP (⟨#[102, 105, 101, 108, 100]⟩ : ByteArray) (identP L (s.up 1) eB).1.text s.at_ (identP L (s.up 1) eB).2 []]) (identP L (s.up 1) eB).2
    else if ks.length = 0 then R.init nest s
    else (R.init nest (needP L s (⟨#[61]⟩ : ByteArray))).bind fun i => some (mkP (⟨#[97, 116]⟩ : ByteArray) eB fro i.2 (ks ++ [i.1]), i.2)

def elementF (nest : Nat) (s : Ps) : PO T := elLoop L R nest s.at_ KK [] s

def initLoop (nest : Nat) : Nat → List T → Ps → PO (List T)
  | 0, _, _ => none
  | k + 1, ks, s =>
    if hasP L s (⟨#[44]⟩ : ByteArray) then if isP L (s.up 1) (⟨#[125]⟩ : ByteArray) then some (ks, s.up 1) else (elementF L R (nest + 1) (s.up 1)).bind fun e => initLoop nest k (ks ++ [e.1]) e.2
    else some (ks, s)

def initF (nest : Nat) (s : Ps) : PO T :=
  if s.deep nest then some (zT, s.fail)
  else if hasP L s (⟨#[123]⟩ : ByteArray) then (elementF L R (nest + 1) (s.up 1)).bind fun e => (initLoop L R nest KK [e.1] e.2).bind fun ks => some (mkP (⟨#[105, 110, 105, 116, 115]⟩ : ByteArray) eB s.at_ (needP L ks.2 (⟨#[125]⟩ : ByteArray)) ks.1, needP L ks.2 (⟨#[125]⟩ : ByteArray))
  else R.assign (nest + 1) s

/-! ## types -/

def alignF (fro : Int) (nest : Nat) (s : Ps) : PO T :=
  (if startsP L (needP L s (⟨#[40]⟩ : ByteArray)) then R.typeName nest (needP L s (⟨#[40]⟩ : ByteArray)) else (R.cond nest (needP L s (⟨#[40]⟩ : ByteArray))).bind fun c => some (c.1.1, c.2)).bind fun n =>
    some (mkP (⟨#[97, 108, 105, 103, 110, 97, 115]⟩ : ByteArray) eB fro (needP L n.2 (⟨#[41]⟩ : ByteArray)) [n.1], needP L n.2 (⟨#[41]⟩ : ByteArray))

def namedP (s : Ps) : ByteArray × Ps := if (tokP L s.at_).kind = 1 then ((tokP L s.at_).text, s.up 1) else (⟨#[]⟩, s)

def assertionF (nest : Nat) (s : Ps) : PO T :=
  (R.cond nest (needP L (s.up 1) (⟨#[40]⟩ : ByteArray))).bind fun c =>
    if (needP L c.2 (⟨#[44]⟩ : ByteArray)).bad = true ∨ (tokP L (needP L c.2 (⟨#[44]⟩ : ByteArray)).at_).kind ≠ 6 then some (zT, (needP L c.2 (⟨#[44]⟩ : ByteArray)).fail)
    else some (mkP (⟨#[97, 115, 115, 101, 114, 116]⟩ : ByteArray) eB s.at_ (needP L (needP L ((needP L c.2 (⟨#[44]⟩ : ByteArray)).up 1) (⟨#[41]⟩ : ByteArray)) (⟨#[59]⟩ : ByteArray)) [c.1.1, leafP L (needP L c.2 (⟨#[44]⟩ : ByteArray)) (⟨#[115, 116, 114, 105, 110, 103]⟩ : ByteArray)], needP L (needP L ((needP L c.2 (⟨#[44]⟩ : ByteArray)).up 1) (⟨#[41]⟩ : ByteArray)) (⟨#[59]⟩ : ByteArray))

def bitsF (nest : Nat) (s : Ps) : PO T :=
  if isP L s (⟨#[58]⟩ : ByteArray) then (if s.bad = true then none else (R.cond nest (s.up 1)).bind fun c => some (mkP (⟨#[98, 105, 116, 115]⟩ : ByteArray) eB s.at_ c.2 [c.1.1], c.2))
  else (R.declr nest 0 s).bind fun d => if hasP L d.2 (⟨#[58]⟩ : ByteArray) then (R.cond nest (d.2.up 1)).bind fun c => some (mkP (⟨#[98, 105, 116, 115]⟩ : ByteArray) eB s.at_ c.2 [d.1, c.1.1], c.2) else some d

def bitsLoop (nest : Nat) : Nat → List T → Ps → PO (List T)
  | 0, _, _ => none
  | k + 1, ks, s => if hasP L s (⟨#[44]⟩ : ByteArray) then (bitsF L R nest (s.up 1)).bind fun a => bitsLoop nest k (ks ++ [a.1]) a.2 else some (ks, s)

def memberR (nest : Nat) (s : Ps) : PO T :=
  (R.specs nest true s).bind fun sp =>
    (if sp.2.bad = true ∨ isP L sp.2 (⟨#[59]⟩ : ByteArray) = true then some ([sp.1], sp.2) else (bitsF L R nest sp.2).bind fun b => bitsLoop L R nest KK [sp.1, b.1] b.2).bind fun ks =>
      some (mkP (⟨#[109, 101, 109, 98, 101, 114]⟩ : ByteArray) eB s.at_ (needP L ks.2 (⟨#[59]⟩ : ByteArray)) ks.1, needP L ks.2 (⟨#[59]⟩ : ByteArray))

def memberF (nest : Nat) (s : Ps) : PO T :=
  if wordP L s (⟨#[95, 83, 116, 97, 116, 105, 99, 95, 97, 115, 115, 101, 114, 116]⟩ : ByteArray) then (if s.deep nest then memberR L R nest s.fail else assertionF L R (nest + 1) s) else memberR L R nest s

def memLoop (nest : Nat) : Nat → List T → Ps → PO (List T)
  | 0, _, _ => none
  | k + 1, ks, s => if s.bad = true ∨ isP L s (⟨#[125]⟩ : ByteArray) = true then some (ks, s) else (memberF L R nest s).bind fun m => memLoop nest k (ks ++ [m.1]) m.2

def membersF (kind : ByteArray) (fro : Int) (nest : Nat) (s : Ps) : PO T :=
  if hasP L (namedP L s).2 (⟨#[123]⟩ : ByteArray) then (memberF L R nest ((namedP L s).2.up 1)).bind fun m => (memLoop L R nest KK [m.1] m.2).bind fun ks =>
    some (mkP kind (namedP L s).1 fro (needP L ks.2 (⟨#[125]⟩ : ByteArray)) ks.1, needP L ks.2 (⟨#[125]⟩ : ByteArray))
  else if (namedP L s).1.size = 0 then some (mkP kind (namedP L s).1 fro (namedP L s).2.fail [], (namedP L s).2.fail)
  else some (mkP kind (namedP L s).1 fro (namedP L s).2 [], (namedP L s).2)

def enumeratorF (nest : Nat) (s : Ps) : PO T :=
  if hasP L ((identP L s eB).2.declare (identP L s eB).1.text false) (⟨#[61]⟩ : ByteArray) then
    (R.cond nest (((identP L s eB).2.declare (identP L s eB).1.text false).up 1)).bind fun c => some (mkP (⟨#[101, 110, 117, 109, 101, 114, 97, 116, 111, 114]⟩ : ByteArray) (identP L s eB).1.text s.at_ c.2 [c.1.1], c.2)
  else some (mkP (⟨#[101, 110, 117, 109, 101, 114, 97, 116, 111, 114]⟩ : ByteArray) (identP L s eB).1.text s.at_ ((identP L s eB).2.declare (identP L s eB).1.text false) [], (identP L s eB).2.declare (identP L s eB).1.text false)

def enumLoop (nest : Nat) : Nat → List T → Ps → PO (List T)
  | 0, _, _ => none
  | k + 1, ks, s =>
    if hasP L s (⟨#[44]⟩ : ByteArray) then if isP L (s.up 1) (⟨#[125]⟩ : ByteArray) then some (ks, s.up 1) else (enumeratorF L R nest (s.up 1)).bind fun e => enumLoop nest k (ks ++ [e.1]) e.2
    else some (ks, s)

def namesF (fro : Int) (nest : Nat) (s : Ps) : PO T :=
  if hasP L (namedP L s).2 (⟨#[123]⟩ : ByteArray) then (enumeratorF L R nest ((namedP L s).2.up 1)).bind fun m => (enumLoop L R nest KK [m.1] m.2).bind fun ks =>
    some (mkP (⟨#[101, 110, 117, 109]⟩ : ByteArray) (namedP L s).1 fro (needP L ks.2 (⟨#[125]⟩ : ByteArray)) ks.1, needP L ks.2 (⟨#[125]⟩ : ByteArray))
  else if (namedP L s).1.size = 0 then some (mkP (⟨#[101, 110, 117, 109]⟩ : ByteArray) (namedP L s).1 fro (namedP L s).2.fail [], (namedP L s).2.fail)
  else some (mkP (⟨#[101, 110, 117, 109]⟩ : ByteArray) (namedP L s).1 fro (namedP L s).2 [], (namedP L s).2)

/-- the next specifier: node, is there one, does a type stand ahead now -/
def oneF (nest : Nat) (plain typed : Bool) (s : Ps) : PO (T × Bool × Bool) :=
  if typedP s.env (tokP L s.at_) = true ∧ typed = false then some ((leafP L s (⟨#[116, 121, 112, 101, 110, 97, 109, 101]⟩ : ByteArray), true, true), s.up 1)
  else if (tokP L s.at_).kind ≠ 2 then some ((zT, false, typed), s)
  else if kindOf (tokP L s.at_).text = (⟨#[115, 116, 111, 114, 97, 103, 101]⟩ : ByteArray) ∨ kindOf (tokP L s.at_).text = (⟨#[102, 117, 110, 99, 116, 105, 111, 110]⟩ : ByteArray) then
    (if plain then some ((zT, false, typed), s.fail) else some ((leafP L s (kindOf (tokP L s.at_).text), true, typed), s.up 1))
  else if kindOf (tokP L s.at_).text = (⟨#[116, 121, 112, 101]⟩ : ByteArray) then some ((leafP L s (⟨#[116, 121, 112, 101]⟩ : ByteArray), true, true), s.up 1)
  else if kindOf (tokP L s.at_).text = (⟨#[97, 108, 105, 103, 110, 97, 115]⟩ : ByteArray) then (alignF L R s.at_ nest (s.up 1)).bind fun n => some ((n.1, true, typed), n.2)
  else if kindOf (tokP L s.at_).text = (⟨#[115, 116, 114, 117, 99, 116]⟩ : ByteArray) ∨ kindOf (tokP L s.at_).text = (⟨#[117, 110, 105, 111, 110]⟩ : ByteArray) then (membersF L R (kindOf (tokP L s.at_).text) s.at_ nest (s.up 1)).bind fun n => some ((n.1, true, true), n.2)
  else if kindOf (tokP L s.at_).text = (⟨#[101, 110, 117, 109]⟩ : ByteArray) then (namesF L R s.at_ nest (s.up 1)).bind fun n => some ((n.1, true, true), n.2)
  else if kindOf (tokP L s.at_).text = (⟨#[113, 117, 97, 108, 105, 102, 105, 101, 114]⟩ : ByteArray) then
    (if (tokP L s.at_).text = (⟨#[95, 65, 116, 111, 109, 105, 99]⟩ : ByteArray) ∧ behP L s (⟨#[40]⟩ : ByteArray) = true then (inBrF L R nest (s.up 1)).bind fun x => some ((mkP (⟨#[97, 116, 111, 109, 105, 99]⟩ : ByteArray) eB s.at_ x.2 [x.1], true, true), x.2)
     else some ((leafP L s (⟨#[113, 117, 97, 108, 105, 102, 105, 101, 114]⟩ : ByteArray), true, typed), s.up 1))
  else some ((zT, false, typed), s)

def spLoop (nest : Nat) (plain : Bool) : Nat → List T → Bool → Ps → PO (List T)
  | 0, _, _, _ => none
  | k + 1, ks, typed, s =>
    if s.deep nest then some (ks, s.fail)
    else (oneF L R (nest + 1) plain typed s).bind fun o => if o.1.2.1 then spLoop nest plain k (ks ++ [o.1.1]) o.1.2.2 o.2 else some (ks, o.2)

def specsF (nest : Nat) (plain : Bool) (s : Ps) : PO T :=
  (spLoop L R nest plain KK [] false s).bind fun ks => if ks.1.length = 0 then some (mkP (⟨#[115, 112, 101, 99, 115]⟩ : ByteArray) eB s.at_ ks.2.fail ks.1, ks.2.fail) else some (mkP (⟨#[115, 112, 101, 99, 115]⟩ : ByteArray) eB s.at_ ks.2 ks.1, ks.2)

def typeNameF (nest : Nat) (s : Ps) : PO T :=
  if s.deep nest then some (zT, s.fail)
  else (R.specs (nest + 1) true s).bind fun a => (R.declr (nest + 1) 1 a.2).bind fun d => some (mkP (⟨#[116, 121, 112, 101, 110, 97, 109, 101]⟩ : ByteArray) eB s.at_ d.2 [a.1, d.1], d.2)

def declrF (nest mode : Nat) (s : Ps) : PO T := if s.deep nest then some (zT, s.fail) else R.pointer (nest + 1) mode s

def qualB (t : Ct) : Bool := decide (t.kind = 2) && decide (kindOf t.text = (⟨#[113, 117, 97, 108, 105, 102, 105, 101, 114]⟩ : ByteArray))
def qualLoop : Nat → List T → Ps → PO (List T)
  | 0, _, _ => none
  | k + 1, ks, s => if qualB (tokP L s.at_) then qualLoop k (ks ++ [leafP L s (⟨#[113, 117, 97, 108, 105, 102, 105, 101, 114]⟩ : ByteArray)]) (s.up 1) else some (ks, s)
def qualsF (s : Ps) : PO (List T) := qualLoop L KK [] s

def staticLoop : Nat → Ps → Option Ps
  | 0, _ => none
  | k + 1, s => if hasW L s (⟨#[115, 116, 97, 116, 105, 99]⟩ : ByteArray) then staticLoop k (s.up 1) else (qualsF L s).bind fun q => if q.1.length = 0 then some q.2 else staticLoop k q.2

def arrayF (d : T) (nest : Nat) (s0 : Ps) : PO T :=
  (staticLoop L KK s0).bind fun s =>
    (if isP L s (⟨#[42]⟩ : ByteArray) = true ∧ behP L s (⟨#[93]⟩ : ByteArray) = true then some ([d, T.mk (⟨#[115, 116, 97, 114]⟩ : ByteArray) eB s.at_ (s.at_ + 1) []], s.up 1)
     else if isP L s (⟨#[93]⟩ : ByteArray) then some ([d], s)
     else (R.assign nest s).bind fun a => some ([d, a.1], a.2)).bind fun ks => some (mkP (⟨#[97, 114, 114, 97, 121]⟩ : ByteArray) eB d.from_ (needP L ks.2 (⟨#[93]⟩ : ByteArray)) ks.1, needP L ks.2 (⟨#[93]⟩ : ByteArray))

def paramLoop (nest : Nat) : Nat → List T → Ps → PO (List T)
  | 0, _, _ => none
  | k + 1, ks, s => (R.specs nest false s).bind fun sp => (R.declr nest 2 sp.2).bind fun d =>
      if hasP L (d.2.declare (nameT d.1) false) (⟨#[44]⟩ : ByteArray) then
        (if hasP L ((d.2.declare (nameT d.1) false).up 1) (⟨#[46, 46, 46]⟩ : ByteArray) then
          some (ks ++ [mkP (⟨#[112, 97, 114, 97, 109]⟩ : ByteArray) eB s.at_ d.2 [sp.1, d.1]] ++ [mkP (⟨#[100, 111, 116, 115]⟩ : ByteArray) eB ((d.2.declare (nameT d.1) false).up 1).at_ (((d.2.declare (nameT d.1) false).up 1).up 1) []], ((d.2.declare (nameT d.1) false).up 1).up 1)
         else paramLoop nest k (ks ++ [mkP (⟨#[112, 97, 114, 97, 109]⟩ : ByteArray) eB s.at_ d.2 [sp.1, d.1]]) ((d.2.declare (nameT d.1) false).up 1))
      else some (ks ++ [mkP (⟨#[112, 97, 114, 97, 109]⟩ : ByteArray) eB s.at_ d.2 [sp.1, d.1]], d.2.declare (nameT d.1) false)

def idLoop : Nat → List T → Ps → PO (List T)
  | 0, _, _ => none
  | k + 1, ks, s =>
    if hasP L (identP L (if typedP s.env (tokP L s.at_) then s.fail else s) (⟨#[105, 100]⟩ : ByteArray)).2 (⟨#[44]⟩ : ByteArray) then
      idLoop k (ks ++ [(identP L (if typedP s.env (tokP L s.at_) then s.fail else s) (⟨#[105, 100]⟩ : ByteArray)).1]) ((identP L (if typedP s.env (tokP L s.at_) then s.fail else s) (⟨#[105, 100]⟩ : ByteArray)).2.up 1)
    else some (ks ++ [(identP L (if typedP s.env (tokP L s.at_) then s.fail else s) (⟨#[105, 100]⟩ : ByteArray)).1], (identP L (if typedP s.env (tokP L s.at_) then s.fail else s) (⟨#[105, 100]⟩ : ByteArray)).2)

def paramsIn (d : T) (nest mode : Nat) (s : Ps) : PO (List T) :=
  if isP L s (⟨#[41]⟩ : ByteArray) then some ([d], s)
  else if wordP L s (⟨#[118, 111, 105, 100]⟩ : ByteArray) = true ∧ behP L s (⟨#[41]⟩ : ByteArray) = true then some ([d], s.up 1)
  else if startsP L s then paramLoop L R nest KK [d] s
  else if mode = 0 ∧ (tokP L s.at_).kind = 1 then idLoop L KK [d] s
  else some ([d], s.fail)

def paramsF (d : T) (nest mode : Nat) (s : Ps) : PO T :=
  (paramsIn L R d nest mode (s.into (.push s.env))).bind fun ks => some (mkP (⟨#[102, 117, 110, 99]⟩ : ByteArray) eB d.from_ (needP L ks.2 (⟨#[41]⟩ : ByteArray)) ks.1, (needP L ks.2 (⟨#[41]⟩ : ByteArray)).into s.env)

def dirLoop (nest mode : Nat) : Nat → T → Ps → PO T
  | 0, _, _ => none
  | k + 1, d, s =>
    if s.bad = true then some (d, s)
    else if isP L s (⟨#[91]⟩ : ByteArray) then (arrayF L R d nest (s.up 1)).bind fun a => dirLoop nest mode k a.1 a.2
    else if isP L s (⟨#[40]⟩ : ByteArray) then (paramsF L R d nest mode (s.up 1)).bind fun a => dirLoop nest mode k a.1 a.2
    else some (d, s)

def innerP (mode : Nat) (s : Ps) : Bool :=
  isP L s (⟨#[40]⟩ : ByteArray) && (decide (mode = 0) || behP L s (⟨#[42]⟩ : ByteArray) || behP L s (⟨#[40]⟩ : ByteArray) || behP L s (⟨#[91]⟩ : ByteArray) || decide (mode = 2) && decide ((tokP L (s.at_ + 1)).kind = 1) && !typedP s.env (tokP L (s.at_ + 1)))

def directF (nest mode : Nat) (s : Ps) : PO T :=
  if mode ≠ 1 ∧ (tokP L s.at_).kind = 1 then dirLoop L R nest mode KK (leafP L s (⟨#[110, 97, 109, 101]⟩ : ByteArray)) (s.up 1)
  else if innerP L mode s then (R.declr nest mode (s.up 1)).bind fun d => dirLoop L R nest mode KK (.mk d.1.kind d.1.text s.at_ (needP L d.2 (⟨#[41]⟩ : ByteArray)).at_ d.1.kids) (needP L d.2 (⟨#[41]⟩ : ByteArray))
  else if mode = 0 then some (zT, s.fail)
  else dirLoop L R nest mode KK (mkP (⟨#[110, 111, 110, 101]⟩ : ByteArray) eB s.at_ s []) s

def pointerF (nest mode : Nat) (s : Ps) : PO T :=
  if hasP L s (⟨#[42]⟩ : ByteArray) then (qualsF L (s.up 1)).bind fun q => (R.pointer nest mode q.2).bind fun p => some (mkP (⟨#[112, 111, 105, 110, 116, 101, 114]⟩ : ByteArray) eB s.at_ p.2 (q.1 ++ [p.1]), p.2)
  else directF L R nest mode s

/-! ## declarations, statements -/

def restLoop (nest : Nat) : Nat → List T → T → Ps → PO (List T)
  | 0, _, _, _ => none
  | k + 1, ks, d, s =>
    (if hasP L s (⟨#[61]⟩ : ByteArray) then (R.init nest (s.up 1)).bind fun i => some (mkP (⟨#[105, 110, 105, 116]⟩ : ByteArray) eB d.from_ i.2 [d, i.1], i.2) else some (d, s)).bind fun x =>
      if hasP L x.2 (⟨#[44]⟩ : ByteArray) then (R.declr nest 0 (x.2.up 1)).bind fun e => restLoop nest k (ks ++ [x.1]) e.1 (e.2.declare (nameT e.1) (isTypedefT (ks.headD zT)))
      else some (ks ++ [x.1], x.2)

def declarationF (nest : Nat) (s : Ps) : PO T :=
  if s.deep nest then some (zT, s.fail)
  else if wordP L s (⟨#[95, 83, 116, 97, 116, 105, 99, 95, 97, 115, 115, 101, 114, 116]⟩ : ByteArray) then assertionF L R (nest + 1) s
  else (R.specs (nest + 1) false s).bind fun sp =>
    (if sp.2.bad = true ∨ isP L sp.2 (⟨#[59]⟩ : ByteArray) = true then some ([sp.1], sp.2)
     else (R.declr (nest + 1) 0 sp.2).bind fun d => restLoop L R (nest + 1) KK [sp.1] d.1 (d.2.declare (nameT d.1) (isTypedefT sp.1))).bind fun ks =>
      some (mkP (⟨#[100, 101, 99, 108, 97, 114, 101]⟩ : ByteArray) eB s.at_ (needP L ks.2 (⟨#[59]⟩ : ByteArray)) ks.1, needP L ks.2 (⟨#[59]⟩ : ByteArray))

def itemLoop (nest : Nat) : Nat → List T → Ps → PO (List T)
  | 0, _, _ => none
  | k + 1, ks, s =>
    if s.bad = true ∨ isP L s (⟨#[125]⟩ : ByteArray) = true then some (ks, s)
    else (if wordP L s (⟨#[95, 83, 116, 97, 116, 105, 99, 95, 97, 115, 115, 101, 114, 116]⟩ : ByteArray) || startsP L s && !(decide ((tokP L s.at_).kind = 1) && behP L s (⟨#[58]⟩ : ByteArray)) then R.declaration nest s else R.stmt nest s).bind fun m => itemLoop nest k (ks ++ [m.1]) m.2

def itemsF (nest : Nat) (s : Ps) : PO T :=
  (itemLoop L R nest KK [] (needP L s (⟨#[123]⟩ : ByteArray))).bind fun ks => some (mkP (⟨#[98, 108, 111, 99, 107]⟩ : ByteArray) eB s.at_ (needP L ks.2 (⟨#[125]⟩ : ByteArray)) ks.1, needP L ks.2 (⟨#[125]⟩ : ByteArray))

def blockF (nest : Nat) (s : Ps) : PO T :=
  if s.deep nest then some (zT, s.fail) else (itemsF L R (nest + 1) (s.into (.push s.env))).bind fun n => some (n.1, n.2.into s.env)

def inParF (nest : Nat) (s : Ps) : PO T := (R.expr nest (needP L s (⟨#[40]⟩ : ByteArray))).bind fun r => some (r.1, needP L r.2 (⟨#[41]⟩ : ByteArray))

def perhapsF (nest : Nat) (x : ByteArray) (s : Ps) : PO T :=
  if isP L s x then some (mkP (⟨#[110, 111, 110, 101]⟩ : ByteArray) eB s.at_ s [], needP L s x) else (R.expr nest s).bind fun e => some (e.1, needP L e.2 x)

def loopF (nest : Nat) (s : Ps) : PO (List T) :=
  (if (needP L (s.into (.push s.env)) (⟨#[40]⟩ : ByteArray)).bad = false ∧ startsP L (needP L (s.into (.push s.env)) (⟨#[40]⟩ : ByteArray)) = true then R.declaration nest (needP L (s.into (.push s.env)) (⟨#[40]⟩ : ByteArray)) else perhapsF L R nest (⟨#[59]⟩ : ByteArray) (needP L (s.into (.push s.env)) (⟨#[40]⟩ : ByteArray))).bind fun a =>
    (perhapsF L R nest (⟨#[59]⟩ : ByteArray) a.2).bind fun b => (perhapsF L R nest (⟨#[41]⟩ : ByteArray) b.2).bind fun c => (R.stmt nest c.2).bind fun d => some ([a.1, b.1, c.1, d.1], d.2.into s.env)

/-- what a keyword's statement has; s: behind the keyword -/
def wordIn (nest : Nat) (w : ByteArray) (s : Ps) : PO (List T) :=
  if w = (⟨#[99, 97, 115, 101]⟩ : ByteArray) then (R.cond nest s).bind fun c => (R.stmt nest (needP L c.2 (⟨#[58]⟩ : ByteArray))).bind fun t => some ([c.1.1, t.1], t.2)
  else if w = (⟨#[100, 101, 102, 97, 117, 108, 116]⟩ : ByteArray) then (R.stmt nest (needP L s (⟨#[58]⟩ : ByteArray))).bind fun t => some ([t.1], t.2)
  else if w = (⟨#[105, 102]⟩ : ByteArray) then (inParF L R nest s).bind fun c => (R.stmt nest c.2).bind fun t => if hasW L t.2 (⟨#[101, 108, 115, 101]⟩ : ByteArray) then (R.stmt nest (t.2.up 1)).bind fun u => some ([c.1, t.1, u.1], u.2) else some ([c.1, t.1], t.2)
  else if w = (⟨#[115, 119, 105, 116, 99, 104]⟩ : ByteArray) ∨ w = (⟨#[119, 104, 105, 108, 101]⟩ : ByteArray) then (inParF L R nest s).bind fun c => (R.stmt nest c.2).bind fun t => some ([c.1, t.1], t.2)
  else if w = (⟨#[100, 111]⟩ : ByteArray) then (R.stmt nest s).bind fun t => (inParF L R nest (if hasW L t.2 (⟨#[119, 104, 105, 108, 101]⟩ : ByteArray) then t.2.up 1 else t.2.fail)).bind fun c => some ([t.1, c.1], needP L c.2 (⟨#[59]⟩ : ByteArray))
  else if w = (⟨#[102, 111, 114]⟩ : ByteArray) then loopF L R nest s
  else if w = (⟨#[99, 111, 110, 116, 105, 110, 117, 101]⟩ : ByteArray) ∨ w = (⟨#[98, 114, 101, 97, 107]⟩ : ByteArray) then some ([], needP L s (⟨#[59]⟩ : ByteArray))
  else (if isP L s (⟨#[59]⟩ : ByteArray) then some ([], needP L s (⟨#[59]⟩ : ByteArray)) else (R.expr nest s).bind fun e => some ([e.1], needP L e.2 (⟨#[59]⟩ : ByteArray)))

def stmtWords : List ByteArray := [(⟨#[99, 97, 115, 101]⟩ : ByteArray), (⟨#[100, 101, 102, 97, 117, 108, 116]⟩ : ByteArray), (⟨#[105, 102]⟩ : ByteArray), (⟨#[115, 119, 105, 116, 99, 104]⟩ : ByteArray), (⟨#[119, 104, 105, 108, 101]⟩ : ByteArray), (⟨#[100, 111]⟩ : ByteArray), (⟨#[102, 111, 114]⟩ : ByteArray), (⟨#[99, 111, 110, 116, 105, 110, 117, 101]⟩ : ByteArray), (⟨#[98, 114, 101, 97, 107]⟩ : ByteArray), (⟨#[114, 101, 116, 117, 114, 110]⟩ : ByteArray)]

/-- a statement that begins with a keyword; false: it does not -/
def wordF (nest : Nat) (w : ByteArray) (s : Ps) : PO (T × Bool) :=
  if w = (⟨#[103, 111, 116, 111]⟩ : ByteArray) then some ((mkP w (identP L (s.up 1) eB).1.text s.at_ (needP L (identP L (s.up 1) eB).2 (⟨#[59]⟩ : ByteArray)) [], true), needP L (identP L (s.up 1) eB).2 (⟨#[59]⟩ : ByteArray))
  else if stmtWords.any fun x => decide (x = w) then (wordIn L R nest w (s.up 1)).bind fun ks => some ((mkP w eB s.at_ ks.2 ks.1, true), ks.2)
  else some ((zT, false), s)

def exprS (nest : Nat) (s : Ps) : PO T := (R.expr nest s).bind fun e => some (mkP (⟨#[101, 120, 112, 114]⟩ : ByteArray) eB s.at_ (needP L e.2 (⟨#[59]⟩ : ByteArray)) [e.1], needP L e.2 (⟨#[59]⟩ : ByteArray))

def stmtF (nest : Nat) (s : Ps) : PO T :=
  if s.deep nest then some (zT, s.fail)
  else if isP L s (⟨#[123]⟩ : ByteArray) then R.block (nest + 1) s
  else if (tokP L s.at_).kind = 1 ∧ behP L s (⟨#[58]⟩ : ByteArray) = true then (R.stmt (nest + 1) (s.up 2)).bind fun x => some (mkP (⟨#[108, 97, 98, 101, 108]⟩ : ByteArray) (tokP L s.at_).text s.at_ x.2 [x.1], x.2)
  else if hasP L s (⟨#[59]⟩ : ByteArray) then some (mkP (⟨#[101, 109, 112, 116, 121]⟩ : ByteArray) eB s.at_ (s.up 1) [], s.up 1)
  else if (tokP L s.at_).kind = 2 then (wordF L R (nest + 1) (tokP L s.at_).text s).bind fun r => if r.1.2 then some (r.1.1, r.2) else exprS L R (nest + 1) r.2
  else exprS L R (nest + 1) s

def stepR : Rec where
  expr := exprF L R
  assign := assignF L R
  cond := condF L R
  binary := binaryF L R
  cast := castF L R
  unary := unaryF L R
  init := initF L R
  typeName := typeNameF R
  specs := specsF L R
  declr := declrF R
  pointer := pointerF L R
  declaration := declarationF L R
  stmt := stmtF L R
  block := blockF L R
end

def recN (L : List Ct) : Nat → Rec
  | 0 => ⟨fun _ _ => none, fun _ _ => none, fun _ _ => none, fun _ _ _ => none, fun _ _ => none, fun _ _ => none, fun _ _ => none, fun _ _ => none, fun _ _ _ => none, fun _ _ _ => none, fun _ _ _ => none, fun _ _ => none, fun _ _ => none, fun _ _ => none⟩
  | n + 1 => stepR L (recN L n)
end Go.Proofs.YtllbbacnakoomaaGreatDoor

/- A text's quotes and backslashes with a backslash ahead, in plain Lean. -/
namespace Go.Proofs.YtllbbacnakoomaaGreatDoor
open Go.RowKit
set_option linter.unusedVariables false

def escB (c : UInt8) : Bool := c == 34 || c == 92
def escC (c : UInt8) : List UInt8 := if escB c then [92, c] else [c]
def escL (s : List UInt8) : List UInt8 := s.flatMap escC
def escN (s : List UInt8) : Nat := s.countP escB

theorem escL_len (s : List UInt8) : (escL s).length = s.length + escN s := by
  induction s with
  | nil => rfl
  | cons c s ih =>
    unfold escL escN at *
    rw [List.flatMap_cons, List.length_append, ih, List.countP_cons]
    unfold escC
    cases escB c <;> simp <;> omega

theorem escL_none {s : List UInt8} (h : escN s = 0) : escL s = s := by
  induction s with
  | nil => rfl
  | cons c s ih =>
    unfold escN at h ih
    rw [List.countP_cons] at h
    have hc : escB c = false := by
      cases e : escB c with
      | false => rfl
      | true => rw [e] at h; simp at h
    have hs : List.countP escB s = 0 := by omega
    unfold escL at *
    rw [List.flatMap_cons, ih hs]
    unfold escC
    rw [hc]
    rfl

theorem escL_take {s : List UInt8} {i : Nat} {c : UInt8} (h : s[i]? = some c) : escL (s.take (i + 1)) = escL (s.take i) ++ escC c := by
  unfold escL
  rw [List.take_add_one, h, List.flatMap_append]
  simp
theorem escN_take {s : List UInt8} {i : Nat} {c : UInt8} (h : s[i]? = some c) : escN (s.take (i + 1)) = escN (s.take i) + if escB c then 1 else 0 := by
  unfold escN
  rw [List.take_add_one, h, List.countP_append]
  cases e : escB c <;> simp [e]
theorem escN_le (s : List UInt8) : escN s ≤ s.length := List.countP_le_length
theorem escN_take_le (s : List UInt8) (i : Nat) : escN (s.take i) ≤ escN s := by
  unfold escN
  conv => rhs; rw [← List.take_append_drop i s, List.countP_append]
  omega
end Go.Proofs.YtllbbacnakoomaaGreatDoor
