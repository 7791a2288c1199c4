/- Texts of this seat's proofs, laid into one file. -/
import Derived.Test.YtllbbacnakoomaaGreatDoorProg
import Derived.WalkKit
import Derived.WalkSmall
import Derived.BigQuiet
import Derived.BigGuardPart
import Derived.WalkSpells
import Derived.Lib.Hide
import Derived.Lib.Builder
set_option maxRecDepth 100000
set_option maxHeartbeats 16000000
namespace Go.Proofs.YtllbbacnakoomaaGreatDoor
open Go.RowKit
theorem Hd {p : Prop} (h : p) : Hid p := h
theorem cell_lt {w : World} {a : Addr} {v : Value} (h : w.cell? a = some v) : a.block < w.heap.size := World.block_lt_of_cell? w a h
theorem kept_cell {w w' : World} (hb : Below w.heap.size w w') {a : Addr} {v : Value} (h : w.cell? a = some v) : w'.cell? a = some v :=
 (hb.cell (cell_lt h)).trans h
theorem bstep {B : Nat} {w w1 w2 : World} (h1 : Below B w w1) (h2 : Below w1.heap.size w1 w2) (hB : B ≤ w1.heap.size) : Below B w w2 :=
 h1.trans (h2.mono hB)
theorem grown_trans {a b c : World} {row : Option Nat} (h : a.grownBy b row) (k : b.grownBy c row) : a.grownBy c row :=
 ⟨k.os.trans h.os, k.tape.trans h.tape, k.output.trans h.output, Nat.le_trans h.size k.size, fun i hi hr => (k.block i (Nat.lt_of_lt_of_le hi h.size) hr).trans (h.block i hi hr)⟩
def RowAt (w : World) (sz : Nat) (b o : Nat) (css : List (List Value)) : Prop :=
 ∀ i cs, css[i]? = some cs → ∀ j u, cs[j]? = some u → w.cell? ⟨b, o + i * sz + j, none⟩ = some u
def Row (w : World) (sz : Nat) (ao : Option Addr) (css : List (List Value)) : Prop :=
 css ≠ [] → ∃ b o, ao = some ⟨b, o, none⟩ ∧ RowAt w sz b o css
theorem RowAt.cell {w : World} {sz b o : Nat} {css : List (List Value)} (h : RowAt w sz b o css) {i : Nat} {cs : List Value} (hi : css[i]? = some cs) {j : Nat} {u : Value} (hj : cs[j]? = some u) :
 w.cell? ⟨b, o + i * sz + j, none⟩ = some u := h i cs hi j u hj
theorem RowAt.below {w w' : World} {sz b o : Nat} {css : List (List Value)} (h : RowAt w sz b o css) (hb : Below w.heap.size w w') : RowAt w' sz b o css :=
 fun i cs hi j u hj => kept_cell hb (h i cs hi j u hj)
theorem Row.below {w w' : World} {sz : Nat} {ao : Option Addr} {css : List (List Value)} (h : Row w sz ao css) (hb : Below w.heap.size w w') : Row w' sz ao css :=
 fun hne => let ⟨b, o, e, r⟩ := h hne; ⟨b, o, e, r.below hb⟩
theorem Row.nil (w : World) (sz : Nat) (ao : Option Addr) : Row w sz ao [] := fun h => (h rfl).elim
theorem flatten_at {css : List (List Value)} {sz : Nat} (hs : ∀ c ∈ css, c.length = sz) : ∀ {i : Nat} {cs : List Value}, css[i]? = some cs → ∀ {j : Nat} {u : Value}, cs[j]? = some u → css.flatten[i * sz + j]? = some u := by
 induction css with
 | nil => intro i cs hi; simp at hi
 | cons c r ih =>
   intro i cs hi j u hj
   have hc : c.length = sz := hs c (by simp)
   cases i with
   | zero =>
     simp only [List.getElem?_cons_zero, Option.some.injEq] at hi
     subst hi
     have hlt : j < c.length := (List.getElem?_eq_some_iff.1 hj).1
     simp only [List.flatten_cons, Nat.zero_mul, Nat.zero_add]
     rw [List.getElem?_append_left hlt]
     exact hj
   | succ i =>
     simp only [List.getElem?_cons_succ] at hi
     have := ih (fun c hc => hs c (by simp [hc])) hi hj
     simp only [List.flatten_cons]
     rw [List.getElem?_append_right (by rw [hc, Nat.add_mul]; omega)]
     rw [show (i + 1) * sz + j - c.length = i * sz + j by rw [hc, Nat.add_mul]; omega]
     exact this
theorem flatten_len {css : List (List Value)} {sz : Nat} (hs : ∀ c ∈ css, c.length = sz) : css.flatten.length = css.length * sz := by
 induction css with
 | nil => simp
 | cons c r ih =>
   simp only [List.flatten_cons, List.length_append, List.length_cons]
   rw [ih (fun c hc => hs c (by simp [hc])), hs c (by simp), Nat.add_mul]
   omega
def Own (w : World) (B e sz : Nat) (v : Value) (css : List (List Value)) : Prop :=
 w.ownsRow B e sz v css.length css.flatten ∧ ∀ c ∈ css, c.length = sz
theorem Own.nil (w : World) (B e sz : Nat) : Own w B e sz (.slice none 0 0) [] := ⟨World.ownsRow_nil w B e sz, by simp⟩
theorem Own.row {w : World} {B e sz : Nat} {v : Value} {css : List (List Value)} (h : Own w B e sz v css) :
 ∃ ao cap, v = .slice ao css.length cap ∧ css.length ≤ cap ∧ cap ≤ maxLen ∧ Row w sz ao css ∧ (ao = none → css = [] ∧ cap = 0) := by
 obtain ⟨h1, h2⟩ := h
 rcases h1.2 with ⟨hv, h0⟩ | ⟨g, cap, cur, hv, hb, hg, hn, hm, hs, ht⟩
 ·have : css = [] := List.eq_nil_of_length_eq_zero h0
  subst this
  exact ⟨none, 0, hv, Nat.le_refl _, Nat.zero_le _, Row.nil _ _ _, fun _ => ⟨rfl, rfl⟩⟩
 ·refine ⟨some ⟨g, 0, none⟩, cap, hv, hn, hm, fun _ => ⟨g, 0, rfl, fun i cs hi j u hj => ?_⟩, fun h => by cases h⟩
  have := h1.cells (g := g) (by rw [hv]; rfl) (i * sz + j) u (flatten_at h2 hi hj)
  rw [Addr.add_lit] at this
  simpa [Nat.add_assoc] using this
theorem Own.rown {w : World} {B e sz : Nat} {v : Value} {css : List (List Value)} {n : Nat} (h : Own w B e sz v css) (hn : css.length = n) :
 ∃ ao cap, v = .slice ao n cap ∧ n ≤ cap ∧ cap ≤ maxLen ∧ Row w sz ao css ∧ (ao = none → css = [] ∧ cap = 0) := by
 subst hn; exact h.row
theorem Own.here {w : World} {B e sz n cap : Nat} {ao : Option Addr} {css : List (List Value)} (h : Own w B e sz (.slice ao n cap) css) : Row w sz ao css := by
 obtain ⟨ao', cap', e1, _, _, hr, _⟩ := h.row
 simp only [Value.slice.injEq] at e1
 rw [e1.1]; exact hr
theorem Own.mono {w : World} {B B' e sz : Nat} {v : Value} {css : List (List Value)} (h : Own w B e sz v css) (hB : B' ≤ B) : Own w B' e sz v css := by
 refine ⟨⟨h.1.1, ?_⟩, h.2⟩
 rcases h.1.2 with h0 | ⟨g, cap, cur, hv, hb, r⟩
 ·exact .inl h0
 ·exact .inr ⟨g, cap, cur, hv, Nat.le_trans hB hb, r⟩
theorem Own.kept {w w' : World} {B e sz : Nat} {v : Value} {css : List (List Value)} {row : Option Nat} (h : Own w B e sz v css) (hg : w.grownBy w' row) (hne : v.ownBlock = none ∨ v.ownBlock ≠ row) : Own w' B e sz v css :=
 ⟨h.1.kept hg hne, h.2⟩
theorem bgrown {w w' : World} (h : Below w.heap.size w w') : w.grownBy w' none := ⟨h.os, h.tape, h.output, h.size, fun k hk _ => h.block k hk⟩
theorem Own.below {w w' : World} {B e sz : Nat} {v : Value} {css : List (List Value)} (h : Own w B e sz v css) (hb : Below w.heap.size w w') : Own w' B e sz v css :=
 h.kept (bgrown hb) (by cases v.ownBlock <;> simp)
structure EI (P : Program) (t e : TypeId) (z : Value) (size bytes : Nat) : Prop where
 under : P.underlying t = some (.slice e)
 info : (P.info? e).map (fun i => (i.zero, i.size, i.bytes)) = some (some z, size, bytes)
 zs : z.cells.size = size
 pos : 0 < size
theorem cells_new (w : World) (news : List Value) (e : TypeId) : ∀ j u, news[j]? = some u → (w.alloc (.cells news.toArray e)).cell? ((⟨w.heap.size, 0, none⟩ : Addr).add j) = some u := by
 intro j u hj
 rw [Addr.add_lit, Lib.cell_of_heap (heap_alloc_new w _)]
 simpa using hj
theorem wpList_append1 {P : Program} {w : World} {ops : Array Oper} {rest : List Oper} {o : Oper} {a : Act} {Q : Exit → Act → World → Prop} {t e : TypeId} {z : Value} {size bytes : Nat} (E : EI P t e z size bytes)
 (hgd : o.guard = none) {s x : Operand} (ho : o.op = .call { callee := .builtin .append, args := #[s, x], argTypes := #[t, t] })
 {B : Nat} {v : Value} {css : List (List Value)} (hown : Own w B e size v css) (hs : a.eval s = v)
 {news : List Value} {c g : Nat} (hx : a.eval x = .slice (some ⟨g, 0, none⟩) 1 c) (hg : g = w.heap.size) (hl : news.length = size) (h1 : ∀ u ∈ news, u.oneCell' = true)
 (hn : css.length + 1 ≤ 1000000000) (hbytes : bytes ≤ 1000) (hbase : B ≤ w.heap.size)
 (h : ∀ v' w', Own w' B e size v' (css ++ [news]) → w.grownBy w' v.ownBlock → wpList P ops Q rest (a.put o.dst v') w') :
 wpList P ops Q (o :: rest) a (w.alloc (.cells news.toArray e)) := by
 subst hg
 obtain ⟨i, hi, hz0, hz1, hz2⟩ := info_parts E.info
 have hb : (css.length + 1) * bytes ≤ 140737488355328 := by
  calc (css.length + 1) * bytes ≤ 1000000000 * 1000 := Nat.mul_le_mul hn hbytes
   _ ≤ 140737488355328 := by decide
 refine wpList_append_own _ hgd s x t ho B e i z size bytes E.under hi hz0 hz1 hz2 E.zs E.pos v css.length css.flatten hs (hown.1.alloc _) ⟨w.heap.size, 0, none⟩ 1 c news hx (by simpa using hl) (cells_new w news e) h1 (by unfold maxLen; omega) hb (by simp; omega) ?_
 intro v' w' h2 h3 _
 refine h v' w' ⟨by simpa using h2, ?_⟩ (grown_trans (World.grownBy_alloc w _ _) h3)
 intro c hc
 rcases List.mem_append.1 hc with hc | hc
 ·exact hown.2 c hc
 ·simp at hc; subst hc; exact hl
theorem Own.alloc {w : World} {B e sz : Nat} {v : Value} {css : List (List Value)} (h : Own w B e sz v css) (o : Obj) : Own (w.alloc o) B e sz v css := ⟨h.1.alloc o, h.2⟩
theorem Own.drew {w : World} {B e sz : Nat} {v : Value} {css : List (List Value)} (h : Own w B e sz v css) : Own w.drew B e sz v css := h
theorem cell_new (w : World) (cs : List Value) (e : TypeId) {j : Nat} {u : Value} (hj : cs[j]? = some u) : (w.alloc (.cells cs.toArray e)).cell? ⟨w.heap.size, j, none⟩ = some u := by
 rw [Lib.cell_of_heap (heap_alloc_new w _)]
 simpa using hj
theorem row_new (w : World) {sz : Nat} {css : List (List Value)} (hs : ∀ c ∈ css, c.length = sz) (e : TypeId) {cs : List Value} (hcs : cs = css.flatten) {g : Nat} (hg : g = w.heap.size) : Row (w.alloc (.cells cs.toArray e)) sz (some ⟨g, 0, none⟩) css := by
 subst hcs hg
 refine fun _ => ⟨_, 0, rfl, fun i c hi j u hj => ?_⟩
 rw [Nat.zero_add]
 exact cell_new w _ e (flatten_at hs hi hj)
theorem Own.ge {w : World} {B e sz : Nat} {v : Value} {css : List (List Value)} (h : Own w B e sz v css) : ∀ k, v.ownBlock = some k → B ≤ k := fun k hk => (h.1.lt k hk).1
theorem bapp {B : Nat} {a w w' : World} {e sz : Nat} {v : Value} {css : List (List Value)} (h : Below B a w) (ho : Own w B e sz v css) (hg : w.grownBy w' v.ownBlock) (hB : B ≤ w.heap.size) : Below B a w' :=
 h.grown hg hB ho.ge
theorem u8_of {a : UInt8} {n : Nat} (hn : n < 256) (h : (a.toNat : Int) = (n : Int)) : a = n.toUInt8 := by
 apply UInt8.toNat_inj.1
 simp
 omega
theorem u8_arg {a : Int} (h : (Lit.int .u8 a).wf = true) : ∃ c : UInt8, a = (c.toNat : Int) := by
 have h' : 0 ≤ a ∧ a ≤ 255 := by simpa [Lit.wf, IntKind.min, IntKind.max, IntKind.signed, IntKind.bits] using h
 refine ⟨a.toNat.toUInt8, ?_⟩
 simp
 omega
theorem i64_arg {a : Int} (h : (Lit.int .i64 a).wf = true) : -9223372036854775808 ≤ a ∧ a ≤ 9223372036854775807 := by
 simpa [Lit.wf, IntKind.min, IntKind.max, IntKind.signed, IntKind.bits] using h
theorem u8_beq {a : UInt8} {n : Int} (h : ((a.toNat : Int) == n) = true) : (a.toNat : Int) = n := by simpa using h
theorem u8_bne {a : UInt8} {n : Int} (h : ((a.toNat : Int) == n) = false) : (a.toNat : Int) ≠ n := by simpa using h
theorem Own.last {w : World} {B e sz : Nat} {v : Value} {css : List (List Value)} {c d : List Value} (h : Own w B e sz v (css ++ [c])) (hcd : c = d) : Own w B e sz v (css ++ [d]) := hcd ▸ h
theorem own_apart {w : World} {B B' e e' sz sz' : Nat} {v v' : Value} {css css' : List (List Value)} (h : Own w B e sz v css) (h' : Own w B' e' sz' v' css') (he : e ≠ e') : v.ownBlock = none ∨ v.ownBlock ≠ v'.ownBlock := by
 rcases h.1.2 with ⟨rfl, _⟩ | ⟨g, cap, cur, rfl, _, hg, _⟩
 ·exact .inl rfl
 ·rcases h'.1.2 with ⟨rfl, _⟩ | ⟨g', cap', cur', rfl, _, hg', _⟩
  ·exact .inr (by simp [Value.ownBlock])
  ·refine .inr ?_
   intro e1
   simp only [Value.ownBlock, Option.some.injEq] at e1
   rw [e1, hg'] at hg
   simp only [Option.some.injEq, Obj.cells.injEq] at hg
   exact he hg.2.1.symm
theorem run_str_own {P : Program} {w : World} {B e : Nat} {v : Value} {l : List UInt8} (h : Own w B e 1 v (l.map fun c => [.int .u8 c.toNat])) (src dst : TypeId)
 (hs : P.underlying src = some (.slice e)) (he : P.underlying e = some (.int .u8)) (hd : P.underlying dst = some .string) : (convert src dst v).run P w = .ok (.string ⟨l.toArray⟩) w := by
 obtain ⟨ao, cap, rfl, _, _, hr, hn⟩ := h.rown (n := l.length) (by simp)
 cases ao with
 | none =>
   have hl : l = [] := by simpa using (hn rfl).1
   subst hl
   exact run_convert_bytes_nil w src e hs he _ _ dst hd
 | some a =>
   by_cases hl : l = []
   ·subst hl
    rw [run_convert_bytes_back w src dst e a cap [] hs he hd (by intro j hj; simp at hj)]
   ·obtain ⟨b, o, e1, hat⟩ := hr (by simpa using hl)
    injection e1 with e1
    subst e1
    refine run_convert_bytes_back w src dst e _ cap l hs he hd ?_
    intro j hj
    have := hat.cell (i := j) (cs := [.int .u8 l[j].toNat]) (by simp [hj]) (j := 0) (u := .int .u8 l[j].toNat) rfl
    rw [Addr.add_lit]
    simpa using this
theorem wp_scope_loop {P : Program} {a : Act} {w : World} {Q : Exit → Act → World → Prop} {c rest : Code} (l : Nat) (J : Act → World → Prop) (μ : Act → World → Nat) (hf : findLabel c l = some (.seq .skip rest))
 (first : (Hid (∀ a w, J a w → rest.wp P (Exit.jump l J Q) a w)) → c.wp P (Exit.jump l J Q) a w)
 (pass : ∀ a w, J a w → rest.wp P (Exit.jump l (fun a' w' => J a' w' ∧ μ a' w' < μ a w) Q) a w) : (Code.scope c).wp P Q a w :=
 wp_scope_jumps l J μ hf (first fun a w h => Code.wp_mono (fun e a' w' q => by
  cases e <;> first | exact q | exact ⟨q.1, q.2.1⟩) (pass a w h)) fun a w h => wp_seq (wp_skip (pass a w h))
end Go.Proofs.YtllbbacnakoomaaGreatDoor
namespace Go.Proofs.YtllbbacnakoomaaGreatDoor
open Go.RowKit
inductive T where
 | mk (kind text : ByteArray) (f o : Int) (kids : List T)
namespace T
def kind : T → ByteArray | .mk k _ _ _ _ => k
def text : T → ByteArray | .mk _ t _ _ _ => t
def from_ : T → Int | .mk _ _ f _ _ => f
def to_ : T → Int | .mk _ _ _ o _ => o
def kids : T → List T | .mk _ _ _ _ ks => ks
end T
theorem T.ind {P : T → Prop} (h : ∀ k t f o ks, (∀ x ∈ ks, P x) → P (.mk k t f o ks)) : ∀ t, P t := by
 intro t
 exact T.rec (motive_1 := P) (motive_2 := fun ks => ∀ x ∈ ks, P x) (fun k t f o ks ih => h k t f o ks ih) (by simp) (fun a l ha hl => by
  intro x hx
  rcases List.mem_cons.1 hx with rfl | hx
  ·exact ha
  ·exact hl x hx) t
def RowF (w : World) (F : Nat → Prop) (sz : Nat) (ao : Option Addr) (css : List (List Value)) : Prop :=
 css ≠ [] → ∃ b o, ao = some ⟨b, o, none⟩ ∧ F b ∧ RowAt w sz b o css
def KeptOn (F : Nat → Prop) (w w' : World) : Prop := ∀ k, F k → k < w.heap.size → w'.heap[k]? = w.heap[k]?
theorem KeptOn.cell {F : Nat → Prop} {w w' : World} (h : KeptOn F w w') {a : Addr} {v : Value} (hf : F a.block) (hc : w.cell? a = some v) : w'.cell? a = some v :=
 (World.cell?_of_block (h a.block hf (cell_lt hc))).trans hc
theorem KeptOn.of_below {F : Nat → Prop} {w w' : World} (h : Below w.heap.size w w') : KeptOn F w w' := fun k _ hk => h.block k hk
theorem RowF.row {w : World} {F : Nat → Prop} {sz : Nat} {ao : Option Addr} {css : List (List Value)} (h : RowF w F sz ao css) : Row w sz ao css :=
 fun hne => let ⟨b, o, e, _, r⟩ := h hne; ⟨b, o, e, r⟩
theorem RowF.later {w w' : World} {F : Nat → Prop} {sz : Nat} {ao : Option Addr} {css : List (List Value)} (h : RowF w F sz ao css) (k : KeptOn F w w') : RowF w' F sz ao css :=
 fun hne => let ⟨b, o, e, f, r⟩ := h hne; ⟨b, o, e, f, fun i cs hi j u hj => k.cell f (r i cs hi j u hj)⟩
mutual
inductive Rep (w : World) (F : Nat → Prop) : T → List Value → Prop
 | mk {k t : ByteArray} {f o : Int} {kids : List T} {ao : Option Addr} {cap : Nat} {css : List (List Value)} (hk : Reps w F kids css) (hr : RowF w F 5 ao css) (hc : kids.length ≤ cap ∧ kids.length ≤ 1000000000) : Rep w F (.mk k t f o kids) [.string k, .string t, .int .i64 f, .int .i64 o, .slice ao kids.length cap]
inductive Reps (w : World) (F : Nat → Prop) : List T → List (List Value) → Prop
 | nil : Reps w F [] []
 | cons {t : T} {cs : List Value} {ts : List T} {css : List (List Value)} (h : Rep w F t cs) (r : Reps w F ts css) : Reps w F (t :: ts) (cs :: css)
end
theorem Reps.len {w : World} {F : Nat → Prop} {ts : List T} {css : List (List Value)} (h : Reps w F ts css) : css.length = ts.length := by
 induction ts generalizing css with
 | nil => cases h; rfl
 | cons t ts ih => cases h with | cons h r => simp [ih r]
theorem Rep.len {w : World} {F : Nat → Prop} {t : T} {cs : List Value} (h : Rep w F t cs) : cs.length = 5 := by cases h; rfl
theorem Rep.one {w : World} {F : Nat → Prop} {t : T} {cs : List Value} (h : Rep w F t cs) : ∀ u ∈ cs, u.oneCell' = true := by
 cases h; intro u hu; simp at hu; rcases hu with rfl | rfl | rfl | rfl | rfl <;> rfl
theorem Reps.at {w : World} {F : Nat → Prop} {ts : List T} {css : List (List Value)} (h : Reps w F ts css) : ∀ {i : Nat} {t : T}, ts[i]? = some t → ∃ cs, css[i]? = some cs ∧ Rep w F t cs := by
 induction ts generalizing css with
 | nil => intro i t hi; simp at hi
 | cons t ts ih =>
   cases h with
   | cons h r =>
     intro i x hi
     cases i with
     | zero => simp at hi; subst hi; exact ⟨_, rfl, h⟩
     | succ i => simp at hi; simpa using ih r hi
theorem Reps.of {w : World} {F : Nat → Prop} : ∀ {ts : List T} {css : List (List Value)}, css.length = ts.length → (∀ (i : Nat) (t : T) (cs : List Value), ts[i]? = some t → css[i]? = some cs → Rep w F t cs) → Reps w F ts css := by
 intro ts
 induction ts with
 | nil => intro css hl _; simp at hl; subst hl; exact .nil
 | cons t ts ih =>
   intro css hl h
   cases css with
   | nil => simp at hl
   | cons c css => exact .cons (h 0 t c rfl rfl) (ih (by simpa using hl) (fun i t' cs' h1 h2 => h (i + 1) t' cs' (by simpa using h1) (by simpa using h2)))
theorem Reps.snoc {w : World} {F : Nat → Prop} {ts : List T} {css : List (List Value)} (h : Reps w F ts css) {t : T} {cs : List Value} (ht : Rep w F t cs) : Reps w F (ts ++ [t]) (css ++ [cs]) := by
 induction ts generalizing css with
 | nil => cases h; exact .cons ht .nil
 | cons x ts ih => cases h with | cons h r => exact .cons h (ih r)
theorem Rep.later {w w' : World} {F : Nat → Prop} (hb : KeptOn F w w') : ∀ {t : T} {cs : List Value}, Rep w F t cs → Rep w' F t cs := by
 intro t
 induction t using T.ind with
 | h k t f o ks ih =>
   intro cs h
   cases h with
   | mk hk hr hc =>
     refine .mk (Reps.of hk.len fun i t cs h1 h2 => ?_) (hr.later hb) hc
     obtain ⟨cs', h3, h4⟩ := hk.at h1
     rw [h2] at h3
     obtain rfl := Option.some.inj h3
     exact ih t (List.mem_of_getElem? h1) h4
theorem Reps.later {w w' : World} {F : Nat → Prop} (hb : KeptOn F w w') {ts : List T} {css : List (List Value)} (h : Reps w F ts css) : Reps w' F ts css :=
 Reps.of h.len fun i t cs h1 h2 => by
  obtain ⟨cs', h3, h4⟩ := h.at h1
  rw [h2] at h3
  obtain rfl := Option.some.inj h3
  exact h4.later hb
theorem RowAt.lt {w : World} {sz b o : Nat} {css : List (List Value)} (h : RowAt w sz b o css) (hne : ∃ (i : Nat) (cs : List Value), css[i]? = some cs ∧ cs ≠ []) : b < w.heap.size := by
 obtain ⟨i, cs, hi, hc⟩ := hne
 obtain ⟨u, l, rfl⟩ := List.exists_cons_of_ne_nil hc
 have := cell_lt (h i _ hi 0 u rfl)
 simpa using this
theorem Rep.wide {w : World} {F G : Nat → Prop} (hb : ∀ k, F k → k < w.heap.size → G k) : ∀ {t : T} {cs : List Value}, Rep w F t cs → Rep w G t cs := by
 intro t
 induction t using T.ind with
 | h k t f o ks ih =>
   intro cs h
   cases h with
   | @mk _ _ _ _ _ ao cap css hk hr hc =>
     refine .mk (Reps.of hk.len fun i t cs h1 h2 => ?_) (fun hne => ?_) hc
     ·obtain ⟨cs', h3, h4⟩ := hk.at h1
      rw [h2] at h3
      obtain rfl := Option.some.inj h3
      exact ih t (List.mem_of_getElem? h1) h4
     ·obtain ⟨b, o, e, f, r⟩ := hr hne
      refine ⟨b, o, e, hb b f (r.lt ?_), r⟩
      cases css with
      | nil => exact (hne rfl).elim
      | cons c css =>
        refine ⟨0, c, rfl, fun e0 => ?_⟩
        subst e0
        cases hk with
        | cons h0 _ => have := h0.len; simp at this
theorem Rep.leaf {w : World} {F : Nat → Prop} (k t : ByteArray) (f o : Int) : Rep w F (.mk k t f o []) [.string k, .string t, .int .i64 f, .int .i64 o, .slice none 0 0] :=
 .mk (kids := []) .nil (fun h => (h rfl).elim) ⟨Nat.le_refl _, Nat.zero_le _⟩
theorem bl_inj {a b : ByteArray} (h : a.toList = b.toList) : a = b := by
 rw [ByteArray.toList_eq, ByteArray.toList_eq] at h
 obtain ⟨⟨a⟩⟩ := a
 obtain ⟨⟨b⟩⟩ := b
 simpa using h
mutual
def T.out : T → List UInt8
 | .mk k t _ _ ks => 40 :: k.data.toList ++ (if t.size = 0 then [] else 32 :: t.data.toList) ++ T.outs ks ++ [41]
def T.outs : List T → List UInt8
 | [] => []
 | t :: ts => 32 :: T.out t ++ T.outs ts
end
mutual
def T.size : T → Nat
 | .mk _ _ _ _ ks => 1 + T.sizes ks
def T.sizes : List T → Nat
 | [] => 0
 | t :: ts => T.size t + T.sizes ts
end
mutual
def T.leaves : T → List Int
 | .mk _ t f _ ks => (if ks.length = 0 ∧ t.size ≠ 0 then [f] else []) ++ T.leavess ks
def T.leavess : List T → List Int
 | [] => []
 | t :: ts => T.leaves t ++ T.leavess ts
end
mutual
def T.same : T → T → Bool
 | .mk k t f o ks, .mk k' t' f' o' ks' => decide (k = k') && decide (t = t') && decide (f = f') && decide (o = o') && T.sames ks ks'
def T.sames : List T → List T → Bool
 | [], [] => true
 | t :: ts, t' :: ts' => T.same t t' && T.sames ts ts'
 | _, _ => false
end
mutual
def T.pre : T → List T
 | .mk k t f o ks => .mk k t f o ks :: T.pres ks
def T.pres : List T → List T
 | [] => []
 | t :: ts => T.pre t ++ T.pres ts
end
def T.leaf (x : T) : List Int := if x.kids.length = 0 ∧ x.text.size ≠ 0 then [x.from_] else []
theorem T.size_pre : ∀ t : T, T.size t = (T.pre t).length := by
 intro t
 induction t using T.ind with
 | h k t f o ks ih =>
   have : ∀ l : List T, (∀ x ∈ l, T.size x = (T.pre x).length) → T.sizes l = (T.pres l).length := by
    intro l
    induction l with
    | nil => intro _; rfl
    | cons a l il => intro h; simp [T.sizes, T.pres, h a (by simp), il (fun x hx => h x (by simp [hx]))]
   simp [T.size, T.pre, this ks ih, Nat.add_comm]
theorem T.leaves_pre : ∀ t : T, T.leaves t = (T.pre t).flatMap T.leaf := by
 intro t
 induction t using T.ind with
 | h k t f o ks ih =>
   have : ∀ l : List T, (∀ x ∈ l, T.leaves x = (T.pre x).flatMap T.leaf) → T.leavess l = (T.pres l).flatMap T.leaf := by
    intro l
    induction l with
    | nil => intro _; rfl
    | cons a l il => intro h; simp [T.leavess, T.pres, h a (by simp), il (fun x hx => h x (by simp [hx]))]
   simp [T.leaves, T.pre, this ks ih, T.leaf, T.kids, T.text, T.from_]
theorem T.pre_pos (t : T) : 1 ≤ (T.pre t).length := by cases t; simp [T.pre]
def T.has (x : T) (tok : Int) : Prop := x.from_ ≤ tok ∧ tok < x.to_
instance (x : T) (tok : Int) : Decidable (x.has tok) := inferInstanceAs (Decidable (_ ∧ _))
inductive Way (tok : Int) : T → List ByteArray → Prop
 | stop {x : T} (h : ∀ k ∈ x.kids, ¬ k.has tok) : Way tok x [x.kind]
 | go {x y : T} {l : List ByteArray} (i : Nat) (hi : x.kids[i]? = some y) (hy : y.has tok) (hn : ∀ j z, j < i → x.kids[j]? = some z → ¬ z.has tok) (h : Way tok y l) : Way tok x (x.kind :: l)
theorem T.outs_append (a b : List T) : T.outs (a ++ b) = T.outs a ++ T.outs b := by
 induction a with
 | nil => simp [T.outs]
 | cons x a ih => simp [T.outs, ih]
theorem T.sizes_append (a b : List T) : T.sizes (a ++ b) = T.sizes a + T.sizes b := by
 induction a with
 | nil => simp [T.sizes]
 | cons x a ih => simp [T.sizes, ih, Nat.add_assoc]
theorem T.leavess_append (a b : List T) : T.leavess (a ++ b) = T.leavess a ++ T.leavess b := by
 induction a with
 | nil => simp [T.leavess]
 | cons x a ih => simp [T.leavess, ih]
end Go.Proofs.YtllbbacnakoomaaGreatDoor
