/- Trees (chapter 19) in plain Lean: what is told of them; and how they lie in memory. Nothing of the program's numbers but the row's size. -/
import Derived.Test.YtcafiaoinonpgaaBase
namespace Go.Proofs.Ytcafiaoinonpgaa
open Go.RowKit

/-- a tree's node -/
inductive T where
  | mk (kind text : ByteArray) (f o : Int) (kids : List T)

namespace T
def kind : T → ByteArray | .mk k _ _ _ _ => k
def text : T → ByteArray | .mk _ t _ _ _ => t
def from_ : T → Int | .mk _ _ f _ _ => f
def to_ : T → Int | .mk _ _ _ o _ => o
def kids : T → List T | .mk _ _ _ _ ks => ks
end T

theorem T.ind {P : T → Prop} (h : ∀ k t f o ks, (∀ x ∈ ks, P x) → P (.mk k t f o ks)) : ∀ t, P t := by
  intro t
  exact T.rec (motive_1 := P) (motive_2 := fun ks => ∀ x ∈ ks, P x) (fun k t f o ks ih => h k t f o ks ih) (by simp) (fun a l ha hl => by
    intro x hx
    rcases List.mem_cons.1 hx with rfl | hx
    · exact ha
    · exact hl x hx) t

/-! ## in memory -/

/-- a row whose block is one of F -/
def RowF (w : World) (F : Nat → Prop) (sz : Nat) (ao : Option Addr) (css : List (List Value)) : Prop :=
  css ≠ [] → ∃ b o, ao = some ⟨b, o, none⟩ ∧ F b ∧ RowAt w sz b o css

/-- what two worlds have alike: the blocks of F -/
def KeptOn (F : Nat → Prop) (w w' : World) : Prop := ∀ k, F k → k < w.heap.size → w'.heap[k]? = w.heap[k]?

theorem KeptOn.cell {F : Nat → Prop} {w w' : World} (h : KeptOn F w w') {a : Addr} {v : Value} (hf : F a.block) (hc : w.cell? a = some v) : w'.cell? a = some v :=
  (World.cell?_of_block (h a.block hf (cell_lt hc))).trans hc

theorem KeptOn.of_below {F : Nat → Prop} {w w' : World} (h : Below w.heap.size w w') : KeptOn F w w' := fun k _ hk => h.block k hk

theorem RowF.row {w : World} {F : Nat → Prop} {sz : Nat} {ao : Option Addr} {css : List (List Value)} (h : RowF w F sz ao css) : Row w sz ao css :=
  fun hne => let ⟨b, o, e, _, r⟩ := h hne; ⟨b, o, e, r⟩

theorem RowF.later {w w' : World} {F : Nat → Prop} {sz : Nat} {ao : Option Addr} {css : List (List Value)} (h : RowF w F sz ao css) (k : KeptOn F w w') : RowF w' F sz ao css :=
  fun hne => let ⟨b, o, e, f, r⟩ := h hne; ⟨b, o, e, f, fun i cs hi j u hj => k.cell f (r i cs hi j u hj)⟩

mutual
inductive Rep (w : World) (F : Nat → Prop) : T → List Value → Prop
  | mk {k t : ByteArray} {f o : Int} {kids : List T} {ao : Option Addr} {cap : Nat} {css : List (List Value)} (hk : Reps w F kids css) (hr : RowF w F 5 ao css) (hc : kids.length ≤ cap ∧ kids.length ≤ 1000000000) : Rep w F (.mk k t f o kids) [.string k, .string t, .int .i64 f, .int .i64 o, .slice ao kids.length cap]
inductive Reps (w : World) (F : Nat → Prop) : List T → List (List Value) → Prop
  | nil : Reps w F [] []
  | cons {t : T} {cs : List Value} {ts : List T} {css : List (List Value)} (h : Rep w F t cs) (r : Reps w F ts css) : Reps w F (t :: ts) (cs :: css)
end

theorem Reps.len {w : World} {F : Nat → Prop} {ts : List T} {css : List (List Value)} (h : Reps w F ts css) : css.length = ts.length := by
  induction ts generalizing css with
  | nil => cases h; rfl
  | cons t ts ih => cases h with | cons h r => simp [ih r]

theorem Rep.len {w : World} {F : Nat → Prop} {t : T} {cs : List Value} (h : Rep w F t cs) : cs.length = 5 := by cases h; rfl

theorem Rep.one {w : World} {F : Nat → Prop} {t : T} {cs : List Value} (h : Rep w F t cs) : ∀ u ∈ cs, u.oneCell' = true := by
  cases h; intro u hu; simp at hu; rcases hu with rfl | rfl | rfl | rfl | rfl <;> rfl

theorem Reps.at {w : World} {F : Nat → Prop} {ts : List T} {css : List (List Value)} (h : Reps w F ts css) : ∀ {i : Nat} {t : T}, ts[i]? = some t → ∃ cs, css[i]? = some cs ∧ Rep w F t cs := by
  induction ts generalizing css with
  | nil => intro i t hi; simp at hi
  | cons t ts ih =>
    cases h with
    | cons h r =>
      intro i x hi
      cases i with
      | zero => simp at hi; subst hi; exact ⟨_, rfl, h⟩
      | succ i => simp at hi; simpa using ih r hi

theorem Reps.of {w : World} {F : Nat → Prop} : ∀ {ts : List T} {css : List (List Value)}, css.length = ts.length → (∀ (i : Nat) (t : T) (cs : List Value), ts[i]? = some t → css[i]? = some cs → Rep w F t cs) → Reps w F ts css := by
  intro ts
  induction ts with
  | nil => intro css hl _; simp at hl; subst hl; exact .nil
  | cons t ts ih =>
    intro css hl h
    cases css with
    | nil => simp at hl
    | cons c css => exact .cons (h 0 t c rfl rfl) (ih (by simpa using hl) (fun i t' cs' h1 h2 => h (i + 1) t' cs' (by simpa using h1) (by simpa using h2)))

theorem Reps.snoc {w : World} {F : Nat → Prop} {ts : List T} {css : List (List Value)} (h : Reps w F ts css) {t : T} {cs : List Value} (ht : Rep w F t cs) : Reps w F (ts ++ [t]) (css ++ [cs]) := by
  induction ts generalizing css with
  | nil => cases h; exact .cons ht .nil
  | cons x ts ih => cases h with | cons h r => exact .cons h (ih r)

theorem Rep.later {w w' : World} {F : Nat → Prop} (hb : KeptOn F w w') : ∀ {t : T} {cs : List Value}, Rep w F t cs → Rep w' F t cs := by
  intro t
  induction t using T.ind with
  | h k t f o ks ih =>
    intro cs h
    cases h with
    | mk hk hr hc =>
      refine .mk (Reps.of hk.len fun i t cs h1 h2 => ?_) (hr.later hb) hc
      obtain ⟨cs', h3, h4⟩ := hk.at h1
      rw [h2] at h3
      obtain rfl := Option.some.inj h3
      exact ih t (List.mem_of_getElem? h1) h4

theorem Reps.later {w w' : World} {F : Nat → Prop} (hb : KeptOn F w w') {ts : List T} {css : List (List Value)} (h : Reps w F ts css) : Reps w' F ts css :=
  Reps.of h.len fun i t cs h1 h2 => by
    obtain ⟨cs', h3, h4⟩ := h.at h1
    rw [h2] at h3
    obtain rfl := Option.some.inj h3
    exact h4.later hb

theorem RowAt.lt {w : World} {sz b o : Nat} {css : List (List Value)} (h : RowAt w sz b o css) (hne : ∃ (i : Nat) (cs : List Value), css[i]? = some cs ∧ cs ≠ []) : b < w.heap.size := by
  obtain ⟨i, cs, hi, hc⟩ := hne
  obtain ⟨u, l, rfl⟩ := List.exists_cons_of_ne_nil hc
  have := cell_lt (h i _ hi 0 u rfl)
  simpa using this

/-- every tree that lies in a world lies in its blocks -/
theorem Rep.wide {w : World} {F G : Nat → Prop} (hb : ∀ k, F k → k < w.heap.size → G k) : ∀ {t : T} {cs : List Value}, Rep w F t cs → Rep w G t cs := by
  intro t
  induction t using T.ind with
  | h k t f o ks ih =>
    intro cs h
    cases h with
    | @mk _ _ _ _ _ ao cap css hk hr hc =>
      refine .mk (Reps.of hk.len fun i t cs h1 h2 => ?_) (fun hne => ?_) hc
      · obtain ⟨cs', h3, h4⟩ := hk.at h1
        rw [h2] at h3
        obtain rfl := Option.some.inj h3
        exact ih t (List.mem_of_getElem? h1) h4
      · obtain ⟨b, o, e, f, r⟩ := hr hne
        refine ⟨b, o, e, hb b f (r.lt ?_), r⟩
        cases css with
        | nil => exact (hne rfl).elim
        | cons c css =>
          refine ⟨0, c, rfl, fun e0 => ?_⟩
          subst e0
          cases hk with
          | cons h0 _ => have := h0.len; simp at this

theorem Rep.leaf {w : World} {F : Nat → Prop} (k t : ByteArray) (f o : Int) : Rep w F (.mk k t f o []) [.string k, .string t, .int .i64 f, .int .i64 o, .slice none 0 0] :=
  .mk (kids := []) .nil (fun h => (h rfl).elim) ⟨Nat.le_refl _, Nat.zero_le _⟩

theorem bl_inj {a b : ByteArray} (h : a.toList = b.toList) : a = b := by
  rw [ByteArray.toList_eq, ByteArray.toList_eq] at h
  obtain ⟨⟨a⟩⟩ := a
  obtain ⟨⟨b⟩⟩ := b
  simpa using h

/-! ## what is told -/

mutual
def T.out : T → List UInt8
  | .mk k t _ _ ks => 40 :: k.data.toList ++ (if t.size = 0 then [] else 32 :: t.data.toList) ++ T.outs ks ++ [41]
def T.outs : List T → List UInt8
  | [] => []
  | t :: ts => 32 :: T.out t ++ T.outs ts
end

mutual
def T.size : T → Nat
  | .mk _ _ _ _ ks => 1 + T.sizes ks
def T.sizes : List T → Nat
  | [] => 0
  | t :: ts => T.size t + T.sizes ts
end

mutual
def T.leaves : T → List Int
  | .mk _ t f _ ks => (if ks.length = 0 ∧ t.size ≠ 0 then [f] else []) ++ T.leavess ks
def T.leavess : List T → List Int
  | [] => []
  | t :: ts => T.leaves t ++ T.leavess ts
end

mutual
def T.same : T → T → Bool
  | .mk k t f o ks, .mk k' t' f' o' ks' => decide (k = k') && decide (t = t') && decide (f = f') && decide (o = o') && T.sames ks ks'
def T.sames : List T → List T → Bool
  | [], [] => true
  | t :: ts, t' :: ts' => T.same t t' && T.sames ts ts'
  | _, _ => false
end

mutual
/-- all nodes, from the top, from the left -/
def T.pre : T → List T
  | .mk k t f o ks => .mk k t f o ks :: T.pres ks
def T.pres : List T → List T
  | [] => []
  | t :: ts => T.pre t ++ T.pres ts
end

def T.leaf (x : T) : List Int := if x.kids.length = 0 ∧ x.text.size ≠ 0 then [x.from_] else []

theorem T.size_pre : ∀ t : T, T.size t = (T.pre t).length := by
  intro t
  induction t using T.ind with
  | h k t f o ks ih =>
    have : ∀ l : List T, (∀ x ∈ l, T.size x = (T.pre x).length) → T.sizes l = (T.pres l).length := by
      intro l
      induction l with
      | nil => intro _; rfl
      | cons a l il => intro h; simp [T.sizes, T.pres, h a (by simp), il (fun x hx => h x (by simp [hx]))]
    simp [T.size, T.pre, this ks ih, Nat.add_comm]

theorem T.leaves_pre : ∀ t : T, T.leaves t = (T.pre t).flatMap T.leaf := by
  intro t
  induction t using T.ind with
  | h k t f o ks ih =>
    have : ∀ l : List T, (∀ x ∈ l, T.leaves x = (T.pre x).flatMap T.leaf) → T.leavess l = (T.pres l).flatMap T.leaf := by
      intro l
      induction l with
      | nil => intro _; rfl
      | cons a l il => intro h; simp [T.leavess, T.pres, h a (by simp), il (fun x hx => h x (by simp [hx]))]
    simp [T.leaves, T.pre, this ks ih, T.leaf, T.kids, T.text, T.from_]

theorem T.pre_pos (t : T) : 1 ≤ (T.pre t).length := by cases t; simp [T.pre]

def T.has (x : T) (tok : Int) : Prop := x.from_ ≤ tok ∧ tok < x.to_
instance (x : T) (tok : Int) : Decidable (x.has tok) := inferInstanceAs (Decidable (_ ∧ _))

/-- the way down to a token: the kinds of the nodes on it -/
inductive Way (tok : Int) : T → List ByteArray → Prop
  | stop {x : T} (h : ∀ k ∈ x.kids, ¬ k.has tok) : Way tok x [x.kind]
  | go {x y : T} {l : List ByteArray} (i : Nat) (hi : x.kids[i]? = some y) (hy : y.has tok) (hn : ∀ j z, j < i → x.kids[j]? = some z → ¬ z.has tok) (h : Way tok y l) : Way tok x (x.kind :: l)

theorem T.outs_append (a b : List T) : T.outs (a ++ b) = T.outs a ++ T.outs b := by
  induction a with
  | nil => simp [T.outs]
  | cons x a ih => simp [T.outs, ih]

theorem T.sizes_append (a b : List T) : T.sizes (a ++ b) = T.sizes a + T.sizes b := by
  induction a with
  | nil => simp [T.sizes]
  | cons x a ih => simp [T.sizes, ih, Nat.add_assoc]

theorem T.leavess_append (a b : List T) : T.leavess (a ++ b) = T.leavess a ++ T.leavess b := by
  induction a with
  | nil => simp [T.leavess]
  | cons x a ih => simp [T.leavess, ih]

end Go.Proofs.Ytcafiaoinonpgaa
