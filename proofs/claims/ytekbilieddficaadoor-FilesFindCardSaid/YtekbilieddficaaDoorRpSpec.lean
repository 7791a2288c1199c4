/- Ropes (chapter 1) in plain Lean: trees of texts, and how they lie in memory. -/
import Derived.Test.YtekbilieddficaaDoorBase2
namespace Go.Proofs.YtekbilieddficaaDoor
open Go.RowKit
set_option linter.unusedVariables false

/-- A rope: a short text, or two ropes. -/
inductive RT where
  | leaf (s : List UInt8)
  | node (a b : RT)

def RT.text : RT → List UInt8
  | .leaf s => s
  | .node a b => a.text ++ b.text

def RT.high : RT → Nat
  | .leaf s => if s = [] then 0 else 1
  | .node a b => 1 + max a.high b.high

/-- how many nodes -/
def RT.size : RT → Nat
  | .leaf _ => 1
  | .node a b => 1 + a.size + b.size

/-- No leaf is empty. -/
def RT.Nice : RT → Prop
  | .leaf s => s ≠ []
  | .node a b => a.Nice ∧ b.Nice

/-- An empty rope, or one without empty leaves. -/
def RT.Good (t : RT) : Prop := t.Nice ∨ t = .leaf []

theorem RT.nice_pos {t : RT} (h : t.Nice) : 0 < t.text.length := by
  induction t with
  | leaf s => exact List.length_pos_iff.2 h
  | node a b iha ihb => simp only [RT.text, List.length_append]; have := iha h.1; omega

theorem RT.high_pos {t : RT} (h : t.Nice) : 1 ≤ t.high := by
  cases t with
  | leaf s => have h' : s ≠ [] := h; simp only [RT.high, if_neg h']; exact Nat.le_refl _
  | node a b => simp only [RT.high]; omega

theorem RT.high_le {t : RT} (h : t.Nice) : t.high ≤ t.text.length := by
  induction t with
  | leaf s => have h' : s ≠ [] := h; have := List.length_pos_iff.2 h'; simp only [RT.high, if_neg h', RT.text]; omega
  | node a b iha ihb =>
    have h1 := iha h.1
    have h2 := ihb h.2
    have h3 := RT.nice_pos h.1
    have h4 := RT.nice_pos h.2
    simp only [RT.high, RT.text, List.length_append]
    omega

theorem RT.Good.high_le {t : RT} (h : t.Good) : t.high ≤ t.text.length := by
  rcases h with h | rfl
  · exact RT.high_le h
  · simp [RT.high, RT.text]

theorem RT.Good.nice {t : RT} (h : t.Good) (hne : t.text ≠ []) : t.Nice := by
  rcases h with h | rfl
  · exact h
  · exact (hne rfl).elim

/-- Deep ones are no leaves. -/
theorem RT.inner {t : RT} (h : 2 ≤ t.high) : ∃ a b, t = .node a b := by
  cases t with
  | leaf s => simp only [RT.high] at h; split at h <;> omega
  | node a b => exact ⟨a, b, rfl⟩

def Memo (d l : Int) (n : Nat) : Prop := (d = 0 ∧ l = 0) ∨ (d = 1 ∧ l = n)

/-- the cells of a rope -/
def ropeC (s : ByteArray) (pa pb : Option Addr) (size high d l : Int) : Array Value :=
  #[.string s, .pointer pa, .pointer pb, .int .i64 size, .int .i64 high, .int .u32 d, .int .i32 0, .int .u32 0, .int .i64 l]

/-- A rope in memory, from block B on: what it is made of lies ahead of it; how many lines it has is told, or not yet. -/
def RAt (w : World) (B : Nat) : RT → Nat → Prop
  | .leaf s, g => B ≤ g ∧ ∃ d l, Memo d l (s.count 10) ∧ w.heap[g]? = some (.cells (ropeC ⟨s.toArray⟩ none none s.length (RT.leaf s).high d l) 122 (0, 0))
  | .node a b, g => B ≤ g ∧ ∃ ga gb d l, ga < g ∧ gb < g ∧ Memo d l ((a.text ++ b.text).count 10) ∧
      w.heap[g]? = some (.cells (ropeC ⟨#[]⟩ (some ⟨ga, 0, none⟩) (some ⟨gb, 0, none⟩) (a.text ++ b.text).length (RT.node a b).high d l) 122 (0, 0)) ∧ RAt w B a ga ∧ RAt w B b gb

theorem RAt.ge {w : World} {B g : Nat} {t : RT} (h : RAt w B t g) : B ≤ g := by cases t <;> exact h.1

theorem RAt.lt {w : World} {B g : Nat} {t : RT} (h : RAt w B t g) : g < w.heap.size := by
  cases t with
  | leaf s => obtain ⟨_, d, l, _, h⟩ := h; exact lt_of_block h
  | node a b => obtain ⟨_, ga, gb, d, l, _, _, _, h, _⟩ := h; exact lt_of_block h

/-- what lies in the rope's own block -/
theorem RAt.own {w : World} {B g : Nat} {t : RT} (h : RAt w B t g) : ∃ s pa pb d l, Memo d l (t.text.count 10) ∧ w.heap[g]? = some (.cells (ropeC s pa pb t.text.length t.high d l) 122 (0, 0)) := by
  cases t with
  | leaf s => obtain ⟨_, d, l, hm, h⟩ := h; exact ⟨_, _, _, d, l, hm, h⟩
  | node a b => obtain ⟨_, ga, gb, d, l, _, _, hm, h, _⟩ := h; exact ⟨_, _, _, d, l, hm, h⟩

theorem ropeC_inj {s s' : ByteArray} {pa pb pa' pb' : Option Addr} {z h d l z' h' d' l' : Int} (e : ropeC s pa pb z h d l = ropeC s' pa' pb' z' h' d' l') : s = s' ∧ pa = pa' ∧ pb = pb' ∧ d = d' ∧ l = l' := by
  unfold ropeC at e
  simp only [Array.mk.injEq, List.cons.injEq, Value.string.injEq, Value.pointer.injEq, Value.int.injEq, true_and, and_true] at e
  exact ⟨e.1, e.2.1, e.2.2.1, e.2.2.2.2.2.1, e.2.2.2.2.2.2⟩

/-- Memory tells which rope it is. -/
theorem RAt.same {w : World} {B B' : Nat} : ∀ {t t' : RT} {g : Nat}, RAt w B t g → RAt w B' t' g → t = t' := by
  intro t
  induction t with
  | leaf s =>
    intro t' g h h'
    obtain ⟨_, d, l, _, e⟩ := h
    cases t' with
    | leaf s' =>
      obtain ⟨_, d', l', _, e'⟩ := h'
      rw [e] at e'
      simp only [Option.some.injEq, Obj.cells.injEq] at e'
      have := (ropeC_inj e'.1).1
      simp only [ByteArray.mk.injEq] at this
      have h2 : s = s' := by simpa using congrArg Array.toList this
      rw [h2]
    | node a b =>
      obtain ⟨_, ga, gb, d', l', _, _, _, e', _⟩ := h'
      rw [e] at e'
      simp only [Option.some.injEq, Obj.cells.injEq] at e'
      have := (ropeC_inj e'.1).2.1
      cases this
  | node a b iha ihb =>
    intro t' g h h'
    obtain ⟨_, ga, gb, d, l, _, _, _, e, ha, hb⟩ := h
    cases t' with
    | leaf s' =>
      obtain ⟨_, d', l', _, e'⟩ := h'
      rw [e] at e'
      simp only [Option.some.injEq, Obj.cells.injEq] at e'
      have := (ropeC_inj e'.1).2.1
      cases this
    | node a' b' =>
      obtain ⟨_, ga', gb', d', l', _, _, _, e', ha', hb'⟩ := h'
      rw [e] at e'
      simp only [Option.some.injEq, Obj.cells.injEq] at e'
      obtain ⟨_, e1, e2, _⟩ := ropeC_inj e'.1
      simp only [Option.some.injEq, Addr.mk.injEq] at e1 e2
      obtain rfl := e1.1
      obtain rfl := e2.1
      rw [iha ha ha', ihb hb hb']

/-- A rope hangs on the blocks up to its own alone. -/
theorem RAt.upto {w w' : World} {B : Nat} : ∀ {t : RT} {g : Nat}, RAt w B t g → (∀ k, B ≤ k → k ≤ g → w'.heap[k]? = w.heap[k]?) → RAt w' B t g := by
  intro t
  induction t with
  | leaf s =>
    intro g h hk
    obtain ⟨h1, d, l, hm, e⟩ := h
    exact ⟨h1, d, l, hm, (hk g h1 (Nat.le_refl _)).trans e⟩
  | node a b iha ihb =>
    intro g h hk
    obtain ⟨h1, ga, gb, d, l, hga, hgb, hm, e, ha, hb⟩ := h
    exact ⟨h1, ga, gb, d, l, hga, hgb, hm, (hk g h1 (Nat.le_refl _)).trans e, iha ha (fun k k1 k2 => hk k k1 (by omega)), ihb hb (fun k k1 k2 => hk k k1 (by omega))⟩

theorem RAt.below {w w' : World} {B : Nat} {t : RT} {g : Nat} (h : RAt w B t g) (hb : Below w.heap.size w w') : RAt w' B t g :=
  h.upto fun k _ hk => hb.block k (by have := h.lt; omega)

/-- A rope, or nil. -/
def RP (w : World) (B : Nat) (p : Option Addr) : Option RT → Prop
  | none => p = none
  | some t => t.Good ∧ ∃ g, p = some ⟨g, 0, none⟩ ∧ RAt w B t g

def textO : Option RT → List UInt8
  | none => []
  | some t => t.text

def highO : Option RT → Nat
  | none => 0
  | some t => t.high

theorem RP.below {w w' : World} {B : Nat} {p : Option Addr} {o : Option RT} (h : RP w B p o) (hb : Below w.heap.size w w') : RP w' B p o := by
  cases o with
  | none => exact h
  | some t => obtain ⟨h1, g, e, h2⟩ := h; exact ⟨h1, g, e, h2.below hb⟩

/-- What telling lines leaves: all ropes are as they were; nothing else has turned, and no rope behind block g. -/
structure KR (B g : Nat) (w w' : World) : Prop where
  below : Below B w w'
  others : Lib.OthersKept 122 none w w'
  past : ∀ k, g < k → k < w.heap.size → w'.heap[k]? = w.heap[k]?
  ropes : ∀ t k, RAt w B t k → RAt w' B t k

theorem OthersKept.of_below {e : TypeId} {w w' : World} (h : Below w.heap.size w w') : Lib.OthersKept e none w w' := fun k o ho _ _ => (h.block k (lt_of_block ho)).trans ho

theorem KR.of_below {B g : Nat} {w w' : World} (hB : B ≤ w.heap.size) (h : Below w.heap.size w w') : KR B g w w' :=
  ⟨h.mono hB, OthersKept.of_below h, fun k _ hk => h.block k hk, fun t k ht => ht.below h⟩

theorem KR.refl (B g : Nat) (w : World) : KR B g w w := ⟨Below.refl _ _, Lib.OthersKept.refl _ _ _, fun _ _ _ => rfl, fun _ _ h => h⟩

theorem KR.more {B g g' : Nat} {w w' : World} (h : KR B g w w') (hg : g ≤ g') : KR B g' w w' := ⟨h.below, h.others, fun k h1 h2 => h.past k (by omega) h2, h.ropes⟩

theorem KR.trans {B g : Nat} {w w1 w2 : World} (h : KR B g w w1) (k : KR B g w1 w2) : KR B g w w2 :=
  ⟨h.below.trans k.below, h.others.trans k.others, fun i h1 h2 => (k.past i h1 (Nat.lt_of_lt_of_le h2 h.below.size)).trans (h.past i h1 h2), fun t i ht => k.ropes t i (h.ropes t i ht)⟩

theorem RP.kr {w w' : World} {B g : Nat} {p : Option Addr} {o : Option RT} (h : RP w B p o) (hk : KR B g w w') : RP w' B p o := by
  cases o with
  | none => exact h
  | some t => obtain ⟨h1, k, e, h2⟩ := h; exact ⟨h1, k, e, hk.ropes t k h2⟩

end Go.Proofs.YtekbilieddficaaDoor
