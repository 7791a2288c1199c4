/- CellOnce: the cells, and Get of one of them. -/
import Derived.Test.YtcfadekcdcphnaaCo1
namespace Go.Proofs.Ytcfadekcdcphnaa
open Go.RowKit
set_option linter.unusedVariables false

def onceL (N v : Nat) : Array Value := #[.pointer (some ⟨N + 2, 0, none⟩), .pointer (some ⟨v, 0, none⟩), .pointer (some ⟨N, 0, none⟩)]
def onceC (N v : Nat) (s : ByteArray) (m : Bool) : Array Value := cellC (if m then 1 else 0) 0 (.func (.func 9) #[] (onceL N v)) (if m then 1 else 0) (if m then s ++ ⟨#[49]⟩ else ByteArray.empty)

/-- The cells of the law, those told that m says. -/
structure OnceAt (w : World) (N : Nat) (ao : Option Addr) (tc : Nat) (A : List ByteArray) (gs vs : List Nat) (m : Nat → Bool) : Prop where
  cnt : ∃ cs, w.heap[N + 1]? = some (.cells cs 3 (0, 0)) ∧ cs.size = A.length ∧ ∀ t, t < A.length → cs[t]? = some (.int .i64 (if m t then 1 else 0))
  cbox : w.heap[N + 2]? = some (.cells #[.slice (some ⟨N + 1, 0, none⟩) A.length A.length] 23 (0, 0))
  box : w.heap[N]? = some (.cells #[.slice ao A.length tc] 22 (0, 0))
  txt : ∀ t s, A[t]? = some s → ∃ tb to, ao = some ⟨tb, to, none⟩ ∧ tb < N ∧ w.cell? ⟨tb, to + t, none⟩ = some (.string s)
  len : vs.length = gs.length
  le : gs.length ≤ A.length
  idx : ∀ (t v : Nat), vs[t]? = some v → w.heap[v]? = some (.cells #[.int .i64 t] 3 (0, 0))
  cell : ∀ (t g v : Nat) (s : ByteArray), gs[t]? = some g → vs[t]? = some v → A[t]? = some s → w.heap[g]? = some (.cells (onceC N v s (m t)) 55 (0, 0))
  low : ∀ g ∈ gs, N + 3 ≤ g
  lowv : ∀ v ∈ vs, N + 3 ≤ v

structure OnceFr (N g : Nat) (w w' : World) : Prop where
  size : w.heap.size ≤ w'.heap.size
  kept : ∀ j, j ≠ N + 1 → j ≠ g → j < w.heap.size → w'.heap[j]? = w.heap[j]?
  below : Below N w w'

theorem heap_set_cells1 {w : World} {g i : Nat} {v : Value} {c : Array Value} {e : TypeId} {fz : Nat × Nat} (h : w.heap[g]? = some (.cells c e fz)) : (w.setCell ⟨g, i, none⟩ v).heap[g]? = some (.cells (c.setIfInBounds i v) e fz) := heap_set h

/-- the world in which a cell's maker is asked -/
theorem asked_facts {w : World} {g F : Nat} {l : Array Value} (e0 : w.heap[g]? = some (.cells (cellC 0 0 (.func (.func F) #[] l) 0 ByteArray.empty) 55 (0, 0))) :
    ∃ D, D = (askW g w).drew ∧ (∀ k, k < w.heap.size → k ≠ g → D.heap[k]? = w.heap[k]?) ∧ D.heap[g]? = some (.cells (cellC 0 1 (.func (.func F) #[] l) 0 ByteArray.empty) 55 (0, 0)) ∧
      D.heap[w.heap.size]? = some (.cells #[.pointer (some ⟨g, 0, none⟩)] 27 (0, 0)) ∧ D.heap.size = w.heap.size + 1 ∧ ∀ B, B ≤ g → Below B w D := by
  have hg := lt_of_block e0
  refine ⟨_, rfl, ?_, ?_, ?_, ?_, ?_⟩
  · intro k hk hne
    show (askW g w).heap[k]? = _
    unfold askW
    rw [Below.heap_setCell _ _ _ _ hne]
    exact Lib.alloc_old _ _ _ hk
  · show (askW g w).heap[g]? = _
    unfold askW
    exact heap_set ((Lib.alloc_old _ _ _ hg).trans e0)
  · show (askW g w).heap[w.heap.size]? = _
    unfold askW
    rw [Below.heap_setCell _ _ _ _ (by show w.heap.size ≠ g; omega)]
    exact heap_alloc_new w _
  · show (askW g w).heap.size = _
    unfold askW; simp [World.size_setCell]
  · intro B hB
    unfold askW
    exact (((Below.refl B w).alloc (by omega) _).setCell hB _).drew

theorem below_cell_lt {B : Nat} {w w' : World} (h : Below B w w') {a : Addr} (ha : a.block < B) : w'.cell? a = w.cell? a := h.cell ha

theorem OnceAt.moved {w w' : World} {N tc : Nat} {ao : Option Addr} {A : List ByteArray} {gs vs : List Nat} {m : Nat → Bool} (h : OnceAt w N ao tc A gs vs m) (hb : Below N w w')
    (hk : ∀ (b : Nat) (c : Array Value) (e : TypeId) (fz : Nat × Nat), w.heap[b]? = some (.cells c e fz) → e ≠ 27 → w'.heap[b]? = some (.cells c e fz)) : OnceAt w' N ao tc A gs vs m := by
  obtain ⟨cs, k1, k2, k3⟩ := h.cnt
  refine ⟨⟨cs, hk _ _ _ _ k1 (by decide), k2, k3⟩, hk _ _ _ _ h.cbox (by decide), hk _ _ _ _ h.box (by decide), fun t s hs => ?_, h.len, h.le, fun t v hv => hk _ _ _ _ (h.idx t v hv) (by decide), fun t g v s h1 h2 h3 => hk _ _ _ _ (h.cell t g v s h1 h2 h3) (by decide), h.low, h.lowv⟩
  obtain ⟨tb, to, e1, e2, e3⟩ := h.txt t s hs
  exact ⟨tb, to, e1, e2, (below_cell_lt hb e2).trans e3⟩

theorem OnceAt.below {w w' : World} {N tc : Nat} {ao : Option Addr} {A : List ByteArray} {gs vs : List Nat} {m : Nat → Bool} (h : OnceAt w N ao tc A gs vs m) (hb : Below w.heap.size w w') : OnceAt w' N ao tc A gs vs m :=
  h.moved (hb.mono (by have := lt_of_block h.box; omega)) fun b c e fz e0 _ => (hb.block b (lt_of_block e0)).trans e0

theorem OnceAt.others {w w' : World} {N tc : Nat} {ao : Option Addr} {A : List ByteArray} {gs vs : List Nat} {m : Nat → Bool} (h : OnceAt w N ao tc A gs vs m) (hb : Below N w w') (hk : Lib.OthersKept 27 none w w') : OnceAt w' N ao tc A gs vs m :=
  h.moved hb fun b c e fz e0 hne => hk b _ e0 (by simp) (by intro c' fz' h'; simp only [Obj.cells.injEq] at h'; exact hne h'.2.1)

theorem OnceAt.inj {w : World} {N tc : Nat} {ao : Option Addr} {A : List ByteArray} {gs vs : List Nat} {m : Nat → Bool} (h : OnceAt w N ao tc A gs vs m) {t k g : Nat} (h1 : gs[t]? = some g) (h2 : gs[k]? = some g) : t = k := by
  have lt1 := (List.getElem?_eq_some_iff.1 h1).1
  have lt2 := (List.getElem?_eq_some_iff.1 h2).1
  have hl := h.len
  have hle := h.le
  obtain ⟨v, hv⟩ : ∃ v, vs[t]? = some v := ⟨_, List.getElem?_eq_getElem (by omega)⟩
  obtain ⟨u, hu⟩ : ∃ v, vs[k]? = some v := ⟨_, List.getElem?_eq_getElem (by omega)⟩
  obtain ⟨s, hs⟩ : ∃ v, A[t]? = some v := ⟨_, List.getElem?_eq_getElem (by omega)⟩
  obtain ⟨r, hr⟩ : ∃ v, A[k]? = some v := ⟨_, List.getElem?_eq_getElem (by omega)⟩
  have c1 := h.cell t g v s h1 hv hs
  rw [h.cell k g u r h2 hu hr] at c1
  have huv : u = v := by
    simp only [Option.some.injEq, Obj.cells.injEq] at c1
    have := congrArg (fun a : Array Value => a[3]?) c1.1
    simp [onceC, cellC, onceL] at this
    exact this
  subst huv
  have i1 := h.idx t u hv
  rw [h.idx k u hu] at i1
  simp at i1
  omega

set_option maxHeartbeats 1000000 in
theorem get_once {w : World} {N tc k g v : Nat} {ao : Option Addr} {A : List ByteArray} {gs vs : List Nat} {m : Nat → Bool} {s : ByteArray} (h : OnceAt w N ao tc A gs vs m) (hn : A.length ≤ 20) (hgk : gs[k]? = some g) (hvk : vs[k]? = some v) (hsk : A[k]? = some s) (hsz : s.size ≤ 1000) :
    Calls Try.prog 12 #[.pointer (some ⟨g, 0, none⟩)] w fun e w' => e = .returned (.string (s ++ ⟨#[49]⟩)) ∧ OnceAt w' N ao tc A gs vs (fun t => t == k || m t) ∧ OnceFr N g w w' := by
  have hkA : k < A.length := (List.getElem?_eq_some_iff.1 hsk).1
  have hgl : N + 3 ≤ g := h.low g (List.mem_of_getElem? hgk)
  have hvl : N + 3 ≤ v := h.lowv v (List.mem_of_getElem? hvk)
  have hNw : N < w.heap.size := lt_of_block h.box
  have e0 := h.cell k g v s hgk hvk hsk
  by_cases hm : m k = true
  · have hmm : (fun t => t == k || m t) = m := by
      funext t
      by_cases e : t = k
      · subst e; simp [hm]
      · simp [e]
    rw [hmm]
    unfold onceC at e0
    rw [hm] at e0
    simp only [if_true] at e0
    refine (get_told w e0).mono ?_
    rintro e w' ⟨rfl, hb⟩
    exact ⟨rfl, h.below hb, hb.size, fun j _ _ hj => hb.block j hj, hb.mono (by omega)⟩
  · have hm' : m k = false := by cases hx : m k <;> simp_all
    unfold onceC at e0
    rw [hm'] at e0
    simp only [Bool.false_eq_true, if_false] at e0
    obtain ⟨D, hDe, hD, hDg, hDx, hDs, hDb⟩ := asked_facts e0
    obtain ⟨cs, k1, k2, k3⟩ := h.cnt
    have hglt := lt_of_block e0
    have kD : ∀ {b : Nat} {o : Obj}, w.heap[b]? = some o → b ≠ g → D.heap[b]? = some o := fun {b o} e hb => (hD b (lt_of_block e) hb).trans e
    have d1 := kD k1 (by omega)
    have d2 := kD h.cbox (by omega)
    have d0 := kD h.box (by omega)
    have hvg : v ≠ g := by
      rintro rfl
      rw [h.idx k v hvk] at e0
      simp only [Option.some.injEq, Obj.cells.injEq] at e0
      exact absurd e0.2.1 (by decide)
    have dv := kD (h.idx k v hvk) hvg
    obtain ⟨tb, to, ha, htb, ht⟩ := h.txt k s hsk
    have hbD : Below N w D := hDb N (by omega)
    have dt : D.cell? ⟨tb, to + k, none⟩ = some (.string s) := (below_cell_lt hbD htb).trans ht
    obtain ⟨W1, hW1⟩ : ∃ W, W = D.setCell ⟨N + 1, k, none⟩ (.int .i64 1) := ⟨_, rfl⟩
    have oth : ∀ j, j ≠ N + 1 → W1.heap[j]? = D.heap[j]? := fun j hj => by rw [hW1]; exact Below.heap_setCell _ _ _ _ hj
    have n1 : W1.heap[N + 1]? = some (.cells (cs.setIfInBounds k (.int .i64 1)) 3 (0, 0)) := by rw [hW1]; exact heap_set_cells1 d1
    have s1 : W1.heap.size = w.heap.size + 1 := by rw [hW1, World.size_setCell, hDs]
    have hb1 : Below N D W1 := by rw [hW1]; exact (Below.refl N D).setCell (by simp) _
    have x0 : D.cell? ⟨N + 1, k, none⟩ = some (.int .i64 0) := by
      have := k3 k hkA
      rw [hm'] at this
      simpa using (Lib.cell_of_heap d1 k).trans this
    have HF := once1_any (C := N + 1) (n := A.length) (j := k) (tb := tb) (to := to) (tc := tc) (c := ⟨N + 2, 0, none⟩) (v := ⟨v, 0, none⟩) (b := ⟨N, 0, none⟩) (s := s) D W1 hkA (by omega) hsz hW1 (Lib.cell_of_heap d2 0) (Lib.cell_of_heap dv 0) x0 (Lib.frozen_of_heap d1 k)
      (Lib.cell_of_heap ((oth _ (by omega)).trans d2) 0) (Lib.cell_of_heap ((oth _ (by omega)).trans dv) 0) (by rw [← ha]; exact Lib.cell_of_heap ((oth _ (by omega)).trans d0) 0)
      ((Lib.cell_of_heap n1 k).trans (by rw [Array.getElem?_setIfInBounds_self_of_lt (by omega)])) ((below_cell_lt hb1 htb).trans dt)
    have HQ : MakeQ (fun W => Below W1.heap.size W1 W) g w.heap.size 9 (onceL N v) 1 ByteArray.empty := ⟨fun W hW => by
        rw [hW.block _ (by omega), oth _ (by omega)]
        exact hDg, fun W hW => by
        rw [hW.block _ (by omega), oth _ (by omega)]
        exact hDx⟩
    have HG := getter_once (some ⟨N + 2, 0, none⟩) (some ⟨v, 0, none⟩) (some ⟨N, 0, none⟩) (askW g w) HQ (by have := hDx; rw [hDe] at this; exact this) (by have := hDg; rw [hDe] at this; exact this) (by rw [← hDe]; exact HF)
    refine (get_first w HQ e0 HG).mono ?_
    rintro e wf ⟨rfl, W, hW, t1, t2, t3, t4⟩
    have key : ∀ {b : Nat} {o : Obj}, w.heap[b]? = some o → b ≠ N + 1 → b ≠ g → wf.heap[b]? = some o := fun {b o} e h1 h2 => by
      have hlt := lt_of_block e
      rw [t2 b h2, hW.block b (by omega), oth b h1]
      exact kD e h2
    have bw : Below N w wf := ((hbD.trans hb1).trans (hW.mono (by omega))).trans (t4 N (by omega))
    have nf : wf.heap[N + 1]? = some (.cells (cs.setIfInBounds k (.int .i64 1)) 3 (0, 0)) := by
      rw [t2 _ (by omega), hW.block _ (by omega)]
      exact n1
    refine ⟨rfl, ⟨⟨_, nf, by simp [k2], fun t ht => ?_⟩, key h.cbox (by omega) (by omega), key h.box (by omega) (by omega), fun t r hr => ?_, h.len, h.le, fun t u hu => ?_, fun t g' u r h1 h2 h3 => ?_, h.low, h.lowv⟩, ?_, fun j h1 h2 h3 => ?_, bw⟩
    · by_cases e : t = k
      · subst e
        rw [Array.getElem?_setIfInBounds_self_of_lt (by omega)]
        simp
      · rw [Array.getElem?_setIfInBounds_ne (by omega), k3 t ht]
        show _ = some (Value.int .i64 (if (t == k || m t) = true then 1 else 0))
        rw [beq_false_of_ne e, Bool.false_or]
    · obtain ⟨tb', to', e1, e2, e3⟩ := h.txt t r hr
      exact ⟨tb', to', e1, e2, (below_cell_lt bw e2).trans e3⟩
    · have hu0 := h.idx t u hu
      have hul := h.lowv u (List.mem_of_getElem? hu)
      refine key hu0 (by omega) ?_
      rintro rfl
      rw [hu0] at e0
      simp only [Option.some.injEq, Obj.cells.injEq] at e0
      exact absurd e0.2.1 (by decide)
    · by_cases e : t = k
      · subst e
        rw [hgk] at h1
        cases h1
        rw [hvk] at h2
        cases h2
        rw [hsk] at h3
        cases h3
        rw [t1]
        simp [onceC]
      · have hgg : g' ≠ g := by
          rintro rfl
          exact e (h.inj h1 hgk)
        have hgl' := h.low g' (List.mem_of_getElem? h1)
        rw [key (h.cell t g' u r h1 h2 h3) (by omega) hgg]
        show _ = some (Obj.cells (onceC N u r (t == k || m t)) _ _)
        rw [beq_false_of_ne e, Bool.false_or]
    · rw [t3]
      have := hW.size
      omega
    · rw [t2 j h2, hW.block j (by omega), oth j h1, hD j h3 h2]
end Go.Proofs.Ytcfadekcdcphnaa
