/- Cells made of one another: Get. -/
import Derived.Test.YtcfadekcdcphnaaCe9
namespace Go.Proofs.Ytcfadekcdcphnaa
open Go.RowKit
set_option linter.unusedVariables false

def dotsB (k : Nat) : ByteArray := ⟨(List.replicate k 46).toArray⟩
theorem dotsB_size (k : Nat) : (dotsB k).size = k := by simp [dotsB, ByteArray.size]
theorem dotsB_succ (k : Nat) : dotsB k ++ ⟨#[46]⟩ = dotsB (k + 1) := by
  have h : (dotsB k ++ ⟨#[46]⟩).data = (dotsB (k + 1)).data := by
    rw [ByteArray.data_append]
    apply Array.toList_inj.1
    simp [dotsB, List.replicate_succ']
  cases hx : dotsB k ++ ⟨#[46]⟩ with
  | mk d => rw [hx] at h; cases hy : dotsB (k + 1) with | mk d' => rw [hy] at h; exact congrArg ByteArray.mk h

abbrev vB (N i : Nat) : Nat := N + 4 + 2 * i
abbrev gB (N i : Nat) : Nat := N + 5 + 2 * i

def chainL (N i : Nat) : Array Value := #[.pointer (some ⟨N + 1, 0, none⟩), .pointer (some ⟨vB N i, 0, none⟩), .pointer (some ⟨N + 3, 0, none⟩)]
def chainC (N m t : Nat) : Array Value := cellC (if t < m then 1 else 0) 0 (.func (.func 18) #[] (chainL N t)) (if t < m then 1 else 0) (if t < m then dotsB (t + 1) else ByteArray.empty)

/-- The cells below k, the first m of them told. -/
structure ChainAt (w : World) (N n k m : Nat) : Prop where
  cnt : ∃ cs, w.heap[N]? = some (.cells cs 3 (0, 0)) ∧ cs.size = n ∧ ∀ t, t < k → cs[t]? = some (.int .i64 (if t < m then 1 else 0))
  cbox : w.heap[N + 1]? = some (.cells #[.slice (some ⟨N, 0, none⟩) n n] 23 (0, 0))
  row : ∃ ps, w.heap[N + 2]? = some (.cells ps 27 (0, 0)) ∧ ∀ t, t < k → ps[t]? = some (.pointer (some ⟨gB N t, 0, none⟩))
  abox : w.heap[N + 3]? = some (.cells #[.slice (some ⟨N + 2, 0, none⟩) n n] 26 (0, 0))
  idx : ∀ t, t < k → w.heap[vB N t]? = some (.cells #[.int .i64 t] 3 (0, 0))
  cell : ∀ t, t < k → w.heap[gB N t]? = some (.cells (chainC N m t) 55 (0, 0))

/-- Nothing has turned but the counts, and the cells, up to i. -/
structure ChFrame (N i : Nat) (w w' : World) : Prop where
  size : w.heap.size ≤ w'.heap.size
  kept : ∀ j, j ≠ N → (∀ t, t ≤ i → j ≠ gB N t) → j < w.heap.size → w'.heap[j]? = w.heap[j]?
  cnts : ∀ t, i < t → w'.cell? ⟨N, t, none⟩ = w.cell? ⟨N, t, none⟩
  below : Below N w w'

theorem cells_get {w : World} {b t : Nat} {cs : Array Value} {e : TypeId} {fz : Nat × Nat} (h : w.heap[b]? = some (.cells cs e fz)) : w.cell? ⟨b, t, none⟩ = cs[t]? := Lib.cell_of_heap h t

/-- fewer cells -/
theorem ChainAt.low {w : World} {N n k m k' m' : Nat} (h : ChainAt w N n k m) (hk : k' ≤ k) (hm : ∀ t, t < k' → (t < m' ↔ t < m)) : ChainAt w N n k' m' := by
  obtain ⟨cs, h1, h2, h3⟩ := h.cnt
  obtain ⟨ps, h4, h5⟩ := h.row
  refine ⟨⟨cs, h1, h2, fun t ht => ?_⟩, h.cbox, ⟨ps, h4, fun t ht => h5 t (by omega)⟩, h.abox, fun t ht => h.idx t (by omega), fun t ht => ?_⟩
  · rw [h3 t (by omega)]
    simp only [hm t ht]
  · rw [h.cell t (by omega)]
    unfold chainC
    simp only [hm t ht]

theorem ChainAt.lt {w : World} {N n k m t : Nat} (h : ChainAt w N n k m) (ht : t < k) : gB N t < w.heap.size := lt_of_block (h.cell t ht)

/-- all as it was, where nothing has turned -/
theorem ChainAt.below {w w' : World} {N n k m : Nat} (h : ChainAt w N n k m) (hb : Below w.heap.size w w') : ChainAt w' N n k m := by
  obtain ⟨cs, h1, h2, h3⟩ := h.cnt
  obtain ⟨ps, h4, h5⟩ := h.row
  have key : ∀ {b : Nat} {o : Obj}, w.heap[b]? = some o → w'.heap[b]? = some o := fun {b o} e => (hb.block b (lt_of_block e)).trans e
  exact ⟨⟨cs, key h1, h2, h3⟩, key h.cbox, ⟨ps, key h4, h5⟩, key h.abox, fun t ht => key (h.idx t ht), fun t ht => key (h.cell t ht)⟩

theorem ChFrame.of_below {N i : Nat} {w w' : World} (hN : N < w.heap.size) (hb : Below w.heap.size w w') : ChFrame N i w w' :=
  ⟨hb.size, fun j _ _ hj => hb.block j hj, fun t _ => by
    have := hb.block N hN
    simp only [World.cell?, this], hb.mono (by omega)⟩

theorem ChFrame.trans {N i : Nat} {w w1 w2 : World} (h : ChFrame N i w w1) (k : ChFrame N i w1 w2) : ChFrame N i w w2 :=
  ⟨Nat.le_trans h.size k.size, fun j h1 h2 h3 => (k.kept j h1 h2 (Nat.lt_of_lt_of_le h3 h.size)).trans (h.kept j h1 h2 h3), fun t ht => (k.cnts t ht).trans (h.cnts t ht), h.below.trans k.below⟩

/-- the world in which cell i's maker is asked, and its count is one more -/
theorem ask_facts {w : World} {N n i m : Nat} (h : ChainAt w N n (i + 1) m) (hm : m ≤ i) (hin : i < n) :
    ∃ D, D = (askW (gB N i) w).drew ∧ (∀ k, k < w.heap.size → k ≠ gB N i → D.heap[k]? = w.heap[k]?) ∧ D.heap[gB N i]? = some (.cells (cellC 0 1 (.func (.func 18) #[] (chainL N i)) 0 ByteArray.empty) 55 (0, 0)) ∧
      D.heap[w.heap.size]? = some (.cells #[.pointer (some ⟨gB N i, 0, none⟩)] 27 (0, 0)) ∧ D.heap.size = w.heap.size + 1 ∧ ∀ B, B ≤ gB N i → Below B w D := by
  have hg := h.lt (t := i) (by omega)
  have e0 := h.cell i (by omega)
  unfold chainC at e0
  rw [if_neg (by omega), if_neg (by omega)] at e0
  refine ⟨_, rfl, ?_, ?_, ?_, ?_, ?_⟩
  · intro k hk hne
    show (askW (gB N i) w).heap[k]? = _
    unfold askW
    rw [Below.heap_setCell _ _ _ _ hne]
    exact Lib.alloc_old _ _ _ hk
  · show (askW (gB N i) w).heap[gB N i]? = _
    unfold askW
    exact heap_set ((Lib.alloc_old _ _ _ hg).trans e0)
  · show (askW (gB N i) w).heap[w.heap.size]? = _
    unfold askW
    rw [Below.heap_setCell _ _ _ _ (by show w.heap.size ≠ gB N i; omega)]
    exact heap_alloc_new w _
  · show (askW (gB N i) w).heap.size = _
    unfold askW; simp [World.size_setCell]
  · intro B hB
    unfold askW
    exact (((Below.refl B w).alloc (by omega) _).setCell hB _).drew

/-- what stands at the end, put together -/
theorem chain_end {w D W wf : World} {N n i m : Nat} {cs : Array Value} (h : ChainAt w N n (i + 1) m) (hm : m ≤ i) (hin : i < n) (hDs : D.heap.size = w.heap.size + 1) (hD : ∀ k, k < w.heap.size → k ≠ gB N i → D.heap[k]? = w.heap[k]?) (hDb : Below N w D)
    (hcs : W.heap[N]? = some (.cells cs 3 (0, 0))) (hcz : cs.size = n) (hc1 : ∀ t, t ≤ i → cs[t]? = some (.int .i64 1)) (hc2 : ∀ t, i < t → cs[t]? = w.cell? ⟨N, t, none⟩)
    (hlow : ∀ t, t < i → W.heap[gB N t]? = some (.cells (chainC N i t) 55 (0, 0))) (hW : ∀ j, j ≠ N → (∀ t, t ≤ i → j ≠ gB N t) → j < w.heap.size → W.heap[j]? = D.heap[j]?) (hWs : D.heap.size ≤ W.heap.size) (hWb : Below N D W)
    (t1 : wf.heap[gB N i]? = some (.cells (cellC 1 0 (.func (.func 18) #[] (chainL N i)) 1 (dotsB (i + 1))) 55 (0, 0))) (t2 : ∀ k, k ≠ gB N i → wf.heap[k]? = W.heap[k]?) (t3 : wf.heap.size = W.heap.size) (t4 : ∀ B, B ≤ gB N i → Below B W wf) :
    ChainAt wf N n (i + 1) (i + 1) ∧ ChFrame N i w wf := by
  have key : ∀ {b : Nat} {o : Obj}, w.heap[b]? = some o → b ≠ N → (∀ t, t ≤ i → b ≠ gB N t) → wf.heap[b]? = some o := fun {b o} e h1 h2 => by
    rw [t2 b (h2 i (Nat.le_refl _)), hW b h1 h2 (lt_of_block e), hD b (lt_of_block e) (h2 i (Nat.le_refl _))]
    exact e
  have hNf : wf.heap[N]? = some (.cells cs 3 (0, 0)) := by rw [t2 N (by unfold gB; omega)]; exact hcs
  obtain ⟨ps, h4, h5⟩ := h.row
  refine ⟨⟨⟨cs, hNf, hcz, fun t ht => by rw [hc1 t (by omega), if_pos ht]⟩, key h.cbox (by omega) (fun t _ => by unfold gB; omega), ⟨ps, key h4 (by omega) (fun t _ => by unfold gB; omega), h5⟩, key h.abox (by omega) (fun t _ => by unfold gB; omega), fun t ht => key (h.idx t ht) (by unfold vB; omega) (fun u _ => by unfold gB vB; omega), fun t ht => ?_⟩, ?_, ?_, ?_, ?_⟩
  · by_cases hti : t = i
    · subst hti
      rw [t1]
      unfold chainC
      rw [if_pos (by omega), if_pos (by omega)]
    · rw [t2 _ (by unfold gB; omega), hlow t (by omega)]
      unfold chainC
      rw [if_pos (by omega), if_pos (by omega), if_pos (by omega), if_pos (by omega)]
  · rw [t3]; omega
  · intro j h1 h2 h3
    rw [t2 j (h2 i (Nat.le_refl _)), hW j h1 h2 h3, hD j h3 (h2 i (Nat.le_refl _))]
  · intro t ht
    rw [cells_get hNf, hc2 t ht]
  · exact (hDb.trans hWb).trans (t4 N (by unfold gB; omega))
end Go.Proofs.Ytcfadekcdcphnaa
