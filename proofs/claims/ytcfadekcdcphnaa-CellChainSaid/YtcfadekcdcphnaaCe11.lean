/- Cells made of one another: Get tells all cells up to its own. -/
import Derived.Test.YtcfadekcdcphnaaCe10
namespace Go.Proofs.Ytcfadekcdcphnaa
open Go.RowKit
set_option linter.unusedVariables false

theorem heap_set_cells {w : World} {g i : Nat} {v : Value} {c : Array Value} {e : TypeId} {fz : Nat × Nat} (h : w.heap[g]? = some (.cells c e fz)) : (w.setCell ⟨g, i, none⟩ v).heap[g]? = some (.cells (c.setIfInBounds i v) e fz) := heap_set h

set_option maxHeartbeats 1000000 in
theorem get_chain {N n : Nat} (hn : n ≤ 40) : ∀ (i m : Nat) (w : World), i < n → m ≤ i + 1 → ChainAt w N n (i + 1) m →
    Calls Try.prog 12 #[.pointer (some ⟨gB N i, 0, none⟩)] w fun e w' => e = .returned (.string (dotsB (i + 1))) ∧ ChainAt w' N n (i + 1) (i + 1) ∧ ChFrame N i w w' := by
  intro i
  induction i with
  | zero =>
    intro m w hin hmi h
    have hNw : N < w.heap.size := by obtain ⟨cs, k1, _⟩ := h.cnt; exact lt_of_block k1
    by_cases hm : m ≤ 0
    · obtain ⟨D, hDe, hD, hDg, hDx, hDs, hDb⟩ := ask_facts h hm hin
      obtain ⟨cs, k1, k2, k3⟩ := h.cnt
      have e0 := h.cell 0 (by omega)
      unfold chainC at e0
      rw [if_neg (by omega), if_neg (by omega)] at e0
      have kD : ∀ {b : Nat} {o : Obj}, w.heap[b]? = some o → b ≠ gB N 0 → D.heap[b]? = some o := fun {b o} e hb => (hD b (lt_of_block e) hb).trans e
      have d1 := kD k1 (by unfold gB; omega)
      have d2 := kD h.cbox (by unfold gB; omega)
      have d3 := kD (h.idx 0 (by omega)) (by unfold gB vB; omega)
      have x0 : D.cell? ⟨N, 0, none⟩ = some (.int .i64 0) := by rw [cells_get d1, k3 0 (by omega), if_neg (by omega)]
      have hvb : vB N 0 ≠ N := by unfold vB; omega
      have HF := chain1_zero (N := N) (n := n) (c := ⟨N + 1, 0, none⟩) (v := ⟨vB N 0, 0, none⟩) (a := ⟨N + 3, 0, none⟩) (x := 0) D (by omega) (by omega) hin (Lib.cell_of_heap d2 0) (Lib.cell_of_heap d3 0) x0 (Lib.frozen_of_heap d1 0)
        ((World.cell?_setCell_other _ _ _ _ (by intro e; simp only [Addr.mk.injEq] at e; exact hvb e.1.symm)).trans (Lib.cell_of_heap d3 0))
      have oth : ∀ k, k ≠ N → (D.setCell ⟨N, 0, none⟩ (.int .i64 (0 + 1))).heap[k]? = D.heap[k]? := fun k hk => Below.heap_setCell _ _ _ _ hk
      have HQ : MakeQ (fun W => W = D.setCell ⟨N, 0, none⟩ (.int .i64 (0 + 1))) (gB N 0) w.heap.size 18 (chainL N 0) 1 ByteArray.empty := ⟨by
        rintro _ rfl
        rw [oth _ (by unfold gB; omega)]; exact hDg, by
        rintro _ rfl
        rw [oth _ (by omega)]; exact hDx⟩
      have HG := getter_chain (some ⟨N + 1, 0, none⟩) (some ⟨vB N 0, 0, none⟩) (some ⟨N + 3, 0, none⟩) (askW (gB N 0) w) HQ (by have := hDx; rw [hDe] at this; exact this) (by have := hDg; rw [hDe] at this; exact this) (by rw [← hDe]; exact HF)
      refine (get_first w HQ e0 HG).mono ?_
      rintro e wf ⟨rfl, W, hW, t1, t2, t3, t4⟩
      subst hW
      refine ⟨rfl, chain_end (D := D) (cs := cs.setIfInBounds 0 (.int .i64 (0 + 1))) h hm hin hDs hD (hDb N (by unfold gB; omega)) (heap_set_cells d1) (by simp [k2]) ?_ ?_ (fun t ht => absurd ht (by omega)) (fun j h1 _ _ => oth j h1) (by rw [World.size_setCell]; exact Nat.le_refl _) ((Below.refl N D).setCell (Nat.le_refl _) _) t1 t2 t3 t4⟩
      · intro t ht
        obtain rfl : t = 0 := by omega
        rw [Array.getElem?_setIfInBounds_self_of_lt (by omega)]
        rfl
      · intro t ht
        rw [Array.getElem?_setIfInBounds_ne (by omega), cells_get k1]
    · obtain rfl : m = 1 := by omega
      have e0 := h.cell 0 (by omega)
      unfold chainC at e0
      rw [if_pos (by omega), if_pos (by omega)] at e0
      refine (get_told w e0).mono ?_
      rintro e w' ⟨rfl, hb⟩
      exact ⟨rfl, h.below hb, ChFrame.of_below hNw hb⟩
  | succ j ih =>
    intro m w hin hmi h
    have hNw : N < w.heap.size := by obtain ⟨cs, k1, _⟩ := h.cnt; exact lt_of_block k1
    by_cases hm : m ≤ j + 1
    · obtain ⟨D, hDe, hD, hDg, hDx, hDs, hDb⟩ := ask_facts h hm hin
      obtain ⟨cs, k1, k2, k3⟩ := h.cnt
      obtain ⟨ps, k4, k5⟩ := h.row
      have e0 := h.cell (j + 1) (by omega)
      unfold chainC at e0
      rw [if_neg (by omega), if_neg (by omega)] at e0
      have kD : ∀ {b : Nat} {o : Obj}, w.heap[b]? = some o → b ≠ gB N (j + 1) → D.heap[b]? = some o := fun {b o} e hb => (hD b (lt_of_block e) hb).trans e
      have d1 := kD k1 (by unfold gB; omega)
      have d2 := kD h.cbox (by unfold gB; omega)
      have d3 := kD (h.idx (j + 1) (by omega)) (by unfold gB vB; omega)
      have d4 := kD k4 (by unfold gB; omega)
      have d5 := kD h.abox (by unfold gB; omega)
      have x0 : D.cell? ⟨N, j + 1, none⟩ = some (.int .i64 0) := by rw [cells_get d1, k3 (j + 1) (by omega), if_neg (by omega)]
      obtain ⟨D1, hD1⟩ : ∃ D1, D1 = D.setCell ⟨N, j + 1, none⟩ (.int .i64 (0 + 1)) := ⟨_, rfl⟩
      have oth : ∀ k, k ≠ N → D1.heap[k]? = D.heap[k]? := fun k hk => by rw [hD1]; exact Below.heap_setCell _ _ _ _ hk
      have n1 : D1.heap[N]? = some (.cells (cs.setIfInBounds (j + 1) (.int .i64 (0 + 1))) 3 (0, 0)) := by rw [hD1]; exact heap_set_cells d1
      have s1 : D1.heap.size = w.heap.size + 1 := by rw [hD1, World.size_setCell, hDs]
      have hL : ChainAt D1 N n (j + 1) m := ⟨⟨_, n1, by simp [k2], fun t ht => by rw [Array.getElem?_setIfInBounds_ne (by omega)]; exact k3 t (by omega)⟩, (oth _ (by omega)).trans d2, ⟨ps, (oth _ (by omega)).trans d4, fun t ht => k5 t (by omega)⟩, (oth _ (by omega)).trans d5,
        fun t ht => (oth _ (by unfold vB; omega)).trans (kD (h.idx t (by omega)) (by unfold gB vB; omega)), fun t ht => (oth _ (by unfold gB; omega)).trans (kD (h.cell t (by omega)) (by unfold gB; omega))⟩
      have IH := ih m D1 (by omega) hm hL
      have c2 := Lib.cell_of_heap d2 0
      have c3 := Lib.cell_of_heap d3 0
      have c3' : D1.cell? ⟨vB N (j + 1), 0, none⟩ = some (.int .i64 ((j + 1 : Nat) : Int)) := Lib.cell_of_heap ((oth _ (by unfold vB; omega)).trans d3) 0
      have c5 : D1.cell? ⟨N + 3, 0, none⟩ = some (.slice (some ⟨N + 2, 0, none⟩) n n) := Lib.cell_of_heap ((oth _ (by omega)).trans d5) 0
      have c4 : D1.cell? ⟨N + 2, j, none⟩ = some (.pointer (some ⟨gB N j, 0, none⟩)) := by rw [cells_get ((oth _ (by omega)).trans d4)]; exact k5 j (by omega)
      have HF := chain1_succ (N := N) (M := N + 2) (n := n) (j := j) (c := ⟨N + 1, 0, none⟩) (v := ⟨vB N (j + 1), 0, none⟩) (a := ⟨N + 3, 0, none⟩) (g := ⟨gB N j, 0, none⟩) (x := 0) (s := dotsB (j + 1))
        (Q := fun W => ChainAt W N n (j + 1) (j + 1) ∧ ChFrame N j D1 W) D (by omega) (by omega) hin (by omega) (by rw [dotsB_size]; omega) c2 c3 x0 (Lib.frozen_of_heap d1 (j + 1)) (by rw [← hD1]; exact c3') (by rw [← hD1]; exact c5) (by rw [← hD1]; exact c4) (by rw [← hD1]; exact IH)
      rw [dotsB_succ] at HF
      have HQ : MakeQ (fun W => ChainAt W N n (j + 1) (j + 1) ∧ ChFrame N j D1 W) (gB N (j + 1)) w.heap.size 18 (chainL N (j + 1)) 1 ByteArray.empty := ⟨by
        rintro W ⟨_, hf⟩
        rw [hf.kept _ (by unfold gB; omega) (fun t ht => by unfold gB; omega) (by rw [s1]; have := h.lt (t := j + 1) (by omega); omega), oth _ (by unfold gB; omega)]
        exact hDg, by
        rintro W ⟨_, hf⟩
        rw [hf.kept _ (by omega) (fun t ht => by have := h.lt (t := t) (by omega); omega) (by rw [s1]; omega), oth _ (by omega)]
        exact hDx⟩
      have HG := getter_chain (some ⟨N + 1, 0, none⟩) (some ⟨vB N (j + 1), 0, none⟩) (some ⟨N + 3, 0, none⟩) (askW (gB N (j + 1)) w) HQ (by have := hDx; rw [hDe] at this; exact this) (by have := hDg; rw [hDe] at this; exact this) (by rw [← hDe]; exact HF)
      refine (get_first w HQ e0 HG).mono ?_
      rintro e wf ⟨rfl, W, ⟨hW, hf⟩, t1, t2, t3, t4⟩
      obtain ⟨cs', q1, q2, q3⟩ := hW.cnt
      refine ⟨rfl, chain_end (D := D) (cs := cs') h hm hin hDs hD (hDb N (by unfold gB; omega)) q1 q2 ?_ ?_ (fun t ht => hW.cell t ht) ?_ ?_ ?_ t1 t2 t3 t4⟩
      · intro t ht
        by_cases htj : t < j + 1
        · rw [q3 t htj, if_pos htj]
        · obtain rfl : t = j + 1 := by omega
          rw [← cells_get q1, hf.cnts (j + 1) (by omega), cells_get n1, Array.getElem?_setIfInBounds_self_of_lt (by omega)]
          rfl
      · intro t ht
        rw [← cells_get q1, hf.cnts t (by omega), cells_get n1, Array.getElem?_setIfInBounds_ne (by omega), ← cells_get k1]
      · intro b h1 h2 h3
        rw [hf.kept b h1 (fun t ht => h2 t (by omega)) (by rw [s1]; omega), oth b h1]
      · have := hf.size
        rw [hDs, ← s1]
        exact this
      · refine Below.trans ?_ hf.below
        rw [hD1]
        exact (Below.refl N D).setCell (Nat.le_refl _) _
    · obtain rfl : m = j + 1 + 1 := by omega
      have e0 := h.cell (j + 1) (by omega)
      unfold chainC at e0
      rw [if_pos (by omega), if_pos (by omega)] at e0
      refine (get_told w e0).mono ?_
      rintro e w' ⟨rfl, hb⟩
      exact ⟨rfl, h.below hb, ChFrame.of_below hNw hb⟩
end Go.Proofs.Ytcfadekcdcphnaa
