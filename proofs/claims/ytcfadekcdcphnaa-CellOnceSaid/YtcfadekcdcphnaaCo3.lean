/- CellOnce: the states of the law's loops. -/
import Derived.Test.YtcfadekcdcphnaaCo2
namespace Go.Proofs.Ytcfadekcdcphnaa
open Go.RowKit
set_option linter.unusedVariables false

def ptrsL (gs : List Nat) : List (List Value) := gs.map fun g => [Value.pointer (some ⟨g, 0, none⟩)]

/-- the first loop, at round i: the variable of the round at vb, the cells in the slice va -/
structure LoopO (w0 w : World) (N : Nat) (ao : Option Addr) (tc : Nat) (A : List ByteArray) (i vb : Nat) (va : Value) (gs vs : List Nat) : Prop where
  at_ : OnceAt w N ao tc A gs vs (fun _ => false)
  len : gs.length = i
  own : Own w N 27 1 va (ptrsL gs)
  var : w.heap[vb]? = some (.cells #[.int .i64 i] 3 (0, 0))
  lowv : N + 3 ≤ vb
  below : Below N w0 w

theorem once_row {w : World} {ao : Option Addr} {A : List ByteArray} (h : Row w 1 ao (A.map fun p => [.string p])) : ∀ t s, A[t]? = some s → ∃ tb to, ao = some ⟨tb, to, none⟩ ∧ tb < w.heap.size ∧ w.cell? ⟨tb, to + t, none⟩ = some (.string s) := by
  intro t s hs
  obtain ⟨b, o, rfl, hat⟩ := h (by intro e; simp at e; subst e; simp at hs)
  have hc := strRow_cell hat hs
  exact ⟨b, o, rfl, cell_lt hc, hc⟩

theorem loopO_start {w W : World} {ao : Option Addr} {tc : Nat} {A : List ByteArray} {CI : Array Value} (hCI : CI = madeCells #[Value.int .i64 0] A.length) (hrow : Row w 1 ao (A.map fun p => [.string p]))
    (hW : W = (((w.alloc (.cells #[.slice ao A.length tc] 22)).alloc (.cells CI 3)).alloc (.cells #[.slice (some ⟨w.heap.size + 1, 0, none⟩) A.length A.length] 23)).alloc (.cells #[.int .i64 0] 3)) :
    LoopO w W w.heap.size ao tc A 0 (w.heap.size + 3) (.slice none 0 0) [] [] := by
  obtain ⟨A1, hA1⟩ : ∃ X, X = w.alloc (.cells #[.slice ao A.length tc] 22) := ⟨_, rfl⟩
  obtain ⟨A2, hA2⟩ : ∃ X, X = A1.alloc (.cells CI 3) := ⟨_, rfl⟩
  obtain ⟨A3, hA3⟩ : ∃ X, X = A2.alloc (.cells #[.slice (some ⟨w.heap.size + 1, 0, none⟩) A.length A.length] 23) := ⟨_, rfl⟩
  rw [← hA1, ← hA2, ← hA3] at hW
  have s1 : A1.heap.size = w.heap.size + 1 := by rw [hA1]; simp
  have s2 : A2.heap.size = w.heap.size + 2 := by rw [hA2]; simp [s1]
  have s3 : A3.heap.size = w.heap.size + 3 := by rw [hA3]; simp [s2]
  have e1 : A1.heap[w.heap.size]? = some (.cells #[.slice ao A.length tc] 22 (0, 0)) := by rw [hA1]; exact heap_alloc_new w _
  have e2 : A2.heap[w.heap.size + 1]? = some (.cells CI 3 (0, 0)) := by rw [hA2, ← s1]; exact heap_alloc_new A1 _
  have e3 : A3.heap[w.heap.size + 2]? = some (.cells #[.slice (some ⟨w.heap.size + 1, 0, none⟩) A.length A.length] 23 (0, 0)) := by rw [hA3, ← s2]; exact heap_alloc_new A2 _
  have e4 : W.heap[w.heap.size + 3]? = some (.cells #[.int .i64 0] 3 (0, 0)) := by rw [hW, ← s3]; exact heap_alloc_new A3 _
  have u2 : ∀ k, k < w.heap.size + 1 → A2.heap[k]? = A1.heap[k]? := fun k hk => by rw [hA2]; exact Lib.alloc_old _ _ _ (by omega)
  have u3 : ∀ k, k < w.heap.size + 2 → A3.heap[k]? = A2.heap[k]? := fun k hk => by rw [hA3]; exact Lib.alloc_old _ _ _ (by omega)
  have u4 : ∀ k, k < w.heap.size + 3 → W.heap[k]? = A3.heap[k]? := fun k hk => by rw [hW]; exact Lib.alloc_old _ _ _ (by omega)
  have f1 := (u4 w.heap.size (by omega)).trans ((u3 _ (by omega)).trans ((u2 _ (by omega)).trans e1))
  have f2 := (u4 (w.heap.size + 1) (by omega)).trans ((u3 _ (by omega)).trans e2)
  have f3 := (u4 (w.heap.size + 2) (by omega)).trans e3
  have hbW : Below w.heap.size w W := by
    rw [hW, hA3, hA2, hA1]
    exact ((((Below.refl _ w).alloc (Nat.le_refl _) _).alloc (by simp) _).alloc (by simp; omega) _).alloc (by simp; omega) _
  refine ⟨⟨⟨CI, f2, by rw [hCI]; exact size_madeCells _ _, fun t ht => ?_⟩, f3, f1, fun t s hs => ?_, rfl, Nat.zero_le _, fun t v h => by simp at h, fun t g v s h => by simp at h, by simp, by simp⟩, rfl, Own.nil _ _ _ _, e4, Nat.le_refl _, hbW⟩
  · rw [hCI, ← Array.getElem?_toList, toList_madeCells_one, List.getElem?_replicate, if_pos ht]
    rfl
  · obtain ⟨tb, to, h1, h2, h3⟩ := once_row hrow t s hs
    exact ⟨tb, to, h1, h2, (below_cell_lt hbW h2).trans h3⟩

theorem once_push {w : World} {N tc vb : Nat} {ao : Option Addr} {A : List ByteArray} {gs vs : List Nat} {O : Obj} (h : OnceAt w N ao tc A gs vs (fun _ => false)) (hi : gs.length < A.length) (hv : w.heap[vb]? = some (.cells #[.int .i64 gs.length] 3 (0, 0))) (hvb : N + 3 ≤ vb)
    (hO : O = .cells (cellC 0 0 (.func (.func 9) #[] (onceL N vb)) 0 ByteArray.empty) 55) : OnceAt (w.alloc O) N ao tc A (gs ++ [w.heap.size]) (vs ++ [vb]) (fun _ => false) := by
  have hb : Below w.heap.size w (w.alloc O) := (Below.refl _ w).alloc (Nat.le_refl _) _
  have h' := h.below hb
  have hl := h.len
  have hvl := lt_of_block hv
  refine ⟨h'.cnt, h'.cbox, h'.box, h'.txt, by simp [hl], by simp; omega, fun t v hu => ?_, fun t g v s h1 h2 h3 => ?_, fun g hg => ?_, fun v hg => ?_⟩
  · by_cases e : t < vs.length
    · rw [List.getElem?_append_left e] at hu
      exact h'.idx t v hu
    · rw [List.getElem?_append_right (by omega)] at hu
      have ht : t = gs.length := by
        have := (List.getElem?_eq_some_iff.1 hu).1
        simp at this
        omega
      subst ht
      rw [hl, Nat.sub_self] at hu
      simp only [List.getElem?_cons_zero, Option.some.injEq] at hu
      subst hu
      exact (hb.block _ hvl).trans hv
  · by_cases e : t < gs.length
    · rw [List.getElem?_append_left e] at h1
      rw [List.getElem?_append_left (by omega)] at h2
      exact h'.cell t g v s h1 h2 h3
    · rw [List.getElem?_append_right (by omega)] at h1
      rw [List.getElem?_append_right (by omega)] at h2
      have ht : t = gs.length := by
        have := (List.getElem?_eq_some_iff.1 h1).1
        simp at this
        omega
      subst ht
      rw [Nat.sub_self] at h1
      rw [hl, Nat.sub_self] at h2
      simp only [List.getElem?_cons_zero, Option.some.injEq] at h1 h2
      subst h1
      subst h2
      rw [heap_alloc_new, hO]
      rfl
  · rcases List.mem_append.1 hg with hg | hg
    · exact h.low g hg
    · obtain rfl : g = w.heap.size := by simpa using hg
      omega
  · rcases List.mem_append.1 hg with hg | hg
    · exact h.lowv v hg
    · obtain rfl : v = vb := by simpa using hg
      exact hvb

theorem loopO_next {w0 w w9 wd : World} {N tc i vb : Nat} {ao : Option Addr} {A : List ByteArray} {gs vs : List Nat} {va v9 : Value} {O : Obj} (h : LoopO w0 w N ao tc A i vb va gs vs) (hi : i < A.length)
    (hO : O = .cells (cellC 0 0 (.func (.func 9) #[] (onceL N vb)) 0 ByteArray.empty) 55)
    (hown : Own w9 N 27 1 v9 (ptrsL gs ++ [[.pointer (some ⟨w.heap.size, 0, none⟩)]])) (hk : Lib.OthersKept 27 none (w.alloc O) w9) (hb : Below N (w.alloc O) w9)
    (hd : wd = w9.alloc (.cells #[.int .i64 ((i : Int) + 1)] 3)) : LoopO w0 wd N ao tc A (i + 1) w9.heap.size v9 (gs ++ [w.heap.size]) (vs ++ [vb]) := by
  have hp := once_push h.at_ (by rw [h.len]; exact hi) (by rw [h.len]; exact h.var) h.lowv hO
  have h9 := hp.others hb hk
  have hbd : Below w9.heap.size w9 wd := by rw [hd]; exact (Below.refl _ w9).alloc (Nat.le_refl _) _
  have hNw := h.lowv
  have hvw := lt_of_block h.var
  have hsz := hb.size
  simp only [World.alloc, Array.size_push] at hsz
  refine ⟨h9.below hbd, by simp [h.len], ?_, by rw [hd]; exact heap_alloc_new w9 _, by omega, ?_⟩
  · have : ptrsL (gs ++ [w.heap.size]) = ptrsL gs ++ [[.pointer (some ⟨w.heap.size, 0, none⟩)]] := by simp [ptrsL]
    rw [this, hd]
    exact hown.alloc _
  · exact ((h.below.alloc (by omega) O).trans hb).trans (hbd.mono (by omega))

/-- the second loop: the asked at K, those that m says; the cells' slice at ar -/
structure LoopS (w0 w : World) (N : Nat) (ao : Option Addr) (tc : Nat) (A : List ByteArray) (gs vs : List Nat) (ar : Option Addr) (K : Nat) (m : Nat → Bool) : Prop where
  at_ : OnceAt w N ao tc A gs vs m
  len : gs.length = A.length
  row : Row w 1 ar (ptrsL gs)
  ask : ∃ bs, w.heap[K]? = some (.cells bs 4 (0, 0)) ∧ bs.size = A.length ∧ ∀ t, t < A.length → bs[t]? = some (.bool (m t))
  low : N + 3 ≤ K
  below : Below N w0 w

theorem loopS_start {w0 w wd : World} {N tc i vb ac : Nat} {ao ar : Option Addr} {A : List ByteArray} {gs vs : List Nat} {CB : Array Value} (h : LoopO w0 w N ao tc A i vb (.slice ar i ac) gs vs) (hi : i = A.length) (hCB : CB = madeCells #[Value.bool false] A.length)
    (hd : wd = w.alloc (.cells CB 4)) : LoopS w0 wd N ao tc A gs vs ar w.heap.size (fun _ => false) := by
  have hbd : Below w.heap.size w wd := by rw [hd]; exact (Below.refl _ w).alloc (Nat.le_refl _) _
  have h1 := h.lowv
  have h2 := lt_of_block h.var
  refine ⟨h.at_.below hbd, by rw [h.len, hi], h.own.here.below hbd, ⟨CB, by rw [hd]; exact heap_alloc_new w _, by rw [hCB]; exact size_madeCells _ _, fun t ht => ?_⟩, by omega, h.below.trans (hbd.mono (by omega))⟩
  rw [hCB, ← Array.getElem?_toList, toList_madeCells_one, List.getElem?_replicate, if_pos ht]

/-- what is read at k -/
theorem loopS_reads {w0 w : World} {N tc K k : Nat} {ao ar : Option Addr} {A : List ByteArray} {gs vs : List Nat} {m : Nat → Bool} {s : ByteArray} (h : LoopS w0 w N ao tc A gs vs ar K m) (hs : A[k]? = some s) :
    ∃ g v ab aoff tb to, gs[k]? = some g ∧ vs[k]? = some v ∧ ar = some ⟨ab, aoff, none⟩ ∧ ao = some ⟨tb, to, none⟩ ∧ w.cell? ⟨ab, aoff + k, none⟩ = some (.pointer (some ⟨g, 0, none⟩)) ∧ w.cell? ⟨tb, to + k, none⟩ = some (.string s) ∧ w.cell? ⟨K, k, none⟩ = some (.bool (m k)) ∧ w.frozen? ⟨K, k, none⟩ = false ∧
      w.cell? ⟨N, 0, none⟩ = some (.slice ao A.length tc) ∧ w.cell? ⟨N + 2, 0, none⟩ = some (.slice (some ⟨N + 1, 0, none⟩) A.length A.length) ∧ w.cell? ⟨N + 1, k, none⟩ = some (.int .i64 (if m k then 1 else 0)) ∧ w.cell? ⟨g, 4, none⟩ = some (.int .u32 (if m k then 1 else 0)) := by
  have hk : k < A.length := (List.getElem?_eq_some_iff.1 hs).1
  have hl := h.len
  have hvl := h.at_.len
  obtain ⟨g, hg⟩ : ∃ v, gs[k]? = some v := ⟨_, List.getElem?_eq_getElem (by omega)⟩
  obtain ⟨v, hv⟩ : ∃ v, vs[k]? = some v := ⟨_, List.getElem?_eq_getElem (by omega)⟩
  have hpk : (ptrsL gs)[k]? = some [.pointer (some ⟨g, 0, none⟩)] := by unfold ptrsL; rw [List.getElem?_map, hg]; rfl
  obtain ⟨ab, aoff, har, hat⟩ := h.row (by intro e; rw [e] at hpk; simp at hpk)
  have hp : w.cell? ⟨ab, aoff + k, none⟩ = some (.pointer (some ⟨g, 0, none⟩)) := by
    have := hat.cell hpk (j := 0) rfl
    simpa using this
  obtain ⟨tb, to, e1, _, e3⟩ := h.at_.txt k s hs
  obtain ⟨bs, b1, b2, b3⟩ := h.ask
  obtain ⟨cs, c1, c2, c3⟩ := h.at_.cnt
  exact ⟨g, v, ab, aoff, tb, to, hg, hv, har, e1, hp, e3, (Lib.cell_of_heap b1 k).trans (b3 k hk), Lib.frozen_of_heap b1 k, Lib.cell_of_heap h.at_.box 0, Lib.cell_of_heap h.at_.cbox 0, (Lib.cell_of_heap c1 k).trans (c3 k hk), Lib.cell_of_heap (h.at_.cell k g v s hg hv hs) 4⟩

/-- behind an asking of the cell k: all but the asked -/
theorem loopS_asked {w0 w w' : World} {N tc K k g : Nat} {ao ar : Option Addr} {A : List ByteArray} {gs vs : List Nat} {m : Nat → Bool} (h : LoopS w0 w N ao tc A gs vs ar K m) (hg : gs[k]? = some g) (hkA : k < A.length) (h' : OnceAt w' N ao tc A gs vs (fun t => t == k || m t)) (hf : OnceFr N g w w') :
    Row w' 1 ar (ptrsL gs) ∧ (∃ bs, w'.heap[K]? = some (.cells bs 4 (0, 0)) ∧ bs.size = A.length ∧ ∀ t, t < A.length → bs[t]? = some (.bool (m t))) := by
  obtain ⟨cs, c1, c2, c3⟩ := h.at_.cnt
  have hl := h.len
  have hvl := h.at_.len
  obtain ⟨v, hv⟩ : ∃ v, vs[k]? = some v := ⟨_, List.getElem?_eq_getElem (by omega)⟩
  obtain ⟨s, hs⟩ : ∃ v, A[k]? = some v := ⟨_, List.getElem?_eq_getElem (by omega)⟩
  have hgc := h.at_.cell k g v s hg hv hs
  refine ⟨fun hne => ?_, ?_⟩
  · obtain ⟨ab, aoff, har, hat⟩ := h.row hne
    refine ⟨ab, aoff, har, fun i cs' hi j u hj => ?_⟩
    have hc := hat i cs' hi j u hj
    have hu : ∃ p, u = .pointer p := by
      unfold ptrsL at hi
      rw [List.getElem?_map] at hi
      cases hx : gs[i]? with
      | none => rw [hx] at hi; cases hi
      | some y =>
        rw [hx] at hi
        simp only [Option.map_some, Option.some.injEq] at hi
        subst hi
        cases j with
        | zero => simp only [List.getElem?_cons_zero, Option.some.injEq] at hj; exact ⟨_, hj.symm⟩
        | succ j => simp at hj
    obtain ⟨p, rfl⟩ := hu
    have hlt := cell_lt hc
    have n1 : ab ≠ N + 1 := by
      rintro rfl
      rw [Lib.cell_of_heap c1] at hc
      have hsz := (Array.getElem?_eq_some_iff.1 hc).1
      rw [c3 _ (by omega)] at hc
      cases hc
    have n2 : ab ≠ g := by
      rintro rfl
      rw [Lib.cell_of_heap hgc] at hc
      generalize aoff + i * 1 + j = q at hc
      unfold onceC cellC at hc
      match q, hc with
      | 0, hc => simp at hc
      | 1, hc => simp at hc
      | 2, hc => simp at hc
      | 3, hc => simp at hc
      | 4, hc => simp at hc
      | 5, hc => simp at hc
      | q + 6, hc => simp at hc
    have hb := hf.kept ab n1 n2 hlt
    rw [← hc]
    simp only [World.cell?, hb]
  · obtain ⟨bs, b1, b2, b3⟩ := h.ask
    have hlow := h.low
    refine ⟨bs, ?_, b2, b3⟩
    rw [hf.kept K (by omega) ?_ (lt_of_block b1)]
    · exact b1
    · rintro rfl
      rw [b1] at hgc
      simp only [Option.some.injEq, Obj.cells.injEq] at hgc
      exact absurd hgc.2.1 (by decide)

theorem loopS_next {w0 w w' wd : World} {N tc K k g : Nat} {ao ar : Option Addr} {A : List ByteArray} {gs vs : List Nat} {m : Nat → Bool} (h : LoopS w0 w N ao tc A gs vs ar K m) (hg : gs[k]? = some g) (hkA : k < A.length) (h' : OnceAt w' N ao tc A gs vs (fun t => t == k || m t)) (hf : OnceFr N g w w')
    (hd : wd = w'.setCell ⟨K, k, none⟩ (.bool true)) : LoopS w0 wd N ao tc A gs vs ar K (fun t => t == k || m t) := by
  obtain ⟨hrow, bs, b1, b2, b3⟩ := loopS_asked h hg hkA h' hf
  have hlow := h.low
  have oth : ∀ j, j ≠ K → wd.heap[j]? = w'.heap[j]? := fun j hj => by rw [hd]; exact Below.heap_setCell _ _ _ _ hj
  have hbd : Below N w' wd := by rw [hd]; exact (Below.refl N w').setCell (by show N ≤ K; omega) _
  have hK : wd.heap[K]? = some (.cells (bs.setIfInBounds k (.bool true)) 4 (0, 0)) := by rw [hd]; exact heap_set_cells1 b1
  have keyT : ∀ {b : Nat} {c : Array Value} {e : TypeId} {fz : Nat × Nat}, w'.heap[b]? = some (.cells c e fz) → e ≠ 4 → wd.heap[b]? = some (.cells c e fz) := fun {b c e fz} e0 hne => by
    rw [oth b ?_]
    · exact e0
    · rintro rfl
      rw [b1] at e0
      simp only [Option.some.injEq, Obj.cells.injEq] at e0
      exact hne e0.2.1.symm
  obtain ⟨cs, c1, c2, c3⟩ := h'.cnt
  refine ⟨⟨⟨cs, keyT c1 (by decide), c2, c3⟩, keyT h'.cbox (by decide), keyT h'.box (by decide), fun t s hs => ?_, h'.len, h'.le, fun t v hv => keyT (h'.idx t v hv) (by decide), fun t g v s h1 h2 h3 => keyT (h'.cell t g v s h1 h2 h3) (by decide), h'.low, h'.lowv⟩, h.len, fun hne => ?_, ⟨_, hK, by simp [b2], fun t ht => ?_⟩, hlow, (h.below.trans hf.below).trans hbd⟩
  · obtain ⟨tb, to, e1, e2, e3⟩ := h'.txt t s hs
    exact ⟨tb, to, e1, e2, (below_cell_lt hbd e2).trans e3⟩
  · obtain ⟨ab, aoff, har, hat⟩ := hrow hne
    refine ⟨ab, aoff, har, fun i cs' hi j u hj => ?_⟩
    have hc := hat i cs' hi j u hj
    have hu : ∃ p, u = .pointer p := by
      unfold ptrsL at hi
      rw [List.getElem?_map] at hi
      cases hx : gs[i]? with
      | none => rw [hx] at hi; cases hi
      | some y =>
        rw [hx] at hi
        simp only [Option.map_some, Option.some.injEq] at hi
        subst hi
        cases j with
        | zero => simp only [List.getElem?_cons_zero, Option.some.injEq] at hj; exact ⟨_, hj.symm⟩
        | succ j => simp at hj
    obtain ⟨p, rfl⟩ := hu
    have n1 : ab ≠ K := by
      rintro rfl
      rw [Lib.cell_of_heap b1] at hc
      have hsz := (Array.getElem?_eq_some_iff.1 hc).1
      rw [b3 _ (by omega)] at hc
      cases hc
    rw [← hc]
    simp only [World.cell?, oth ab n1]
  · by_cases e : t = k
    · subst e
      rw [Array.getElem?_setIfInBounds_self_of_lt (by omega)]
      simp
    · rw [Array.getElem?_setIfInBounds_ne (by omega), b3 t ht]
      show _ = some (Value.bool (t == k || m t))
      rw [beq_false_of_ne e, Bool.false_or]

theorem LoopS.moved {w0 w w' : World} {N tc K : Nat} {ao ar : Option Addr} {A : List ByteArray} {gs vs : List Nat} {m : Nat → Bool} (h : LoopS w0 w N ao tc A gs vs ar K m) (hb : Below w.heap.size w w') : LoopS w0 w' N ao tc A gs vs ar K m := by
  obtain ⟨bs, b1, b2, b3⟩ := h.ask
  exact ⟨h.at_.below hb, h.len, h.row.below hb, ⟨bs, (hb.block _ (lt_of_block b1)).trans b1, b2, b3⟩, h.low, h.below.trans (hb.mono (by have := lt_of_block h.at_.box; omega))⟩

theorem draws_below (w : World) (n : Nat) : Below w.heap.size w (w.drewN n) := below_drewN (Below.refl _ w) n
end Go.Proofs.Ytcfadekcdcphnaa
