/- Files: counting a change. -/
import Derived.Test.YtekbilieddficaaDoorFi4
namespace Go.Proofs.YtekbilieddficaaDoor
open Go.RowKit
set_option linter.unusedVariables false

theorem nodup_uniq {α β : Type} {f : α → β} : ∀ {L : List α}, (L.map f).Nodup → ∀ {p q : α}, p ∈ L → q ∈ L → f p = f q → p = q
  | [], _, p, q, hp, _, _ => by simp at hp
  | a :: L, h, p, q, hp, hq, e => by
    rw [List.map_cons, List.nodup_cons] at h
    obtain ⟨h1, h2⟩ := h
    rcases List.mem_cons.1 hp with e1 | hp'
    · rcases List.mem_cons.1 hq with e2 | hq'
      · rw [e1, e2]
      · exact absurd (List.mem_map.2 ⟨q, hq', by rw [← e, e1]⟩) h1
    · rcases List.mem_cons.1 hq with e2 | hq'
      · exact absurd (List.mem_map.2 ⟨p, hp', by rw [e, e2]⟩) h1
      · exact nodup_uniq h2 hp' hq' e

theorem bump_some {V : List (ByteArray × Nat × Int)} {n : ByteArray} {q : Nat × Int} (nb : Nat) (h : timesOf V n = some q) : bumpV V n nb = V.map fun p => if p.1 = n then (p.1, p.2.1, p.2.2 + 1) else p := by unfold bumpV; rw [h]
theorem bump_none {V : List (ByteArray × Nat × Int)} {n : ByteArray} (nb : Nat) (h : timesOf V n = none) : bumpV V n nb = V ++ [(n, nb, 1)] := by unfold bumpV; rw [h]

/-- every rope's block stands as it stood -/
def RopesKept (w w' : World) : Prop := ∀ (b : Nat) (c : Array Value) (e : TypeId) (fz : Nat × Nat), e ≠ 128 → w.heap[b]? = some (.cells c e fz) → w'.heap[b]? = some (.cells c e fz)
theorem RopesKept.of_below {w w' : World} (h : Below w.heap.size w w') : RopesKept w w' := fun b c _ fz _ e => (h.block b (lt_of_block e)).trans e
theorem RopesKept.trans {w w1 w2 : World} (h : RopesKept w w1) (k : RopesKept w1 w2) : RopesKept w w2 := fun b c e fz hn e0 => k b c e fz hn (h b c e fz hn e0)
theorem RopesKept.rope {w w' : World} (h : RopesKept w w') {B b : Nat} {t : RT} (r : RAt w B t b) : RAt w' B t b := r.typed fun b c fz e => h b c _ fz (by decide) e

theorem set_int64 {w : World} {b : Nat} {x y : Int} (h : w.heap[b]? = some (.cells #[.int .i64 x] 128 (0, 0))) : (w.setCell ⟨b, 0, none⟩ (.int .i64 y)).heap[b]? = some (.cells #[.int .i64 y] 128 (0, 0)) := by
  simp [World.setCell, Array.getElem?_modify, h]

theorem fat_old {w w' : World} {B g fm vm b : Nat} {dv : Value} {D : List ByteArray} {F : List (ByteArray × Nat × RT)} {V : List (ByteArray × Nat × Int)} {n : ByteArray} {x : Int} (h : FAt w B g fm vm dv D F V) (ht : timesOf V n = some (b, x)) (hx : x < 1000000)
    (hw : w' = w.setCell ⟨b, 0, none⟩ (.int .i64 (x + 1))) (nb : Nat) : FAt w' B g fm vm dv D F (bumpV V n nb) ∧ Below B w w' ∧ RopesKept w w' := by
  have hm := timesOf_mem ht
  obtain ⟨hb, x0, x1⟩ := h.cnts _ hm
  simp only at hb x0 x1
  have hlow := h.low.2.2.2 _ hm
  simp only at hlow
  have oth : ∀ k, k ≠ b → w'.heap[k]? = w.heap[k]? := fun k hk => by rw [hw]; exact Below.heap_setCell _ _ _ _ hk
  have own : w'.heap[b]? = some (.cells #[.int .i64 (x + 1)] 128 (0, 0)) := by rw [hw]; exact set_int64 hb
  obtain ⟨es, clock, v1, v2, v3⟩ := h.vers
  have hvb : vm ≠ b := by rintro rfl; rw [v1] at hb; cases hb
  have hbump := bump_some nb ht
  have hfst : (bumpV V n nb).map (·.1) = V.map (·.1) := by
    rw [hbump, List.map_map]
    refine List.map_congr_left fun p _ => ?_
    simp only [Function.comp]
    split <;> rfl
  have hblk : (bumpV V n nb).map (·.2.1) = V.map (·.2.1) := by
    rw [hbump, List.map_map]
    refine List.map_congr_left fun p _ => ?_
    simp only [Function.comp]
    split <;> rfl
  have hptr : (bumpV V n nb).map ptrV = V.map ptrV := by
    rw [hbump, List.map_map]
    refine List.map_congr_left fun p _ => ?_
    simp only [Function.comp, ptrV]
    split <;> rfl
  have huniq : ∀ p ∈ V, p.2.1 = b → p = (n, b, x) := fun p hp e => nodup_uniq (f := fun p : ByteArray × Nat × Int => p.2.1) h.vblk hp hm e
  refine ⟨h.bump (cb := b) (x := x) (.inr hb) (fun k o h1 _ e => (oth k h1).trans e) ⟨es, clock, (oth vm hvb).trans v1, by rw [hptr]; exact v2, v3⟩ (by rw [hfst]; exact h.vnd) ?_ ?_ (by rw [hblk]; exact h.vblk) ?_, ?_, ?_⟩
  · intro p hp
    rw [hbump] at hp
    obtain ⟨q, hq, rfl⟩ := List.mem_map.1 hp
    split
    · exact h.vsz q hq
    · exact h.vsz q hq
  · intro p hp
    rw [hbump] at hp
    obtain ⟨q, hq, rfl⟩ := List.mem_map.1 hp
    by_cases hqn : q.1 = n
    · rw [if_pos hqn]
      have hqe : q = (n, b, x) := nodup_uniq (f := fun p : ByteArray × Nat × Int => p.1) h.vnd hq hm hqn
      subst hqe
      exact ⟨own, by simp only; omega, by simp only; omega⟩
    · rw [if_neg hqn]
      have hne : q.2.1 ≠ b := fun e => hqn (by rw [huniq q hq e])
      exact ⟨(oth _ hne).trans (h.cnts q hq).1, (h.cnts q hq).2⟩
  · intro p hp
    have : p.2.1 ∈ (bumpV V n nb).map (·.2.1) := List.mem_map.2 ⟨p, hp, rfl⟩
    rw [hblk] at this
    obtain ⟨q, hq, e⟩ := List.mem_map.1 this
    rw [← e]
    exact h.low.2.2.2 q hq
  · rw [hw]
    exact (Below.refl B w).setCell hlow _
  · intro k c T fz hT e
    rw [oth k]
    · exact e
    · rintro rfl
      rw [hb] at e
      simp only [Option.some.injEq, Obj.cells.injEq] at e
      exact absurd e.2.1.symm hT

theorem putL_new {L : List (ByteArray × Value)} {n : ByteArray} {v : Value} (h : ∀ p ∈ L, p.1 ≠ n) : putL L n v = L ++ [(n, v)] := by
  unfold putL
  rw [if_neg]
  rw [Bool.not_eq_true, List.any_eq_false]
  intro p hp
  simpa using h p hp

theorem fat_fresh {w W3 w' : World} {B g fm vm : Nat} {dv : Value} {D : List ByteArray} {F : List (ByteArray × Nat × RT)} {V : List (ByteArray × Nat × Int)} {n : ByteArray} {es' : Array MapEntry} {clock' : Nat} (h : FAt w B g fm vm dv D F V) (ht : timesOf V n = none) (hn : n.size ≤ 80) (hB : B ≤ w.heap.size)
    (hM : MapIs es' (putL (V.map ptrV) n (.pointer (some ⟨w.heap.size, 0, none⟩)))) (hS : MapKept.Stamped es' clock') (h3 : W3 = ChangeMaps.setBlock (w.alloc (.cells #[.int .i64 0] 128)) vm (.map es' clock')) (hw : w' = W3.setCell ⟨w.heap.size, 0, none⟩ (.int .i64 (0 + 1))) :
    (W3.heap[w.heap.size]? = some (.cells #[.int .i64 0] 128 (0, 0)) ∧ W3.heap[g]? = w.heap[g]? ∧ W3.heap[vm]? = some (.map es' clock')) ∧ FAt w' B g fm vm dv D F (bumpV V n w.heap.size) ∧ Below B w w' ∧ RopesKept w w' := by
  obtain ⟨es, clock, v1, v2, v3⟩ := h.vers
  have hvl := lt_of_block v1
  have hgl := lt_of_block h.tab
  have hvg : vm ≠ g := by rintro rfl; rw [h.tab] at v1; cases v1
  have a1 : (w.alloc (.cells #[.int .i64 0] 128)).heap[vm]? = some (.map es clock) := (Lib.alloc_old _ _ _ hvl).trans v1
  have o3 : ∀ k, k ≠ vm → W3.heap[k]? = (w.alloc (.cells #[.int .i64 0] 128)).heap[k]? := fun k hk => by
    rw [h3]
    unfold ChangeMaps.setBlock
    exact Array.getElem?_setIfInBounds_ne (Ne.symm hk)
  have m3 : W3.heap[vm]? = some (.map es' clock') := by rw [h3]; exact setBlock_at a1
  have n3 : W3.heap[w.heap.size]? = some (.cells #[.int .i64 0] 128 (0, 0)) := (o3 _ (by omega)).trans (heap_alloc_new w _)
  have o4 : ∀ k, k ≠ w.heap.size → w'.heap[k]? = W3.heap[k]? := fun k hk => by rw [hw]; exact Below.heap_setCell _ _ _ _ hk
  have n4 : w'.heap[w.heap.size]? = some (.cells #[.int .i64 (0 + 1)] 128 (0, 0)) := by rw [hw]; exact set_int64 n3
  have key : ∀ (b : Nat) (o : Obj), b ≠ w.heap.size → b ≠ vm → w.heap[b]? = some o → w'.heap[b]? = some o := fun b o h1 h2 e => by
    rw [o4 b h1, o3 b h2, Lib.alloc_old _ _ _ (lt_of_block e)]
    exact e
  have hnone := timesOf_none ht
  have hput : putL (V.map ptrV) n (.pointer (some ⟨w.heap.size, 0, none⟩)) = (V ++ [(n, w.heap.size, 1)]).map ptrV := by
    rw [putL_new (by
      intro p hp
      obtain ⟨q, hq, rfl⟩ := List.mem_map.1 hp
      exact hnone q hq), List.map_append]
    rfl
  have hlt : ∀ p ∈ V, p.2.1 < w.heap.size := fun p hp => lt_of_block (h.cnts p hp).1
  refine ⟨⟨n3, (o3 g (Ne.symm hvg)).trans (Lib.alloc_old _ _ _ hgl), m3⟩, ?_, ?_, ?_⟩
  · rw [bump_none _ ht]
    refine h.bump (cb := w.heap.size) (x := 0) (.inl (Array.getElem?_eq_none_iff.2 (Nat.le_refl _))) key ⟨es', clock', by rw [o4 vm (by omega)]; exact m3, by rw [← hput]; exact hM, hS⟩ ?_ ?_ ?_ ?_ ?_
    · rw [List.map_append, List.nodup_append]
      refine ⟨h.vnd, by simp, ?_⟩
      intro a ha b hb e
      simp only [List.map_cons, List.map_nil, List.mem_singleton] at hb
      obtain ⟨p, hp, rfl⟩ := List.mem_map.1 ha
      exact hnone p hp (e.trans hb)
    · intro p hp
      rcases List.mem_append.1 hp with hp | hp
      · exact h.vsz p hp
      · obtain rfl : p = (n, w.heap.size, 1) := by simpa using hp
        exact hn
    · intro p hp
      rcases List.mem_append.1 hp with hp | hp
      · have h1 := hlt p hp
        have hvp : p.2.1 ≠ vm := by
          intro e
          have := (h.cnts p hp).1
          rw [e, v1] at this
          cases this
        exact ⟨key _ _ (by omega) hvp (h.cnts p hp).1, (h.cnts p hp).2⟩
      · obtain rfl : p = (n, w.heap.size, 1) := by simpa using hp
        exact ⟨n4, by simp only; omega, by simp only; omega⟩
    · rw [List.map_append, List.nodup_append]
      refine ⟨h.vblk, by simp, ?_⟩
      intro a ha b hb e
      simp only [List.map_cons, List.map_nil, List.mem_singleton] at hb
      obtain ⟨p, hp, rfl⟩ := List.mem_map.1 ha
      have := hlt p hp
      omega
    · intro p hp
      rcases List.mem_append.1 hp with hp | hp
      · exact h.low.2.2.2 p hp
      · obtain rfl : p = (n, w.heap.size, 1) := by simpa using hp
        exact hB
  · have b1 : Below B w (w.alloc (.cells #[.int .i64 0] 128)) := (Below.refl B w).alloc hB _
    have b2 : Below B (w.alloc (.cells #[.int .i64 0] 128)) W3 := by
      rw [h3]
      exact ⟨rfl, rfl, rfl, by simp [ChangeMaps.setBlock], fun k hk => by
        unfold ChangeMaps.setBlock
        have := h.low.2.2.1
        exact Array.getElem?_setIfInBounds_ne (by omega)⟩
    rw [hw]
    exact (b1.trans b2).setCell hB _
  · intro k c T fz hT e
    refine key k _ ?_ ?_ e
    · have := lt_of_block e
      omega
    · rintro rfl
      rw [v1] at e
      cases e

set_option maxRecDepth 100000 in
set_option maxHeartbeats 1000000 in
theorem counts_any {B g fm vm : Nat} {dv : Value} {D : List ByteArray} {F : List (ByteArray × Nat × RT)} {V : List (ByteArray × Nat × Int)} (w : World) (h : FAt w B g fm vm dv D F V) (hB : B ≤ w.heap.size) (n : ByteArray) (hn : n.size ≤ 80) (hlt : countOf V n < 1000000) :
    Calls Tryd.prog 47 #[.pointer (some ⟨g, 0, none⟩), .string n] w fun e w' => e = .returned (.tuple #[]) ∧ FAt w' B g fm vm dv D F (bumpV V n w.heap.size) ∧ Below B w w' ∧ RopesKept w w' := by
  have c1 := Lib.cell_of_heap h.tab 2
  have hl := h.times (le80 hn)
  unfold countOf at hlt
  cases ht : timesOf V n with
  | some q =>
    obtain ⟨b, x⟩ := q
    obtain ⟨hb, x0, x1⟩ := h.cnts _ (timesOf_mem ht)
    rw [ht] at hl hlt
    simp only [Option.map_some, Option.getD_some] at hl hlt
    have HA := Lib.hid (add64 w (Lib.cell_of_heap hb 0) (Lib.frozen_of_heap hb 0) x0 x1)
    have hP := Lib.hid (fat_old h ht hlt rfl w.heap.size)
    replace h := Lib.hid h
    replace hb := Lib.hid hb
    replace ht := Lib.hid ht
    go_enter Tryd.func47, Tryd.ntmps47
    go_wp2_with fail
    refine HA.out.mono ?_
    rintro e w' ⟨rfl, hw'⟩
    subst hw'
    go_wp2
    go_end0
    exact ⟨rfl, hP.out⟩
  | none =>
    rw [ht] at hl
    simp only [Option.map_none, Option.getD_none] at hl
    obtain ⟨es, clock, v1, v2, v3⟩ := h.vers
    have a1 : (w.alloc (.cells #[.int .i64 0] 128)).heap[vm]? = some (.map es clock) := (Lib.alloc_old _ _ _ (lt_of_block v1)).trans v1
    have hkz : ∀ p ∈ V.map ptrV, p.1.size ≤ maxLen := by
      intro p hp
      obtain ⟨q, hq, rfl⟩ := List.mem_map.1 hp
      exact le80 (h.vsz q hq)
    obtain ⟨es', clock', hU, hM, hS⟩ := map_update (P := Tryd.prog) Tryd.underlying60 Tryd.underlying9 a1 v2 (by rw [keysV]; exact h.vnd) hkz (le80 hn) (.pointer (some ⟨w.heap.size, 0, none⟩))
    obtain ⟨W3, hW3⟩ : ∃ W, W = ChangeMaps.setBlock (w.alloc (.cells #[.int .i64 0] 128)) vm (.map es' clock') := ⟨_, rfl⟩
    rw [← hW3] at hU
    obtain ⟨⟨n3, g3, m3⟩, hP⟩ := fat_fresh h ht hn hB hM (hS v3) hW3 rfl
    have c3 : W3.cell? ⟨g, 2, none⟩ = some (.map (some vm)) := Lib.cell_of_heap (g3.trans h.tab) 2
    have hnone := timesOf_none ht
    have hput : putL (V.map ptrV) n (.pointer (some ⟨w.heap.size, 0, none⟩)) = (V ++ [(n, w.heap.size, 1)]).map ptrV := by
      rw [putL_new (by
        intro p hp
        obtain ⟨q, hq, rfl⟩ := List.mem_map.1 hp
        exact hnone q hq), List.map_append]
      rfl
    have hnd' : (((V ++ [(n, w.heap.size, 1)]).map ptrV).map (fun p : ByteArray × Value => p.1)).Nodup := by
      rw [keysV]
      have := hP.1.vnd
      rw [bump_none _ ht] at this
      exact this
    have hl3 := map_lookup (P := Tryd.prog) (w := W3) Tryd.underlying60 Tryd.underlying9 (zero_cnt W3) m3 (by rw [← hput]; exact hM) hnd' (by
      intro p hp
      obtain ⟨q, hq, rfl⟩ := List.mem_map.1 hp
      rcases List.mem_append.1 hq with hq | hq
      · exact le80 (h.vsz q hq)
      · obtain rfl : q = (n, w.heap.size, 1) := by simpa using hq
        exact le80 hn) (le80 hn)
    rw [lookL_mem hnd' (v := .pointer (some ⟨w.heap.size, 0, none⟩)) (List.mem_map.2 ⟨(n, w.heap.size, 1), by simp, rfl⟩)] at hl3
    simp only [Option.getD_some] at hl3
    have HA := Lib.hid (add64 W3 (Lib.cell_of_heap n3 0) (Lib.frozen_of_heap n3 0) (by omega) (by omega))
    replace hP := Lib.hid hP
    replace h := Lib.hid h
    replace n3 := Lib.hid n3
    replace g3 := Lib.hid g3
    replace m3 := Lib.hid m3
    replace hW3 := Lib.hid hW3
    replace v1 := Lib.hid v1
    replace a1 := Lib.hid a1
    clear hM hS hkz hput hnd' v2 v3 hnone
    go_enter Tryd.func47, Tryd.ntmps47
    go_wp2_with fail
    refine HA.out.mono ?_
    rintro e w' ⟨rfl, hw'⟩
    subst hw'
    go_wp2
    go_end0
    exact ⟨rfl, hP.out⟩
end Go.Proofs.YtekbilieddficaaDoor
