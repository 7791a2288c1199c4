/- Files: a directory ahead of the others: slices.Insert at 0. -/
import Derived.Test.YtekbilieddficaaDoorFi7
import Derived.Test.YtekbilieddficaaDoorIns
namespace Go.Proofs.YtekbilieddficaaDoor
open Go.RowKit
set_option linter.unusedVariables false

theorem below_sets {B b : Nat} {a : World} (hb : B ≤ b) : ∀ (vs : List Value) (o : Nat) (w : World), Below B a w → Below B a (w.setCells b o vs)
  | [], _, _, h => h
  | v :: r, o, w, h => below_sets hb r (o + 1) _ (h.setCell hb _)

theorem strsB_at {D : List ByteArray} {j : Nat} {cs : List Value} (h : (strsB D)[j]? = some cs) : ∃ s, D[j]? = some s ∧ cs = [.string s] := by
  unfold strsB at h
  rw [List.getElem?_map] at h
  cases hx : D[j]? with
  | none => rw [hx] at h; cases h
  | some s => rw [hx] at h; exact ⟨s, rfl, (Option.some.inj h).symm⟩

/-- a row of texts, from its cells -/
theorem row_of_cells {w : World} {b : Nat} {D : List ByteArray} (h : ∀ j s, D[j]? = some s → w.cell? ⟨b, j, none⟩ = some (.string s)) : Row w 1 (some ⟨b, 0, none⟩) (strsB D) := by
  intro _
  refine ⟨b, 0, rfl, fun i cs hi j u hj => ?_⟩
  obtain ⟨s, hs, rfl⟩ := strsB_at hi
  cases j with
  | zero =>
    simp only [List.getElem?_cons_zero, Option.some.injEq] at hj
    subst hj
    have := h i s hs
    simpa using this
  | succ j => simp at hj

theorem insert0 (D : List ByteArray) (d0 : ByteArray) {C n lc vb : Nat} {lo : Option Addr} (w : World) (hown : Own w C 9 1 (.slice lo n lc) (strsB D)) (hn : D.length = n) (hv : w.heap[vb]? = some (.cells #[.string d0] 9 (0, 0))) (hne : ∀ a, lo = some a → a.block ≠ vb) (hl : n ≤ 1000) (hC : C ≤ w.heap.size) :
    Calls Tryd.prog 33 #[.slice lo n lc, .int .i64 0, .slice (some ⟨vb, 0, none⟩) 1 1] w fun e w' => ∃ ao c, e = .returned (.slice ao (n + 1) c) ∧ n + 1 ≤ c ∧ Row w' 1 ao (strsB (d0 :: D)) ∧ Below C w w' := by
  have hvs : ∀ (j : Nat) (v : Value), [Value.string d0][j]? = some v → w.cell? ⟨vb, 0 + j, none⟩ = some v := by
    intro j v hj
    cases j with
    | zero =>
      simp only [List.getElem?_cons_zero, Option.some.injEq] at hj
      subst hj
      exact Lib.cell_of_heap hv 0
    | succ j => simp at hj
  have h1v : ∀ v ∈ [Value.string d0], v.oneCell' = true := by intro v hv'; simp at hv'; subst hv'; rfl
  rcases hown.1.2 with ⟨hv0, h0⟩ | ⟨b, cap, cur, hvv, hb, hg, hnc, hm, hs, ht⟩
  · simp only [Value.slice.injEq] at hv0
    obtain ⟨rfl, rfl, rfl⟩ := hv0
    obtain rfl : D = [] := List.length_eq_zero_iff.1 hn
    refine (Any2.slices_Insert_string_end_grow Tryd.insL none 0 0 vb 0 1 1 [] [.string d0] w (by omega) (Nat.le_refl _) (by omega) (by omega) rfl rfl (fun _ => rfl) (by simp) hvs h1v).mono ?_
    rintro e w' ⟨rfl, rfl⟩
    refine ⟨_, _, rfl, grownCap_ge _ _ _ _, row_of_cells fun j s hj => ?_, (Below.refl C w).drew.alloc hC _⟩
    obtain ⟨rfl, rfl⟩ : j = 0 ∧ s = d0 := by
      cases j with
      | zero => simp at hj; exact ⟨rfl, hj.symm⟩
      | succ j => simp at hj
    rw [show w.heap.size = w.drew.heap.size from rfl, Lib.cell_of_heap (heap_alloc_new w.drew _) 0, Array.getElem?_append_left (by simp)]
    rfl
  · simp only [Value.slice.injEq] at hvv
    obtain ⟨rfl, hn2, rfl⟩ := hvv
    have hbv : b ≠ vb := hne _ rfl
    have hln : (strsB D).length = n := by simp [strsB, hn]
    have hcs : ∀ (j : Nat) (s : ByteArray), D[j]? = some s → w.cell? ⟨b, j, none⟩ = some (.string s) := by
      intro j s hj
      have := hown.here (by intro e; rw [e] at hln; have := (List.getElem?_eq_some_iff.1 hj).1; simp at hln; omega)
      obtain ⟨rb, o, e, hat⟩ := this
      simp only [Option.some.injEq, Addr.mk.injEq, and_true] at e
      obtain ⟨rfl, rfl⟩ := e
      have := hat j [.string s] (by unfold strsB; rw [List.getElem?_map, hj]; rfl) 0 _ rfl
      simpa using this
    have hsome : ∀ j, j < lc → (w.cell? ⟨b, 0 + j, none⟩).isSome = true := by
      intro j hj
      rw [Lib.cell_of_heap hg, Array.getElem?_eq_getElem (by omega)]
      rfl
    have hfz : ∀ j, w.frozen? ⟨b, 0 + j, none⟩ = false := fun j => Lib.frozen_of_heap hg _
    have hnc' : n ≤ lc := by rw [hln] at hnc; exact hnc
    have hcsl : ∀ (j : Nat) (v : Value), (D.map Value.string)[j]? = some v → w.cell? ⟨b, 0 + j, none⟩ = some v := by
      intro j v hj
      rw [List.getElem?_map] at hj
      cases hx : D[j]? with
      | none => rw [hx] at hj; cases hj
      | some s =>
        rw [hx] at hj
        simp only [Option.map_some, Option.some.injEq] at hj
        subst hj
        rw [Nat.zero_add]
        exact hcs j s hx
    have h1c : ∀ v ∈ D.map Value.string, v.oneCell' = true := by
      intro v hv'
      obtain ⟨s, _, rfl⟩ := List.mem_map.1 hv'
      rfl
    have hfin : ∀ (w' : World) (q : Nat), (w'.cell? ⟨q, 0, none⟩ = some (.string d0)) → (∀ j s, D[j]? = some s → w'.cell? ⟨q, 1 + j, none⟩ = some (.string s)) → Row w' 1 (some ⟨q, 0, none⟩) (strsB (d0 :: D)) := by
      intro w' q e0 e1
      refine row_of_cells fun j s hj => ?_
      cases j with
      | zero => simp at hj; subst hj; exact e0
      | succ j =>
        have := e1 j s (by simpa using hj)
        rw [Nat.add_comm] at this
        exact this
    by_cases hn0 : n = 0
    · subst hn0
      obtain rfl : D = [] := List.length_eq_zero_iff.1 hn
      by_cases hlc : lc = 0
      · subst hlc
        refine (Any2.slices_Insert_string_end_grow Tryd.insL (some ⟨b, 0, none⟩) 0 0 vb 0 1 1 [] [.string d0] w (by omega) (Nat.le_refl _) (by omega) (by omega) rfl rfl (fun _ => rfl) (by simp) hvs h1v).mono ?_
        rintro e w' ⟨rfl, rfl⟩
        refine ⟨_, _, rfl, grownCap_ge _ _ _ _, hfin _ _ ?_ (fun j s hj => by simp at hj), (Below.refl C w).drew.alloc hC _⟩
        rw [show w.heap.size = w.drew.heap.size from rfl, Lib.cell_of_heap (heap_alloc_new w.drew _) 0, Array.getElem?_append_left (by simp)]
        rfl
      · refine (Any2.slices_Insert_string_end_room Tryd.insL b 0 0 lc vb 0 1 1 [.string d0] w (by omega) (by omega) (by unfold maxLen at hm; omega) rfl (fun j hj => by
          obtain rfl : j = 0 := by omega
          exact hsome 0 (by omega)) (fun j hj => hfz _) hvs h1v).mono ?_
        rintro e w' ⟨rfl, rfl⟩
        refine ⟨_, _, rfl, by omega, hfin _ _ ?_ (fun j s hj => by simp at hj), below_sets hb _ _ _ (Below.refl C w)⟩
        have := World.cell?_setCells_in b [Value.string d0] (0 + 0) w (by
          intro j hj
          obtain rfl : j = 0 := by simpa using hj
          exact hsome 0 (by omega)) 0 (by simp)
        simpa using this
    · by_cases hroom : n + 1 ≤ lc
      · have hshb : w.shape? b = some (9, cur.size) := by unfold World.shape?; rw [hg]
        have hshv : w.shape? vb = some (9, 1) := by unfold World.shape?; rw [hv]; rfl
        refine (Any2.slices_Insert_string_shift Tryd.insL b 0 n lc 0 vb 0 1 1 (D.map Value.string) [.string d0] w (by omega) (by omega) hroom (by unfold maxLen at hm; omega) (Ne.symm hbv) (by simp [hn]) rfl hcsl (fun j hj => hsome j (by omega)) (fun j hj => hfz j) hvs h1c h1v _ _ _ _ hshv hshb (by rw [hs]; omega) (Lib.frozen_of_heap hv 0) (Lib.frozen_of_heap hv 1)).mono ?_
        rintro e w' ⟨rfl, rfl⟩
        have s1 : ∀ j, j < (D.map Value.string).length → (w.drew.cell? ⟨b, 1 + j, none⟩).isSome = true := by
          intro j hj
          rw [List.length_map, hn] at hj
          have := hsome (1 + j) (by omega)
          rw [Nat.zero_add] at this
          exact this
        have s0 : ((w.drew.setCells b 1 (D.map Value.string)).cell? ⟨b, 0, none⟩).isSome = true := by
          rw [World.cell?_setCells_out b _ _ _ _ (fun _ _ => .inl (by simp))]
          exact hsome 0 (by omega)
        refine ⟨_, _, rfl, hroom, hfin _ _ ?_ (fun j s hj => ?_), below_sets hb _ _ _ (below_sets hb _ _ _ (Below.refl C w).drew)⟩
        · have := World.cell?_setCells_in b [Value.string d0] 0 (w.drew.setCells b 1 (D.map Value.string)) (by
            intro j hj
            obtain rfl : j = 0 := by simpa using hj
            exact s0) 0 (by simp)
          simpa using this
        · have h1 := (List.getElem?_eq_some_iff.1 hj).1
          have := World.cell?_setCells_in b (D.map Value.string) 1 w.drew s1 j (by simpa using h1)
          rw [List.getElem_map, (List.getElem?_eq_some_iff.1 hj).2] at this
          have o := World.cell?_setCells_out b [Value.string d0] 0 (w.drew.setCells b 1 (D.map Value.string)) ⟨b, 1 + j, none⟩ (fun _ _ => .inr (by simp))
          simpa using o.trans this
      · refine (Any2.slices_Insert_string_grow Tryd.insL b 0 n lc 0 vb 0 1 1 (D.map Value.string) [.string d0] w (by omega) (by omega) hnc' (by omega) (by omega) (by simp [hn]) rfl hcsl hvs h1c h1v).mono ?_
        rintro e w' ⟨rfl, rfl⟩
        rw [List.drop_zero]
        obtain ⟨X, hX⟩ : ∃ X, X = (List.take 0 (List.map Value.string D)).toArray ++ Builtin.zeroCells (Value.string ⟨#[]⟩).cells (n + 1 - 0) ++ Builtin.zeroCells (Value.string ⟨#[]⟩).cells (grownCap w (n + 1) lc (Tryd.insL_ren.t 9) - (n + 1)) := ⟨_, rfl⟩
        have hXs : n + 1 ≤ X.size := by
          rw [hX]
          simp only [Array.size_append, size_zeroCells, Value.cells]
          simp
        rw [← hX]
        obtain ⟨w1, hw1⟩ : ∃ W, W = w.alloc (.cells X (Tryd.insL_ren.t 9)) := ⟨_, rfl⟩
        rw [← hw1]
        have hsm : ∀ j, j < n + 1 → (w1.cell? ⟨w.heap.size, j, none⟩).isSome = true := by
          intro j hj
          rw [hw1, Lib.cell_of_heap (heap_alloc_new w _) j, Array.getElem?_eq_getElem (by omega)]
          rfl
        have e0 := World.cell?_setCells_in w.heap.size [Value.string d0] 0 w1.drew (by
          intro j hj
          obtain rfl : j = 0 := by simpa using hj
          exact hsm 0 (by omega)) 0 (by simp)
        have s1 : ∀ j, j < (D.map Value.string).length → ((w1.drew.setCells w.heap.size 0 [Value.string d0]).drew.cell? ⟨w.heap.size, 1 + j, none⟩).isSome = true := by
          intro j hj
          rw [List.length_map, hn] at hj
          have := hsm (1 + j) (by omega)
          have o := World.cell?_setCells_out w.heap.size [Value.string d0] 0 w1.drew ⟨w.heap.size, 1 + j, none⟩ (fun _ _ => .inr (by simp))
          show ((w1.drew.setCells w.heap.size 0 [Value.string d0]).cell? ⟨w.heap.size, 1 + j, none⟩).isSome = true
          rw [o]
          exact this
        have hb1 : Below C w w1 := by rw [hw1]; exact (Below.refl C w).alloc hC _
        refine ⟨_, _, rfl, grownCap_ge _ _ _ _, hfin _ _ ?_ (fun j s hj => ?_), below_sets hC _ _ _ (below_sets hC _ _ _ hb1.drew).drew⟩
        · rw [World.cell?_setCells_out w.heap.size _ _ _ _ (fun _ _ => .inl (by simp))]
          simpa using e0
        · have h1 := (List.getElem?_eq_some_iff.1 hj).1
          have := World.cell?_setCells_in w.heap.size (D.map Value.string) 1 (w1.drew.setCells w.heap.size 0 [Value.string d0]).drew s1 j (by simpa using h1)
          rw [List.getElem_map, (List.getElem?_eq_some_iff.1 hj).2] at this
          exact this
end Go.Proofs.YtekbilieddficaaDoor
