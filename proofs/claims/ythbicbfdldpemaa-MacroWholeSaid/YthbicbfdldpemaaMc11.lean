/- macro's tables: New, Look, Copy of none, Define. -/
import Derived.Test.YthbicbfdldpemaaMc10
namespace Go.Proofs.Ythbicbfdldpemaa
open Go.RowKit
set_option linter.unusedVariables false

abbrev Ent := ByteArray × Nat × Mac
def entV (p : Ent) : ByteArray × Value := (p.1, .pointer (some ⟨p.2.1, 0, none⟩))
def lookT (L : List Ent) (n : ByteArray) : Option (Nat × Mac) := (L.find? fun p => decide (p.1 = n)).map (·.2)
def putT (L : List Ent) (n : ByteArray) (x : Nat × Mac) : List Ent := if (L.any fun p => decide (p.1 = n)) then L.map (fun p => if p.1 = n then (n, x) else p) else L ++ [(n, x)]

theorem lookL_ent (L : List Ent) (n : ByteArray) : lookL (L.map entV) n = (lookT L n).map fun x => .pointer (some ⟨x.1, 0, none⟩) := by
  unfold lookL lookT
  rw [List.find?_map]
  have : ((fun p : ByteArray × Value => decide (p.1 = n)) ∘ entV) = fun p : Ent => decide (p.1 = n) := rfl
  rw [this]
  cases L.find? (fun p => decide (p.1 = n)) <;> rfl

theorem putL_ent (L : List Ent) (n : ByteArray) (x : Nat × Mac) : putL (L.map entV) n (.pointer (some ⟨x.1, 0, none⟩)) = (putT L n x).map entV := by
  unfold putL putT
  rw [List.any_map]
  have : ((fun p : ByteArray × Value => decide (p.1 = n)) ∘ entV) = fun p : Ent => decide (p.1 = n) := rfl
  rw [this]
  split
  · rw [List.map_map, List.map_map]
    apply List.map_congr_left
    intro p _
    simp only [Function.comp_apply]
    by_cases h : p.1 = n
    · rw [if_pos (show (entV p).1 = n from h), if_pos h]; rfl
    · rw [if_neg (show ¬ (entV p).1 = n from h), if_neg h]
  · rw [List.map_append]; rfl

theorem putT_keys {L : List Ent} {n : ByteArray} {x : Nat × Mac} (h : (L.map (·.1)).Nodup) : ((putT L n x).map (·.1)).Nodup := by
  unfold putT
  split
  · have : (L.map fun p => if p.1 = n then (n, x) else p).map (·.1) = L.map (·.1) := by
      rw [List.map_map]
      apply List.map_congr_left
      intro p _
      simp only [Function.comp_apply]
      by_cases hp : p.1 = n
      · rw [if_pos hp]; exact hp.symm
      · rw [if_neg hp]
    rw [this]; exact h
  · rename_i hn
    rw [List.map_append, List.nodup_append]
    refine ⟨h, by simp, ?_⟩
    intro a ha b hb
    simp only [List.map_cons, List.map_nil, List.mem_singleton] at hb
    subst hb
    rintro rfl
    apply hn
    obtain ⟨p, hp, e⟩ := List.mem_map.1 ha
    rw [List.any_eq_true]
    exact ⟨p, hp, by simpa using e⟩

theorem putT_mem {L : List Ent} {n : ByteArray} {x : Nat × Mac} {p : Ent} (h : p ∈ putT L n x) : p ∈ L ∨ p = (n, x) := by
  unfold putT at h
  split at h
  · obtain ⟨q, hq, e⟩ := List.mem_map.1 h
    by_cases hn : q.1 = n
    · rw [if_pos hn] at e; exact .inr e.symm
    · rw [if_neg hn] at e; subst e; exact .inl hq
  · rcases List.mem_append.1 h with h | h
    · exact .inl h
    · exact .inr (by simpa using h)

/-- a definition in memory -/
def DefAt (w : World) (g : Nat) (m : Mac) : Prop := ∃ psv bov, w.heap[g]? = some (.cells (mcC m.name m.fn m.va psv bov m.file m.f m.t).toArray 29 (0, 0)) ∧ MacAt w m psv bov

structure TabAt (w : World) (tb mb : Nat) (L : List Ent) : Prop where
  tab : w.heap[tb]? = some (.cells #[.map (some mb)] 113 (0, 0))
  map : ∃ es clock, w.heap[mb]? = some (.map es clock) ∧ MapIs es (L.map entV)
  nd : (L.map (·.1)).Nodup
  ents : ∀ p ∈ L, p.1.size ≤ maxLen ∧ DefAt w p.2.1 p.2.2

theorem DefAt.below {w w' : World} {g : Nat} {m : Mac} (h : DefAt w g m) (hb : Below w.heap.size w w') : DefAt w' g m := by
  obtain ⟨psv, bov, h1, h2⟩ := h
  exact ⟨psv, bov, (hb.block _ (lt_of_block h1)).trans h1, h2.below hb⟩

theorem TabAt.below {w w' : World} {tb mb : Nat} {L : List Ent} (h : TabAt w tb mb L) (hb : Below w.heap.size w w') : TabAt w' tb mb L := by
  obtain ⟨h1, ⟨es, clock, h2, h3⟩, h4, h5⟩ := h
  exact ⟨(hb.block _ (lt_of_block h1)).trans h1, ⟨es, clock, (hb.block _ (lt_of_block h2)).trans h2, h3⟩, h4, fun p hp => ⟨(h5 p hp).1, (h5 p hp).2.below hb⟩⟩

theorem zero_mac (w : World) : (zeroValue 115).run Try.prog w = .ok (.pointer none) w := by kernel_rfl

theorem TabAt.look {w : World} {tb mb : Nat} {L : List Ent} (h : TabAt w tb mb L) {n : ByteArray} (hn : n.size ≤ maxLen) :
    (Instr.lookup 111 (.map (some mb)) (.string n) false).run Try.prog w = .ok (.pointer ((lookT L n).map fun x => ⟨x.1, 0, none⟩)) w := by
  obtain ⟨es, clock, hm, hL⟩ := h.map
  have := map_lookup Try.underlying111 Try.underlying9 (zero_mac w) hm hL (by rw [List.map_map]; exact h.nd) (by
    intro p hp
    obtain ⟨q, hq, rfl⟩ := List.mem_map.1 hp
    exact (h.ents q hq).1) hn
  rw [this, lookL_ent]
  cases lookT L n <;> rfl

set_option maxRecDepth 100000 in
theorem mLook_any (tb mb : Nat) (L : List Ent) (n : ByteArray) (hn : n.size ≤ maxLen) (w : World) (hT : TabAt w tb mb L) :
    Calls Try.prog 62 #[.pointer (some ⟨tb, 0, none⟩), .string n] w fun e w' => e = .returned (.pointer ((lookT L n).map fun x => ⟨x.1, 0, none⟩)) ∧ w' = w := by
  have hl := hT.look hn
  have ht := hT.tab
  have c0 : w.cell? ⟨tb, 0, none⟩ = some (.map (some mb)) := by simpa using Lib.cell_of_heap ht 0
  generalize (Option.map (fun x => (⟨x.1, 0, none⟩ : Addr)) (lookT L n)) = q at hl ⊢
  clear hT
  go_enter Try.func62, Try.ntmps62
  go_wp2
  refine bodyPost_ret (v := .pointer q) (by simp [results, Try.results62, go_sem]) rfl ⟨rfl, rfl⟩

set_option maxRecDepth 100000 in
theorem mNew_any (w : World) :
    Calls Try.prog 31 #[] w fun e w' => e = .returned (.pointer (some ⟨w.heap.size + 1, 0, none⟩)) ∧ TabAt w' (w.heap.size + 1) w.heap.size [] ∧ Below w.heap.size w w' := by
  have hmk : ∀ w : World, (Instr.makeMap 111 none).run Try.prog w = .ok (.map (some w.heap.size)) (w.alloc (.map #[] 0)) := fun w => by kernel_rfl
  go_enter Try.func31, Try.ntmps31
  go_wp2
  go_ret
  refine ⟨rfl, ⟨?_, ⟨#[], 0, (Lib.alloc_old _ _ _ (by simp)).trans (heap_alloc_new w _), rfl⟩, by simp, by simp⟩, ((Below.refl _ w).alloc (Nat.le_refl _) _).alloc (by simp) _⟩
  have := heap_alloc_new (w.alloc (.map #[] 0)) (.cells #[.map (some w.heap.size)] 113)
  simpa using this

set_option maxRecDepth 100000 in
theorem mCopy_nil (w : World) :
    Calls Try.prog 33 #[.pointer none] w fun e w' => e = .returned (.pointer none) ∧ w' = w := by
  go_enter Try.func33, Try.ntmps33
  go_wp2
  go_ret
  exact ⟨rfl, rfl⟩

set_option maxRecDepth 100000 in
theorem mDefine_nil (c : Array Value) (m : Mac) (psv bov : Value) (w : World) :
    Calls Try.prog 34 #[.pointer none, .agg (mcC m.name m.fn m.va psv bov m.file m.f m.t).toArray] w fun e w' => e = .returned (.bool false) ∧ Below w.heap.size w w' := by
  unfold mcC
  go_enter Try.func34, Try.ntmps34
  go_wp2
  go_ret
  exact ⟨rfl, (Below.refl _ w).alloc (Nat.le_refl _) _⟩
end Go.Proofs.Ythbicbfdldpemaa
