/- Texts of this seat's proofs, laid into one file. -/
import Derived.Test.YthbicbfdldpemaaMacroFormsDoneG23
import Derived.WideMake
import Derived.StringKeys
/- macro's tables: a map of definitions. -/
namespace Go.Proofs.Ythbicbfdldpemaa
open Go.RowKit
set_option linter.unusedVariables false

/-! ## a map from strings, as a list -/

def MapIs (es : Array MapEntry) (L : List (ByteArray × Value)) : Prop := es.toList.map (fun x => (x.key, x.val)) = L.map (fun p => (Value.string p.1, p.2))
def lookL (L : List (ByteArray × Value)) (n : ByteArray) : Option Value := (L.find? fun p => decide (p.1 = n)).map (·.2)
def putL (L : List (ByteArray × Value)) (n : ByteArray) (v : Value) : List (ByteArray × Value) := if (L.any fun p => decide (p.1 = n)) then L.map (fun p => if p.1 = n then (n, v) else p) else L ++ [(n, v)]

theorem str_key {P : Program} {k : TypeId} (hk : P.underlying k = some .string) {n : ByteArray} (hn : n.size ≤ maxLen) : keyOf P k (.string n) = some (.string n.data.toList) := WideMaps.keyOf_string_mk hk hn

theorem MapIs.mem {es : Array MapEntry} {L : List (ByteArray × Value)} (h : MapIs es L) {x : MapEntry} (hx : x ∈ es.toList) : ∃ p ∈ L, x.key = .string p.1 ∧ x.val = p.2 := by
  have : (x.key, x.val) ∈ es.toList.map (fun x => (x.key, x.val)) := List.mem_map.2 ⟨x, hx, rfl⟩
  rw [h] at this
  obtain ⟨p, hp, e⟩ := List.mem_map.1 this
  simp only [Prod.mk.injEq] at e
  exact ⟨p, hp, e.1.symm, e.2.symm⟩

theorem MapIs.get {es : Array MapEntry} {L : List (ByteArray × Value)} (h : MapIs es L) {x : MapEntry} {j : Nat} (hx : es.toList[j]? = some x) : ∃ p, L[j]? = some p ∧ x.key = .string p.1 ∧ x.val = p.2 := by
  have : (es.toList.map (fun x => (x.key, x.val)))[j]? = some (x.key, x.val) := by simp [hx]
  rw [h, List.getElem?_map] at this
  cases hp : L[j]? with
  | none => rw [hp] at this; simp at this
  | some p =>
    rw [hp] at this
    simp only [Option.map_some, Option.some.injEq, Prod.mk.injEq] at this
    exact ⟨p, rfl, this.1.symm, this.2.symm⟩

theorem map_lookup {P : Program} {w : World} {t k e : TypeId} {b : Nat} {es : Array MapEntry} {clock : Nat} {L : List (ByteArray × Value)} (ht : P.underlying t = some (.map k e)) (hk : P.underlying k = some .string) {z : Value} (hz : (zeroValue e).run P w = .ok z w)
    (hb : w.heap[b]? = some (.map es clock)) (hL : MapIs es L) (hnd : (L.map (·.1)).Nodup) (hsz : ∀ p ∈ L, p.1.size ≤ maxLen) {n : ByteArray} (hn : n.size ≤ maxLen) :
    (Instr.lookup t (.map (some b)) (.string n) false).run P w = .ok ((lookL L n).getD z) w := by
  have K := WideMaps.string_law hk
  have hkey := str_key hk hn
  have hkeys : ∀ e ∈ es.toList, ∃ l, keyOf P k e.key = some l := by
    intro x hx
    obtain ⟨p, hp, e1, _⟩ := hL.mem hx
    exact ⟨_, by rw [e1]; exact str_key hk (hsz p hp)⟩
  rcases K.find w hkey es.toList hkeys with ⟨h1, h2⟩ | ⟨j, e0, h1, h2, h3⟩
  · have : lookL L n = none := by
      unfold lookL
      rw [List.find?_eq_none.2]
      · rfl
      · intro p hp
        simp only [decide_eq_true_eq]
        intro e
        have : (Value.string p.1, p.2) ∈ L.map (fun p => (Value.string p.1, p.2)) := List.mem_map.2 ⟨p, hp, rfl⟩
        rw [← hL] at this
        obtain ⟨x, hx, e1⟩ := List.mem_map.1 this
        simp only [Prod.mk.injEq] at e1
        exact h2 x hx (by rw [e1.1, e])
    rw [this]
    simp [Instr.lookup, run_underlying ht, MapKept.run_getObj_map hb, K.check w _ hkey, h1, hz, Result.andThen]
  · obtain ⟨p, hp, e1, e2⟩ := hL.get h2
    have hpn : p.1 = n := by rw [h3] at e1; injection e1 with e1; exact e1.symm
    have : lookL L n = some e0.val := by
      unfold lookL
      have hf : L.find? (fun p => decide (p.1 = n)) = some p := by
        rw [List.find?_eq_some_iff_getElem]
        obtain ⟨hj, hpj⟩ := List.getElem?_eq_some_iff.1 hp
        refine ⟨by simpa using hpn, j, hj, hpj, fun i hi => ?_⟩
        simp only [Bool.not_eq_eq_eq_not, Bool.not_true, decide_eq_false_iff_not]
        intro e
        have := (List.pairwise_iff_getElem.1 hnd) i j (by simp; omega) (by simpa using hj) hi
        apply this
        simp only [List.getElem_map]
        rw [e, hpj, hpn]
      rw [hf, e2]; rfl
    rw [this]
    simp [Instr.lookup, run_underlying ht, MapKept.run_getObj_map hb, K.check w _ hkey, h1, Result.andThen]

theorem map_update {P : Program} {w : World} {t k e : TypeId} {b : Nat} {es : Array MapEntry} {clock : Nat} {L : List (ByteArray × Value)} (ht : P.underlying t = some (.map k e)) (hk : P.underlying k = some .string)
    (hb : w.heap[b]? = some (.map es clock)) (hL : MapIs es L) (hnd : (L.map (·.1)).Nodup) (hsz : ∀ p ∈ L, p.1.size ≤ maxLen) {n : ByteArray} (hn : n.size ≤ maxLen) (v : Value) :
    ∃ es' clock', (Instr.mapUpdate t (.map (some b)) (.string n) v).run P w = .ok () (ChangeMaps.setBlock w b (.map es' clock')) ∧ MapIs es' (putL L n v) := by
  have K := WideMaps.string_law hk
  have hkey := str_key hk hn
  have hkeys : ∀ e ∈ es.toList, ∃ l, keyOf P k e.key = some l := by
    intro x hx
    obtain ⟨p, hp, e1, _⟩ := hL.mem hx
    exact ⟨_, by rw [e1]; exact str_key hk (hsz p hp)⟩
  rcases K.find w hkey es.toList hkeys with ⟨h1, h2⟩ | ⟨j, e0, h1, h2, h3⟩
  · refine ⟨es.push ⟨.string n, v, clock⟩, clock + 1, ?_, ?_⟩
    · simp [Instr.mapUpdate, run_underlying ht, MapKept.run_getObj_map hb, K.check w false hkey, h1, MapKept.run_setObj_map _ hb, Result.andThen, ChangeMaps.setBlock]
    · have : (L.any fun p => decide (p.1 = n)) = false := by
        rw [List.any_eq_false]
        intro p hp
        simp only [decide_eq_true_eq]
        intro e
        have : (Value.string p.1, p.2) ∈ L.map (fun p => (Value.string p.1, p.2)) := List.mem_map.2 ⟨p, hp, rfl⟩
        rw [← hL] at this
        obtain ⟨x, hx, e1⟩ := List.mem_map.1 this
        simp only [Prod.mk.injEq] at e1
        exact h2 x hx (by rw [e1.1, e])
      unfold putL MapIs
      rw [if_neg (by rw [this]; simp), Array.toList_push, List.map_append, List.map_append, hL]
      rfl
  · have hj : es[j]? = some e0 := by simpa using h2
    obtain ⟨p, hp, e1, e2⟩ := hL.get h2
    have hpn : p.1 = n := by rw [h3] at e1; injection e1 with e1; exact e1.symm
    refine ⟨es.modify j (fun e' => { e' with key := .string n, val := v }), clock, ?_, ?_⟩
    · simp [Instr.mapUpdate, run_underlying ht, MapKept.run_getObj_map hb, K.check w false hkey, h1, hj, h3, K.stays w hkey, MapKept.run_setObj_map _ hb, Result.andThen, ChangeMaps.setBlock]
    · have : (L.any fun p => decide (p.1 = n)) = true := by
        rw [List.any_eq_true]
        exact ⟨p, List.mem_of_getElem? hp, by simpa using hpn⟩
      unfold putL MapIs
      rw [if_pos this, Array.toList_modify]
      apply List.ext_getElem?
      intro i
      have hLi : (es.toList.map (fun x => (x.key, x.val)))[i]? = (L.map (fun p => (Value.string p.1, p.2)))[i]? := by rw [hL]
      rw [List.getElem?_map, List.getElem?_map] at hLi
      rw [List.getElem?_map, List.getElem?_map, List.getElem?_map, List.getElem?_modify]
      by_cases hij : j = i
      · subst hij
        rw [h2, hp]
        simp [hpn]
      · cases hx : es.toList[i]? with
        | none =>
          rw [hx] at hLi
          cases hq : L[i]? with
          | none => simp
          | some q => rw [hq] at hLi; simp at hLi
        | some x =>
          rw [hx] at hLi
          cases hq : L[i]? with
          | none => rw [hq] at hLi; simp at hLi
          | some q =>
            rw [hq] at hLi
            have hqn : q.1 ≠ n := by
              intro e
              obtain ⟨hi', hqi⟩ := List.getElem?_eq_some_iff.1 hq
              obtain ⟨hj', hpj⟩ := List.getElem?_eq_some_iff.1 hp
              have key : ∀ a b (ha : a < L.length) (hb : b < L.length), a < b → L[a].1 ≠ L[b].1 := fun a b ha hb hab => by
                have := (List.pairwise_iff_getElem.1 hnd) a b (by simpa using ha) (by simpa using hb) hab
                simpa using this
              rcases Nat.lt_or_gt_of_ne hij with h | h
              · exact key j i hj' hi' h (by rw [hpj, hqi, hpn, e])
              · exact key i j hi' hj' h (by rw [hpj, hqi, hpn, e])
            simp [hij, hqn] at hLi ⊢
            exact hLi
end Go.Proofs.Ythbicbfdldpemaa

/- macro's tables: New, Look, Copy of none, Define. -/
namespace Go.Proofs.Ythbicbfdldpemaa
open Go.RowKit
set_option linter.unusedVariables false

abbrev Ent := ByteArray × Nat × Mac
def entV (p : Ent) : ByteArray × Value := (p.1, .pointer (some ⟨p.2.1, 0, none⟩))
def lookT (L : List Ent) (n : ByteArray) : Option (Nat × Mac) := (L.find? fun p => decide (p.1 = n)).map (·.2)
def putT (L : List Ent) (n : ByteArray) (x : Nat × Mac) : List Ent := if (L.any fun p => decide (p.1 = n)) then L.map (fun p => if p.1 = n then (n, x) else p) else L ++ [(n, x)]

theorem lookL_ent (L : List Ent) (n : ByteArray) : lookL (L.map entV) n = (lookT L n).map fun x => .pointer (some ⟨x.1, 0, none⟩) := by
  unfold lookL lookT
  rw [List.find?_map]
  have : ((fun p : ByteArray × Value => decide (p.1 = n)) ∘ entV) = fun p : Ent => decide (p.1 = n) := rfl
  rw [this]
  cases L.find? (fun p => decide (p.1 = n)) <;> rfl

theorem putL_ent (L : List Ent) (n : ByteArray) (x : Nat × Mac) : putL (L.map entV) n (.pointer (some ⟨x.1, 0, none⟩)) = (putT L n x).map entV := by
  unfold putL putT
  rw [List.any_map]
  have : ((fun p : ByteArray × Value => decide (p.1 = n)) ∘ entV) = fun p : Ent => decide (p.1 = n) := rfl
  rw [this]
  split
  · rw [List.map_map, List.map_map]
    apply List.map_congr_left
    intro p _
    simp only [Function.comp_apply]
    by_cases h : p.1 = n
    · rw [if_pos (show (entV p).1 = n from h), if_pos h]; rfl
    · rw [if_neg (show ¬ (entV p).1 = n from h), if_neg h]
  · rw [List.map_append]; rfl

theorem putT_keys {L : List Ent} {n : ByteArray} {x : Nat × Mac} (h : (L.map (·.1)).Nodup) : ((putT L n x).map (·.1)).Nodup := by
  unfold putT
  split
  · have : (L.map fun p => if p.1 = n then (n, x) else p).map (·.1) = L.map (·.1) := by
      rw [List.map_map]
      apply List.map_congr_left
      intro p _
      simp only [Function.comp_apply]
      by_cases hp : p.1 = n
      · rw [if_pos hp]; exact hp.symm
      · rw [if_neg hp]
    rw [this]; exact h
  · rename_i hn
    rw [List.map_append, List.nodup_append]
    refine ⟨h, by simp, ?_⟩
    intro a ha b hb
    simp only [List.map_cons, List.map_nil, List.mem_singleton] at hb
    subst hb
    rintro rfl
    apply hn
    obtain ⟨p, hp, e⟩ := List.mem_map.1 ha
    rw [List.any_eq_true]
    exact ⟨p, hp, by simpa using e⟩

theorem putT_mem {L : List Ent} {n : ByteArray} {x : Nat × Mac} {p : Ent} (h : p ∈ putT L n x) : p ∈ L ∨ p = (n, x) := by
  unfold putT at h
  split at h
  · obtain ⟨q, hq, e⟩ := List.mem_map.1 h
    by_cases hn : q.1 = n
    · rw [if_pos hn] at e; exact .inr e.symm
    · rw [if_neg hn] at e; subst e; exact .inl hq
  · rcases List.mem_append.1 h with h | h
    · exact .inl h
    · exact .inr (by simpa using h)

/-- a definition in memory -/
def DefAt (w : World) (g : Nat) (m : Mac) : Prop := ∃ psv bov, w.heap[g]? = some (.cells (mcC m.name m.fn m.va psv bov m.file m.f m.t).toArray 29 (0, 0)) ∧ MacAt w m psv bov

structure TabAt (w : World) (tb mb : Nat) (L : List Ent) : Prop where
  tab : w.heap[tb]? = some (.cells #[.map (some mb)] 113 (0, 0))
  map : ∃ es clock, w.heap[mb]? = some (.map es clock) ∧ MapIs es (L.map entV)
  nd : (L.map (·.1)).Nodup
  ents : ∀ p ∈ L, p.1.size ≤ maxLen ∧ DefAt w p.2.1 p.2.2

theorem DefAt.below {w w' : World} {g : Nat} {m : Mac} (h : DefAt w g m) (hb : Below w.heap.size w w') : DefAt w' g m := by
  obtain ⟨psv, bov, h1, h2⟩ := h
  exact ⟨psv, bov, (hb.block _ (lt_of_block h1)).trans h1, h2.below hb⟩

theorem TabAt.below {w w' : World} {tb mb : Nat} {L : List Ent} (h : TabAt w tb mb L) (hb : Below w.heap.size w w') : TabAt w' tb mb L := by
  obtain ⟨h1, ⟨es, clock, h2, h3⟩, h4, h5⟩ := h
  exact ⟨(hb.block _ (lt_of_block h1)).trans h1, ⟨es, clock, (hb.block _ (lt_of_block h2)).trans h2, h3⟩, h4, fun p hp => ⟨(h5 p hp).1, (h5 p hp).2.below hb⟩⟩

theorem zero_mac (w : World) : (zeroValue 115).run Try.prog w = .ok (.pointer none) w := by kernel_rfl

theorem TabAt.look {w : World} {tb mb : Nat} {L : List Ent} (h : TabAt w tb mb L) {n : ByteArray} (hn : n.size ≤ maxLen) :
    (Instr.lookup 111 (.map (some mb)) (.string n) false).run Try.prog w = .ok (.pointer ((lookT L n).map fun x => ⟨x.1, 0, none⟩)) w := by
  obtain ⟨es, clock, hm, hL⟩ := h.map
  have := map_lookup Try.underlying111 Try.underlying9 (zero_mac w) hm hL (by rw [List.map_map]; exact h.nd) (by
    intro p hp
    obtain ⟨q, hq, rfl⟩ := List.mem_map.1 hp
    exact (h.ents q hq).1) hn
  rw [this, lookL_ent]
  cases lookT L n <;> rfl

set_option maxRecDepth 100000 in
theorem mLook_any (tb mb : Nat) (L : List Ent) (n : ByteArray) (hn : n.size ≤ maxLen) (w : World) (hT : TabAt w tb mb L) :
    Calls Try.prog 62 #[.pointer (some ⟨tb, 0, none⟩), .string n] w fun e w' => e = .returned (.pointer ((lookT L n).map fun x => ⟨x.1, 0, none⟩)) ∧ w' = w := by
  have hl := hT.look hn
  have ht := hT.tab
  have c0 : w.cell? ⟨tb, 0, none⟩ = some (.map (some mb)) := by simpa using Lib.cell_of_heap ht 0
  generalize (Option.map (fun x => (⟨x.1, 0, none⟩ : Addr)) (lookT L n)) = q at hl ⊢
  clear hT
  go_enter Try.func62, Try.ntmps62
  go_wp2
  refine bodyPost_ret (v := .pointer q) (by simp [results, Try.results62, go_sem]) rfl ⟨rfl, rfl⟩

set_option maxRecDepth 100000 in
theorem mNew_any (w : World) :
    Calls Try.prog 31 #[] w fun e w' => e = .returned (.pointer (some ⟨w.heap.size + 1, 0, none⟩)) ∧ TabAt w' (w.heap.size + 1) w.heap.size [] ∧ Below w.heap.size w w' := by
  have hmk : ∀ w : World, (Instr.makeMap 111 none).run Try.prog w = .ok (.map (some w.heap.size)) (w.alloc (.map #[] 0)) := fun w => by kernel_rfl
  go_enter Try.func31, Try.ntmps31
  go_wp2
  go_ret
  refine ⟨rfl, ⟨?_, ⟨#[], 0, (Lib.alloc_old _ _ _ (by simp)).trans (heap_alloc_new w _), rfl⟩, by simp, by simp⟩, ((Below.refl _ w).alloc (Nat.le_refl _) _).alloc (by simp) _⟩
  have := heap_alloc_new (w.alloc (.map #[] 0)) (.cells #[.map (some w.heap.size)] 113)
  simpa using this

set_option maxRecDepth 100000 in
theorem mCopy_nil (w : World) :
    Calls Try.prog 33 #[.pointer none] w fun e w' => e = .returned (.pointer none) ∧ w' = w := by
  go_enter Try.func33, Try.ntmps33
  go_wp2
  go_ret
  exact ⟨rfl, rfl⟩

set_option maxRecDepth 100000 in
theorem mDefine_nil (c : Array Value) (m : Mac) (psv bov : Value) (w : World) :
    Calls Try.prog 34 #[.pointer none, .agg (mcC m.name m.fn m.va psv bov m.file m.f m.t).toArray] w fun e w' => e = .returned (.bool false) ∧ Below w.heap.size w w' := by
  unfold mcC
  go_enter Try.func34, Try.ntmps34
  go_wp2
  go_ret
  exact ⟨rfl, (Below.refl _ w).alloc (Nat.le_refl _) _⟩
end Go.Proofs.Ythbicbfdldpemaa

/- macro's tables: Define. -/
namespace Go.Proofs.Ythbicbfdldpemaa
open Go.RowKit
set_option linter.unusedVariables false

theorem cell_ne_map {w : World} {mb : Nat} {es : Array MapEntry} {clock : Nat} (h : w.heap[mb]? = some (.map es clock)) {a : Addr} {v : Value} (hc : w.cell? a = some v) : a.block ≠ mb := by
  intro e
  unfold World.cell? at hc
  rw [e, h] at hc
  simp at hc

/-- all cells of a world are there in the other one -/
def KeptC (w w' : World) : Prop := ∀ (k : Nat) (x : Array Value) (e : TypeId) (fz : Nat × Nat), w.heap[k]? = some (Obj.cells x e fz) → w'.heap[k]? = some (Obj.cells x e fz)

theorem KeptC.refl (w : World) : KeptC w w := fun _ _ _ _ h => h
theorem KeptC.trans {a b c : World} (h : KeptC a b) (k : KeptC b c) : KeptC a c := fun i x e fz hx => k i x e fz (h i x e fz hx)
theorem KeptC.below {w w' : World} (h : Below w.heap.size w w') : KeptC w w' := fun k x e fz hx => (h.block k (lt_of_block hx)).trans hx
theorem KeptC.cell {w w' : World} (h : KeptC w w') {a : Addr} {v : Value} (hc : w.cell? a = some v) : w'.cell? a = some v := by
  have hc' := hc
  unfold World.cell? at hc'
  split at hc'
  · rename_i x e fz hx
    exact (World.cell?_of_block (by rw [h _ _ _ _ hx, hx])).trans hc
  · simp at hc'
theorem KeptC.grown {w w' : World} {mb : Nat} {es : Array MapEntry} {clock : Nat} (hm : w.heap[mb]? = some (.map es clock)) (h : w.grownBy w' (some mb)) : KeptC w w' := by
  intro k x e fz hx
  rw [h.block k (lt_of_block hx)]
  · exact hx
  · intro e1
    injection e1 with e1
    subst e1
    rw [hm] at hx
    simp at hx

theorem RowAt.keep {w w' : World} {sz b o : Nat} {css : List (List Value)} (h : RowAt w sz b o css) (k : KeptC w w') : RowAt w' sz b o css := fun i cs hi j u hj => k.cell (h i cs hi j u hj)
theorem Row.keep {w w' : World} {sz : Nat} {ao : Option Addr} {css : List (List Value)} (h : Row w sz ao css) (k : KeptC w w') : Row w' sz ao css := fun hne => let ⟨b, o, e, r⟩ := h hne; ⟨b, o, e, r.keep k⟩
theorem MacAt.keep {w w' : World} {m : Mac} {psv bov : Value} (h : MacAt w m psv bov) (k : KeptC w w') : MacAt w' m psv bov := by
  obtain ⟨⟨ao, cap, h1, h2, h3⟩, ⟨bo, cb, T, k1, k2, k3, k4, k5, k6⟩⟩ := h
  exact ⟨⟨ao, cap, h1, h2.keep k, h3⟩, ⟨bo, cb, T, k1, k2, k3, k4, k5.keep k, k6⟩⟩
theorem DefAt.keep {w w' : World} {g : Nat} {m : Mac} (h : DefAt w g m) (k : KeptC w w') : DefAt w' g m := by
  obtain ⟨psv, bov, h1, h2⟩ := h
  exact ⟨psv, bov, k _ _ _ _ h1, h2.keep k⟩

def defRes (L : List Ent) (m : Mac) : Bool := match lookT L m.name with | none => true | some x => sameP x.2 m

theorem lookT_mem {L : List Ent} {n : ByteArray} {x : Nat × Mac} (h : lookT L n = some x) : (n, x) ∈ L := by
  unfold lookT at h
  cases hf : L.find? (fun p => decide (p.1 = n)) with
  | none => rw [hf] at h; simp at h
  | some p =>
    rw [hf] at h
    simp only [Option.map_some, Option.some.injEq] at h
    have h1 := List.mem_of_find?_eq_some hf
    have h2 := List.find?_some hf
    simp only [decide_eq_true_eq] at h2
    obtain ⟨p1, p2⟩ := p
    simp only at h h2
    subst h h2
    exact h1

theorem setBlock_grown (w : World) (mb : Nat) (o : Obj) : w.grownBy (ChangeMaps.setBlock w mb o) (some mb) :=
  ⟨rfl, rfl, rfl, by simp [ChangeMaps.setBlock], fun k _ hk => by
    have : mb ≠ k := fun e => hk (by rw [e])
    simp [ChangeMaps.setBlock, Array.getElem?_setIfInBounds_ne this]⟩

theorem setBlock_at {w : World} {mb : Nat} {o o' : Obj} (h : w.heap[mb]? = some o) : (ChangeMaps.setBlock w mb o').heap[mb]? = some o' := by
  simp [ChangeMaps.setBlock, lt_of_block h]

set_option maxRecDepth 100000 in
theorem mDefine_any (tb mb : Nat) (L : List Ent) (m : Mac) (psv bov : Value) (w : World) (hT : TabAt w tb mb L) (hm : MacAt w m psv bov) (hn : m.name.size ≤ maxLen) :
    Calls Try.prog 34 #[.pointer (some ⟨tb, 0, none⟩), .agg (mcC m.name m.fn m.va psv bov m.file m.f m.t).toArray] w fun e w' => ∃ g, e = .returned (.bool (defRes L m)) ∧ TabAt w' tb mb (putT L m.name (g, m)) ∧ w.grownBy w' (some mb) := by
  obtain ⟨pao, pcp, hpv, _, hpl, _⟩ := hm.ps
  obtain ⟨bao, bcp, _, hbv, _, hbl, _⟩ := hm.body
  obtain ⟨W1, hW1⟩ : ∃ W1, W1 = w.alloc (.cells #[.string m.name, .bool m.fn, .bool m.va, psv, bov, .string m.file, .int .i64 m.f, .int .i64 m.t] 29) := ⟨_, rfl⟩
  have hB1 : Below w.heap.size w W1 := by rw [hW1]; exact (Below.refl _ w).alloc (Nat.le_refl _) _
  have hd1 : W1.heap[w.heap.size]? = some (.cells #[.string m.name, .bool m.fn, .bool m.va, psv, bov, .string m.file, .int .i64 m.f, .int .i64 m.t] 29 (0, 0)) := by rw [hW1]; exact heap_alloc_new w _
  have hs1 : W1.heap.size = w.heap.size + 1 := by rw [hW1]; simp
  have hT1 := hT.below hB1
  have HL := mLook_any tb mb L m.name hn W1 hT1
  have HO := mOwnMac_any m psv bov W1 (hm.below hB1)
  obtain ⟨q, hq⟩ : ∃ q, q = Option.map (fun x : Nat × Mac => (⟨x.1, 0, none⟩ : Addr)) (lookT L m.name) := ⟨_, rfl⟩
  rw [← hq] at HL
  unfold mcC at HO ⊢
  subst hpv hbv
  obtain ⟨np, hnp⟩ : ∃ n, n = m.params.length := ⟨_, rfl⟩
  obtain ⟨nb, hnb⟩ : ∃ n, n = m.body.length := ⟨_, rfl⟩
  rw [← hnp] at HO hd1 hW1 ⊢
  rw [← hnb] at HO hd1 hW1 ⊢
  replace hnp := Lib.hid hnp
  replace hnb := Lib.hid hnb
  replace hq := Lib.hid hq
  replace HL := Lib.hid HL
  replace HO := Lib.hid HO
  clear hm
  obtain ⟨m0, m1, m2, m3, m4, m5, m6, m7⟩ := cells8 hd1
  go_enter Try.func34, Try.ntmps34
  go_upto_region 3 with fail
  rw [← hW1]
  replace hW1 := Lib.hid hW1
  go_wp2_with fail
  refine HL.out.mono ?_
  rintro e w2 ⟨rfl, hw2⟩
  replace hw2 := hw2.symm
  subst hw2
  go_wp2_with fail
  refine HO.out.mono ?_
  rintro e w3 ⟨ps3, bo3, rfl, hO3, hb3⟩
  obtain ⟨qao, qcp, rfl, _, _, _, _⟩ := hO3.ps.rown (n := np) (by rw [hnp.out]; simp)
  obtain ⟨T3, hT3, hT3s, hT3n⟩ := hO3.body
  obtain ⟨rao, rcp, rfl, _, _, _, _⟩ := hT3.rown (n := nb) (by rw [List.length_map, hnb.out, ← hT3s, List.length_map])
  have hd3 := (hb3.block w.heap.size (by omega)).trans hd1
  have hd4 := setRow_heap _ _ _ #[Value.string m.name, .bool m.fn, .bool m.va, .slice qao np qcp, .slice rao nb rcp, .string m.file, .int .i64 m.f, .int .i64 m.t] _ _ hd3
  have hB4 : Below w.heap.size w (w3.setRow w.heap.size #[Value.string m.name, .bool m.fn, .bool m.va, .slice qao np qcp, .slice rao nb rcp, .string m.file, .int .i64 m.f, .int .i64 m.t]) := Below.row (hB1.trans (hb3.mono (by omega))) (Nat.le_refl _) _
  have hD4 : DefAt (w3.setRow w.heap.size #[Value.string m.name, .bool m.fn, .bool m.va, .slice qao np qcp, .slice rao nb rcp, .string m.file, .int .i64 m.f, .int .i64 m.t]) w.heap.size m := ⟨_, _, hd4, (hO3.rowBelow (by omega) _).at hpl hbl⟩
  go_upto_region 5 with (refine wpList_store_row rfl 29 (.tmp 3) (.tmp 13) rfl w.heap.size _ rfl rfl 29 _ hd3 info_mac rfl (by simp [Value.oneCell']) ?_)
  generalize w3.setRow w.heap.size #[Value.string m.name, .bool m.fn, .bool m.va, .slice qao np qcp, .slice rao nb rcp, .string m.file, .int .i64 m.f, .int .i64 m.t] = W4 at *
  have hT4 := hT.below hB4
  obtain ⟨es, clock, hmp, hMI⟩ := hT4.map
  obtain ⟨es', clock', hU, hMI'⟩ := map_update (w := W4.drew) Try.underlying111 Try.underlying9 hmp hMI (by rw [List.map_map]; exact hT4.nd) (by
    intro p hp
    obtain ⟨q, hq, rfl⟩ := List.mem_map.1 hp
    exact (hT4.ents q hq).1) hn (.pointer (some ⟨w.heap.size, 0, none⟩))
  rw [putL_ent L m.name (w.heap.size, m)] at hMI'
  have FIN : Hid (w.grownBy (ChangeMaps.setBlock W4.drew mb (.map es' clock')) (some mb) ∧ TabAt (ChangeMaps.setBlock W4.drew mb (.map es' clock')) tb mb (putT L m.name (w.heap.size, m)) ∧ (∀ p ∈ L, DefAt (ChangeMaps.setBlock W4.drew mb (.map es' clock')) p.2.1 p.2.2) ∧ DefAt (ChangeMaps.setBlock W4.drew mb (.map es' clock')) w.heap.size m) := Lib.hid (by
    have hg := setBlock_grown W4.drew mb (.map es' clock')
    have hk : KeptC W4 (ChangeMaps.setBlock W4.drew mb (.map es' clock')) := KeptC.grown (w := W4.drew) hmp hg
    have hold : ∀ p ∈ L, DefAt (ChangeMaps.setBlock W4.drew mb (.map es' clock')) p.2.1 p.2.2 := fun p hp => (hT4.ents p hp).2.keep hk
    have hnew : DefAt (ChangeMaps.setBlock W4.drew mb (.map es' clock')) w.heap.size m := hD4.keep hk
    refine ⟨grown_trans (b := W4.drew) ⟨hB4.drew.os, hB4.drew.tape, hB4.drew.output, hB4.drew.size, fun k hk _ => hB4.drew.block k hk⟩ hg, ⟨hk _ _ _ _ hT4.tab, ⟨es', clock', setBlock_at (w := W4.drew) hmp, hMI'⟩, putT_keys hT4.nd, ?_⟩, hold, hnew⟩
    intro p hp
    rcases putT_mem hp with h | rfl
    · exact ⟨(hT4.ents p h).1, hold p h⟩
    · exact ⟨hn, hnew⟩)
  have ht4 : W4.cell? ⟨tb, 0, none⟩ = some (.map (some mb)) := by simpa using Lib.cell_of_heap hT4.tab 0
  replace hMI := Lib.hid hMI
  replace hMI' := Lib.hid hMI'
  clear m0 m1 m2 m3 m4 m5 m6 m7 hT3 hO3 hd3 hb3 hT3s hT3n hd1 hT1 hmp hT4
  obtain ⟨m0, m1, m2, m3, m4, m5, m6, m7⟩ := cells8 hd4
  have hput : ∀ a : Act, a.put none undef = a := fun _ => rfl
  rw [hput]
  clear hput
  go_cut [] from 14 to 19 (fun wx => w.grownBy wx (some mb) ∧ TabAt wx tb mb (putT L m.name (w.heap.size, m)) ∧ (∀ p ∈ L, DefAt wx p.2.1 p.2.2) ∧ DefAt wx w.heap.size m)
  case first =>
    go_region
    go_wp2_with fail
    go_meet
    case rel => exact FIN.out
  case rest =>
    obtain ⟨hgX, hTX, hoX, hnX⟩ := hcut
    clear m0 m1 m2 m3 m4 m5 m6 m7 hd4 hB4 hD4 ht4 hU
    have hgd : w.grownBy wc.drew (some mb) := ⟨hgX.os, hgX.tape, hgX.output, hgX.size, hgX.block⟩
    have hTd : TabAt wc.drew tb mb (putT L m.name (w.heap.size, m)) := hTX.below (Below.refl _ wc).drew
    cases hlt : lookT L m.name with
    | none =>
      have hqn : q = none := by rw [hq.out, hlt]; rfl
      subst hqn
      have hR : defRes L m = true := by unfold defRes; rw [hlt]
      replace hR := Lib.hid hR
      replace hq := Lib.hid hq
      replace hlt := Lib.hid hlt
      go_wp2_with fail
      go_region
      all_goals
        go_wp2
        go_ret
        exact ⟨_, by rw [hR.out]; rfl, hTd, hgd⟩
    | some x =>
      obtain ⟨g, mo⟩ := x
      have hqs : q = some ⟨g, 0, none⟩ := by rw [hq.out, hlt]; rfl
      subst hqs
      have hR : defRes L m = sameP mo m := by unfold defRes; rw [hlt]
      obtain ⟨ops, obo, k1, k2⟩ := hoX (m.name, (g, mo)) (lookT_mem hlt)
      obtain ⟨nps, nbo, j1, j2⟩ := hnX
      have HS := mSame_any mo m ops obo nps nbo wc.drew (k2.below (Below.refl _ wc).drew) (j2.below (Below.refl _ wc).drew)
      obtain ⟨_, _, e1, _⟩ := k2.ps
      obtain ⟨_, _, _, e2, _⟩ := k2.body
      obtain ⟨_, _, e3, _⟩ := j2.ps
      obtain ⟨_, _, _, e4, _⟩ := j2.body
      subst e1 e2 e3 e4
      obtain ⟨z, hz⟩ : ∃ z, z = sameP mo m := ⟨_, rfl⟩
      rw [← hz] at HS hR
      unfold mcC at HS k1 j1
      obtain ⟨m0, m1, m2, m3, m4, m5, m6, m7⟩ := cells8 k1
      obtain ⟨n0, n1, n2, n3, n4, n5, n6, n7⟩ := cells8 j1
      replace HS := Lib.hid HS
      replace hR := Lib.hid hR
      replace hz := Lib.hid hz
      replace hq := Lib.hid hq
      replace hlt := Lib.hid hlt
      go_wp2_with fail
      go_region_law (go_simp; go_at_call 18; refine HS.out.mono ?_; rintro e w5 ⟨rfl, hb5⟩)
      all_goals
        go_wp2
        go_ret
        exact ⟨_, by rw [hR.out]; rfl, hTd.below hb5, grown_trans hgd ⟨hb5.os, hb5.tape, hb5.output, hb5.size, fun k hk _ => hb5.block k hk⟩⟩
end Go.Proofs.Ythbicbfdldpemaa
