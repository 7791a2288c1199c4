/- A map from strings, as a list. -/
import Derived.Test.YtekbilieddficaaDoorBase2
import Derived.WideMake
import Derived.StringKeys
namespace Go.Proofs.YtekbilieddficaaDoor
open Go.RowKit
set_option linter.unusedVariables false

/-! ## a map from strings, as a list -/

def MapIs (es : Array MapEntry) (L : List (ByteArray × Value)) : Prop := es.toList.map (fun x => (x.key, x.val)) = L.map (fun p => (Value.string p.1, p.2))
def lookL (L : List (ByteArray × Value)) (n : ByteArray) : Option Value := (L.find? fun p => decide (p.1 = n)).map (·.2)
def putL (L : List (ByteArray × Value)) (n : ByteArray) (v : Value) : List (ByteArray × Value) := if (L.any fun p => decide (p.1 = n)) then L.map (fun p => if p.1 = n then (n, v) else p) else L ++ [(n, v)]

theorem str_key {P : Program} {k : TypeId} (hk : P.underlying k = some .string) {n : ByteArray} (hn : n.size ≤ maxLen) : keyOf P k (.string n) = some (.string n.data.toList) := WideMaps.keyOf_string_mk hk hn

theorem MapIs.mem {es : Array MapEntry} {L : List (ByteArray × Value)} (h : MapIs es L) {x : MapEntry} (hx : x ∈ es.toList) : ∃ p ∈ L, x.key = .string p.1 ∧ x.val = p.2 := by
  have : (x.key, x.val) ∈ es.toList.map (fun x => (x.key, x.val)) := List.mem_map.2 ⟨x, hx, rfl⟩
  rw [h] at this
  obtain ⟨p, hp, e⟩ := List.mem_map.1 this
  simp only [Prod.mk.injEq] at e
  exact ⟨p, hp, e.1.symm, e.2.symm⟩

theorem MapIs.get {es : Array MapEntry} {L : List (ByteArray × Value)} (h : MapIs es L) {x : MapEntry} {j : Nat} (hx : es.toList[j]? = some x) : ∃ p, L[j]? = some p ∧ x.key = .string p.1 ∧ x.val = p.2 := by
  have : (es.toList.map (fun x => (x.key, x.val)))[j]? = some (x.key, x.val) := by simp [hx]
  rw [h, List.getElem?_map] at this
  cases hp : L[j]? with
  | none => rw [hp] at this; simp at this
  | some p =>
    rw [hp] at this
    simp only [Option.map_some, Option.some.injEq, Prod.mk.injEq] at this
    exact ⟨p, rfl, this.1.symm, this.2.symm⟩

theorem map_lookup {P : Program} {w : World} {t k e : TypeId} {b : Nat} {es : Array MapEntry} {clock : Nat} {L : List (ByteArray × Value)} (ht : P.underlying t = some (.map k e)) (hk : P.underlying k = some .string) {z : Value} (hz : (zeroValue e).run P w = .ok z w)
    (hb : w.heap[b]? = some (.map es clock)) (hL : MapIs es L) (hnd : (L.map (·.1)).Nodup) (hsz : ∀ p ∈ L, p.1.size ≤ maxLen) {n : ByteArray} (hn : n.size ≤ maxLen) :
    (Instr.lookup t (.map (some b)) (.string n) false).run P w = .ok ((lookL L n).getD z) w := by
  have K := WideMaps.string_law hk
  have hkey := str_key hk hn
  have hkeys : ∀ e ∈ es.toList, ∃ l, keyOf P k e.key = some l := by
    intro x hx
    obtain ⟨p, hp, e1, _⟩ := hL.mem hx
    exact ⟨_, by rw [e1]; exact str_key hk (hsz p hp)⟩
  rcases K.find w hkey es.toList hkeys with ⟨h1, h2⟩ | ⟨j, e0, h1, h2, h3⟩
  · have : lookL L n = none := by
      unfold lookL
      rw [List.find?_eq_none.2]
      · rfl
      · intro p hp
        simp only [decide_eq_true_eq]
        intro e
        have : (Value.string p.1, p.2) ∈ L.map (fun p => (Value.string p.1, p.2)) := List.mem_map.2 ⟨p, hp, rfl⟩
        rw [← hL] at this
        obtain ⟨x, hx, e1⟩ := List.mem_map.1 this
        simp only [Prod.mk.injEq] at e1
        exact h2 x hx (by rw [e1.1, e])
    rw [this]
    simp [Instr.lookup, run_underlying ht, MapKept.run_getObj_map hb, K.check w _ hkey, h1, hz, Result.andThen]
  · obtain ⟨p, hp, e1, e2⟩ := hL.get h2
    have hpn : p.1 = n := by rw [h3] at e1; injection e1 with e1; exact e1.symm
    have : lookL L n = some e0.val := by
      unfold lookL
      have hf : L.find? (fun p => decide (p.1 = n)) = some p := by
        rw [List.find?_eq_some_iff_getElem]
        obtain ⟨hj, hpj⟩ := List.getElem?_eq_some_iff.1 hp
        refine ⟨by simpa using hpn, j, hj, hpj, fun i hi => ?_⟩
        simp only [Bool.not_eq_eq_eq_not, Bool.not_true, decide_eq_false_iff_not]
        intro e
        have := (List.pairwise_iff_getElem.1 hnd) i j (by simp; omega) (by simpa using hj) hi
        apply this
        simp only [List.getElem_map]
        rw [e, hpj, hpn]
      rw [hf, e2]; rfl
    rw [this]
    simp [Instr.lookup, run_underlying ht, MapKept.run_getObj_map hb, K.check w _ hkey, h1, Result.andThen]

theorem map_update {P : Program} {w : World} {t k e : TypeId} {b : Nat} {es : Array MapEntry} {clock : Nat} {L : List (ByteArray × Value)} (ht : P.underlying t = some (.map k e)) (hk : P.underlying k = some .string)
    (hb : w.heap[b]? = some (.map es clock)) (hL : MapIs es L) (hnd : (L.map (·.1)).Nodup) (hsz : ∀ p ∈ L, p.1.size ≤ maxLen) {n : ByteArray} (hn : n.size ≤ maxLen) (v : Value) :
    ∃ es' clock', (Instr.mapUpdate t (.map (some b)) (.string n) v).run P w = .ok () (ChangeMaps.setBlock w b (.map es' clock')) ∧ MapIs es' (putL L n v) ∧ (MapKept.Stamped es clock → MapKept.Stamped es' clock') := by
  have K := WideMaps.string_law hk
  have hkey := str_key hk hn
  have hkeys : ∀ e ∈ es.toList, ∃ l, keyOf P k e.key = some l := by
    intro x hx
    obtain ⟨p, hp, e1, _⟩ := hL.mem hx
    exact ⟨_, by rw [e1]; exact str_key hk (hsz p hp)⟩
  rcases K.find w hkey es.toList hkeys with ⟨h1, h2⟩ | ⟨j, e0, h1, h2, h3⟩
  · refine ⟨es.push ⟨.string n, v, clock⟩, clock + 1, ?_, ?_, fun h => MapKept.stamped_push h (fun x hx => h2 x hx)⟩
    · simp [Instr.mapUpdate, run_underlying ht, MapKept.run_getObj_map hb, K.check w false hkey, h1, MapKept.run_setObj_map _ hb, Result.andThen, ChangeMaps.setBlock]
    · have : (L.any fun p => decide (p.1 = n)) = false := by
        rw [List.any_eq_false]
        intro p hp
        simp only [decide_eq_true_eq]
        intro e
        have : (Value.string p.1, p.2) ∈ L.map (fun p => (Value.string p.1, p.2)) := List.mem_map.2 ⟨p, hp, rfl⟩
        rw [← hL] at this
        obtain ⟨x, hx, e1⟩ := List.mem_map.1 this
        simp only [Prod.mk.injEq] at e1
        exact h2 x hx (by rw [e1.1, e])
      unfold putL MapIs
      rw [if_neg (by rw [this]; simp), Array.toList_push, List.map_append, List.map_append, hL]
      rfl
  · have hj : es[j]? = some e0 := by simpa using h2
    obtain ⟨p, hp, e1, e2⟩ := hL.get h2
    have hpn : p.1 = n := by rw [h3] at e1; injection e1 with e1; exact e1.symm
    refine ⟨es.modify j (fun e' => { e' with key := .string n, val := v }), clock, ?_, ?_, fun h => MapKept.stamped_modify h _ _ (fun _ _ => rfl) (fun e' _ he' => by rw [hj] at he'; cases he'; exact h3.symm)⟩
    · simp [Instr.mapUpdate, run_underlying ht, MapKept.run_getObj_map hb, K.check w false hkey, h1, hj, h3, K.stays w hkey, MapKept.run_setObj_map _ hb, Result.andThen, ChangeMaps.setBlock]
    · have : (L.any fun p => decide (p.1 = n)) = true := by
        rw [List.any_eq_true]
        exact ⟨p, List.mem_of_getElem? hp, by simpa using hpn⟩
      unfold putL MapIs
      rw [if_pos this, Array.toList_modify]
      apply List.ext_getElem?
      intro i
      have hLi : (es.toList.map (fun x => (x.key, x.val)))[i]? = (L.map (fun p => (Value.string p.1, p.2)))[i]? := by rw [hL]
      rw [List.getElem?_map, List.getElem?_map] at hLi
      rw [List.getElem?_map, List.getElem?_map, List.getElem?_map, List.getElem?_modify]
      by_cases hij : j = i
      · subst hij
        rw [h2, hp]
        simp [hpn]
      · cases hx : es.toList[i]? with
        | none =>
          rw [hx] at hLi
          cases hq : L[i]? with
          | none => simp
          | some q => rw [hq] at hLi; simp at hLi
        | some x =>
          rw [hx] at hLi
          cases hq : L[i]? with
          | none => rw [hq] at hLi; simp at hLi
          | some q =>
            rw [hq] at hLi
            have hqn : q.1 ≠ n := by
              intro e
              obtain ⟨hi', hqi⟩ := List.getElem?_eq_some_iff.1 hq
              obtain ⟨hj', hpj⟩ := List.getElem?_eq_some_iff.1 hp
              have key : ∀ a b (ha : a < L.length) (hb : b < L.length), a < b → L[a].1 ≠ L[b].1 := fun a b ha hb hab => by
                have := (List.pairwise_iff_getElem.1 hnd) a b (by simpa using ha) (by simpa using hb) hab
                simpa using this
              rcases Nat.lt_or_gt_of_ne hij with h | h
              · exact key j i hj' hi' h (by rw [hpj, hqi, hpn, e])
              · exact key i j hi' hj' h (by rw [hpj, hqi, hpn, e])
            simp [hij, hqn] at hLi ⊢
            exact hLi
theorem setBlock_grown (w : World) (mb : Nat) (o : Obj) : w.grownBy (ChangeMaps.setBlock w mb o) (some mb) :=
  ⟨rfl, rfl, rfl, by simp [ChangeMaps.setBlock], fun k _ hk => by
    have : mb ≠ k := fun e => hk (by rw [e])
    simp [ChangeMaps.setBlock, Array.getElem?_setIfInBounds_ne this]⟩

theorem setBlock_at {w : World} {mb : Nat} {o o' : Obj} (h : w.heap[mb]? = some o) : (ChangeMaps.setBlock w mb o').heap[mb]? = some o' := by
  simp [ChangeMaps.setBlock, lt_of_block h]
end Go.Proofs.YtekbilieddficaaDoor
