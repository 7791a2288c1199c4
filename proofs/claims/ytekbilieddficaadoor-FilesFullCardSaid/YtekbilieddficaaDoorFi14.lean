/- Files: the names, sorted. -/
import Derived.Test.YtekbilieddficaaDoorFi13
import Derived.Test.YtekbilieddficaaDoorIter
namespace Go.Proofs.YtekbilieddficaaDoor
open Go.RowKit Go.Maps Go.Sort Go.Shelf
set_option linter.unusedVariables false

def readU (_ : Value) : Option (DataW Unit × List MemPlace) := some (.nil, [])

def bytesOf (L : List (ByteArray × Value)) : List (List UInt8) := L.map fun p => p.1.data.toList

theorem mapIs_owns {P : Program} {w : World} {k : TypeId} {mb : Nat} {es : Array MapEntry} {clock : Nat} {L : List (ByteArray × Value)} (hk : P.underlying k = some .string) (hb : w.heap[mb]? = some (.map es clock)) (hM : MapIs es L) (hS : MapKept.Stamped es clock)
    (hsz : ∀ p ∈ L, p.1.size ≤ maxLen) (hl : L.length ≤ maxLen) : ∃ D0 : DataW Unit, w.ownsMap P k readU mb L.length D0 ∧ (strKeys D0).Perm (bytesOf L) ∧ Maps.size D0 = L.length := by
  have hlen : es.toList.length = L.length := by
    have := congrArg List.length hM
    simpa using this
  have hkey : ∀ x ∈ es.toList, ∃ p ∈ L, x.key = .string p.1 := fun x hx => by
    obtain ⟨p, hp, e1, _⟩ := hM.mem hx
    exact ⟨p, hp, e1⟩
  have hrg : es.toList.map (WideElems.rg P k readU) = L.map fun p => (Lit.string p.1.data.toList, (DataW.nil : DataW Unit)) := by
    have h1 : es.toList.map (WideElems.rg P k readU) = (es.toList.map fun x => (x.key, x.val)).map fun q => ((keyOf P k q.1).map fun key => (key, (DataW.nil : DataW Unit))).getD (.bool false, .nil) := by
      rw [List.map_map]
      refine List.map_congr_left fun x _ => ?_
      simp only [WideElems.rg, WideElems.rd, readU, Function.comp]
      cases keyOf P k x.key <;> rfl
    rw [h1, hM, List.map_map]
    refine List.map_congr_left fun p hp => ?_
    simp only [Function.comp, str_key hk (hsz p hp)]
    rfl
  refine ⟨_, ⟨es, clock, hb, ⟨by simp only [← Array.length_toList]; omega, hS, fun x hx => ?_⟩, by simp only [← Array.length_toList]; omega, rfl⟩, ?_, ?_⟩
  · obtain ⟨p, hp, e⟩ := hkey x hx
    refine ⟨(.string p.1.data.toList, .nil), ?_⟩
    simp [WideElems.rd, readU, e, str_key hk (hsz p hp)]
  · show (((es.toList.map (WideElems.rg P k readU)).foldr DataW.insert []).map fun p => strOf p.1).Perm _
    refine ((WideShapes.sorted_perm _).map _).trans ?_
    rw [hrg, List.map_map]
    exact List.Perm.of_eq rfl
  · show ((es.toList.map (WideElems.rg P k readU)).foldr DataW.insert []).length = _
    rw [(WideShapes.sorted_perm _).length_eq, List.length_map, hlen]

theorem sorts_wide (m : Nat) : AnyZ.SortsIn Tryd.prog Tryd.sortedL_ren Fence.wide m :=
  ⟨fun blk off cap ss W hH hblk hsz => callsIn_wide.2 (AnyM.slices_Sort_string Tryd.sortL blk off cap ss W hH hblk hsz),
   fun p cap W => callsIn_wide.2 (AnyM.slices_Sort_string_none Tryd.sortL p cap W)⟩

theorem keys_any (mb : Option Nat) (W : World) : Calls Tryd.prog 46 #[.map mb] W fun e w' => e = .returned (.func (.func 70) #[] #[.pointer (some ⟨W.heap.size, 0, none⟩)]) ∧ w' = W.alloc (.cells #[.map mb] 59) :=
  (callsIn_wide (n := 5)).1 (AnyZ.keys_in Tryd.keysL Fence.wide 5 trivial rfl mb W)

def sortedB (l : List (List UInt8)) : List (List UInt8) := l.mergeSort fun x y => decide (x ≤ y)

set_option maxHeartbeats 1000000 in
theorem sorted_any {mb : Nat} {es : Array MapEntry} {clock : Nat} {L : List (ByteArray × Value)} (w : World) (hb : w.heap[mb]? = some (.map es clock)) (hM : MapIs es L) (hS : MapKept.Stamped es clock) (hsz : ∀ p ∈ L, p.1.size ≤ maxLen) (hl : L.length ≤ 1000000) :
    Calls Tryd.prog 45 #[.func (.func 70) #[] #[.pointer (some ⟨w.heap.size, 0, none⟩)]] (w.alloc (.cells #[.map (some mb)] 59)) fun e w' =>
      ∃ v, e = .returned v ∧ Own w' w.heap.size 9 1 v ((sortedB (bytesOf L)).map fun s => [.string ⟨s.toArray⟩]) ∧ Below w.heap.size w w' := by
  obtain ⟨D0, hown, hperm, hD⟩ := mapIs_owns (P := Tryd.prog) (w := w) Tryd.underlying9 hb hM hS hsz (by unfold maxLen; omega)
  have hbl := hown.lt
  have hseq : SeqGives Fence.wide 2 Tryd.prog 70 #[.pointer (some ⟨w.heap.size, 0, none⟩)] encStr (fun ss => ss.Perm (strKeys D0)) (Maps.size D0) (w.alloc (.cells #[.map (some mb)] 59)) :=
    AnyZ.keys_gives (ρ := Tryd.keysL_ren) { Tryd.keysL with } Fence.wide _ trivial rfl (by omega) w.heap.size mb _ D0 _ (by simp) (by simp) (by
      obtain ⟨es, clock, hb, Ft, hs, hD⟩ := hown
      exact ⟨es, clock, (Below.heap_alloc _ _ mb hbl).trans hb, Ft, hs, hD⟩)
  have HS := AnyZ.sorted_in Tryd.sortedL Fence.wide 5 trivial trivial trivial trivial rfl (by omega) (sorts_wide _) (enters_of Tryd.func69 (by kernel_rfl) rfl) 70 #[.pointer (some ⟨w.heap.size, 0, none⟩)] trivial (enters_of Tryd.func70 (by kernel_rfl) rfl) _ _ (by rw [hD]; unfold maxLen; omega) (by rw [hD]; omega) _ hseq
  refine ((callsIn_wide (n := 5)).1 HS).mono ?_
  rintro e w' ⟨v, ss, rfl, hp, hrow, _, hbw⟩
  refine ⟨v, rfl, ?_, ((Below.refl _ w).alloc (Nat.le_refl _) _).trans (hbw.mono (by simp))⟩
  have he : ss.mergeSort (fun x y => decide (x ≤ y)) = sortedB (bytesOf L) := mergeSort_of_perm (hp.trans hperm)
  rw [he] at hrow
  have hl2 : ss.length = (sortedB (bytesOf L)).length := by rw [← he, List.length_mergeSort]
  have hfl : ∀ l : List (List UInt8), (l.map fun s => [Value.string ⟨s.toArray⟩]).flatten = l.map encStr := by
    intro l
    induction l with
    | nil => rfl
    | cons a l ih => simp only [List.map_cons, List.flatten_cons, ih]; rfl
  rw [hl2, ← hfl] at hrow
  refine Own.mono (B := (w.alloc (.cells #[.map (some mb)] 59)).heap.size) ⟨?_, by simp⟩ (by simp)
  rw [List.length_map]
  exact hrow

set_option maxRecDepth 100000 in
theorem names_any {B g fm vm : Nat} {dv : Value} {D : List ByteArray} {F : List (ByteArray × Nat × RT)} {V : List (ByteArray × Nat × Int)} (w : World) (h : FAt w B g fm vm dv D F V) (hl : F.length ≤ 1000000) :
    Calls Tryd.prog 22 #[.pointer (some ⟨g, 0, none⟩)] w fun e w' => ∃ v, e = .returned v ∧ Own w' w.heap.size 9 1 v ((sortedB (bytesOf (F.map ptrF))).map fun s => [.string ⟨s.toArray⟩]) ∧ Below w.heap.size w w' := by
  have c1 := Lib.cell_of_heap h.tab 1
  obtain ⟨es, clock, f1, f2, f3⟩ := h.files
  have HK := Lib.hid (keys_any (some fm) w)
  have HS := Lib.hid (sorted_any w f1 f2 f3 (fun p hp => by
    obtain ⟨q, hq, rfl⟩ := List.mem_map.1 hp
    exact le80 (h.fsz q hq)) (by rw [List.length_map]; exact hl))
  clear f1 f2 f3 h hl
  go_enter Tryd.func22, Tryd.ntmps22
  go_wp2_with fail
  refine HK.out.mono ?_
  rintro e w' ⟨rfl, hw'⟩
  subst hw'
  go_wp2_with fail
  refine HS.out.mono ?_
  rintro e w' ⟨v, rfl, ho, hb⟩
  replace ho := Lib.hid ho
  replace hb := Lib.hid hb
  go_wp2
  go_ret
  exact ⟨_, rfl, ho.out, hb.out⟩
end Go.Proofs.YtekbilieddficaaDoor
