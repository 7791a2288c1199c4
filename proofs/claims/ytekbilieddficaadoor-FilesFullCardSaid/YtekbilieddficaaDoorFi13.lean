/- Files: Remove of a file that is there. -/
import Derived.Test.YtekbilieddficaaDoorFi12
namespace Go.Proofs.YtekbilieddficaaDoor
open Go.RowKit
set_option linter.unusedVariables false

theorem map_erase {α β : Type} (f : α → β) : ∀ (L : List α) (j : Nat), (L.eraseIdx j).map f = (L.map f).eraseIdx j
  | [], j => by simp
  | a :: L, 0 => rfl
  | a :: L, j + 1 => by
    show f a :: (L.eraseIdx j).map f = f a :: (L.map f).eraseIdx j
    rw [map_erase f L j]

theorem erase_filter {α β : Type} [DecidableEq β] (f : α → β) : ∀ {L : List α}, (L.map f).Nodup → ∀ {j : Nat} {p : α}, L[j]? = some p → L.eraseIdx j = L.filter fun q => decide (f q ≠ f p)
  | [], _, j, p, h => by simp at h
  | a :: L, hnd, 0, p, h => by
    obtain rfl : a = p := by simpa using h
    rw [List.map_cons, List.nodup_cons] at hnd
    rw [List.eraseIdx_cons_zero, List.filter_cons, if_neg (by simp)]
    refine (List.filter_eq_self.2 fun q hq => ?_).symm
    refine decide_eq_true fun e => hnd.1 (List.mem_map.2 ⟨q, hq, e⟩)
  | a :: L, hnd, j + 1, p, h => by
    have h' : L[j]? = some p := by simpa using h
    rw [List.map_cons, List.nodup_cons] at hnd
    rw [List.eraseIdx_cons_succ, List.filter_cons, if_pos, erase_filter f hnd.2 h']
    refine decide_eq_true fun e => hnd.1 (List.mem_map.2 ⟨p, List.mem_of_getElem? h', e.symm⟩)

/-- what is gone -/
def dropL (L : List (ByteArray × Value)) (n : ByteArray) : List (ByteArray × Value) := L.filter fun q => decide (q.1 ≠ n)

theorem map_delete {P : Program} {w : World} {t k e : TypeId} {b : Nat} {es : Array MapEntry} {clock : Nat} {L : List (ByteArray × Value)} (ht : P.underlying t = some (.map k e)) (hk : P.underlying k = some .string)
    (hb : w.heap[b]? = some (.map es clock)) (hL : MapIs es L) (hnd : (L.map (·.1)).Nodup) (hsz : ∀ p ∈ L, p.1.size ≤ maxLen) {n : ByteArray} (hn : n.size ≤ maxLen) :
    ∃ es', (∀ ty, (Builtin.delete_ #[t, k] ty #[.map (some b), .string n]).run P w = .ok (.tuple #[]) (ChangeMaps.setBlock w b (.map es' clock))) ∧ MapIs es' (dropL L n) ∧ (MapKept.Stamped es clock → MapKept.Stamped es' clock) := by
  have K := WideMaps.string_law hk
  have hkey := str_key hk hn
  have hkeys : ∀ e ∈ es.toList, ∃ l, keyOf P k e.key = some l := by
    intro x hx
    obtain ⟨p, hp, e1, _⟩ := hL.mem hx
    exact ⟨_, by rw [e1]; exact str_key hk (hsz p hp)⟩
  rcases K.find w hkey es.toList hkeys with ⟨h1, h2⟩ | ⟨j, e0, h1, h2, h3⟩
  · refine ⟨es, fun ty => ?_, ?_, fun h => h⟩
    · simp [Builtin.delete_, run_underlying ht, MapKept.run_getObj_map hb, K.check w _ hkey, h1, MapKept.run_setObj_map _ hb, Result.andThen, ChangeMaps.setBlock]
    · have : dropL L n = L := List.filter_eq_self.2 fun p hp => by
        refine decide_eq_true fun e => ?_
        have : (Value.string p.1, p.2) ∈ L.map (fun p => (Value.string p.1, p.2)) := List.mem_map.2 ⟨p, hp, rfl⟩
        rw [← hL] at this
        obtain ⟨x, hx, e1⟩ := List.mem_map.1 this
        simp only [Prod.mk.injEq] at e1
        exact h2 x hx (by rw [e1.1, e])
      rw [this]
      exact hL
  · have hjl : j < es.toList.length := (List.getElem?_eq_some_iff.1 h2).1
    have hjs : j < es.size := by simpa using hjl
    have hsub : (es.eraseIdxIfInBounds j).toList = es.toList.eraseIdx j := by
      unfold Array.eraseIdxIfInBounds
      rw [dif_pos hjs]
      simp
    obtain ⟨p, hp, e1, e2⟩ := hL.get h2
    have hpn : p.1 = n := by rw [h3] at e1; injection e1 with e1; exact e1.symm
    refine ⟨es.eraseIdxIfInBounds j, fun ty => ?_, ?_, fun h => MapKept.stamped_erase h j⟩
    · simp [Builtin.delete_, run_underlying ht, MapKept.run_getObj_map hb, K.check w _ hkey, h1, MapKept.run_setObj_map _ hb, Result.andThen, ChangeMaps.setBlock]
    · unfold MapIs dropL
      rw [hsub, ← hpn, ← erase_filter (fun q : ByteArray × Value => q.1) hnd hp, map_erase, map_erase, hL]

def dropF (F : List (ByteArray × Nat × RT)) (n : ByteArray) : List (ByteArray × Nat × RT) := F.filter fun q => decide (q.1 ≠ n)
theorem dropL_file (F : List (ByteArray × Nat × RT)) (n : ByteArray) : dropL (F.map ptrF) n = (dropF F n).map ptrF := by
  unfold dropL dropF
  rw [List.filter_map]
  rfl

/-- a file less -/
theorem fat_drop {w w' : World} {B g fm vm : Nat} {dv : Value} {D : List ByteArray} {F : List (ByteArray × Nat × RT)} {V : List (ByteArray × Nat × Int)} {n : ByteArray} {es' : Array MapEntry} {clock' : Nat} (h : FAt w B g fm vm dv D F V)
    (hM : MapIs es' (dropL (F.map ptrF) n)) (hS : MapKept.Stamped es' clock') (hw : w' = ChangeMaps.setBlock w fm (.map es' clock')) : FAt w' B g fm vm dv D (dropF F n) V ∧ Below B w w' ∧ w'.heap.size = w.heap.size ∧ RopesKept w w' := by
  obtain ⟨es, clock, f1, f2, f3⟩ := h.files
  obtain ⟨ao, c, d1, d2, d3, d4⟩ := h.dirs
  obtain ⟨es2, clock2, v1, v2⟩ := h.vers
  have oth : ∀ k, k ≠ fm → w'.heap[k]? = w.heap[k]? := fun k hk => by
    rw [hw]
    unfold ChangeMaps.setBlock
    exact Array.getElem?_setIfInBounds_ne (Ne.symm hk)
  have m' : w'.heap[fm]? = some (.map es' clock') := by rw [hw]; exact setBlock_at f1
  have kc : ∀ {b : Nat} {c : Array Value} {e : TypeId} {fz : Nat × Nat}, w.heap[b]? = some (.cells c e fz) → w'.heap[b]? = some (.cells c e fz) := fun {b c e fz} e0 => by
    rw [oth b]
    · exact e0
    · rintro rfl
      rw [f1] at e0
      cases e0
  have sub : ∀ p ∈ dropF F n, p ∈ F := fun p hp => (List.mem_filter.1 hp).1
  refine ⟨⟨kc h.tab, ⟨ao, c, d1, d2, row_mapkept d3 f1 oth, d4⟩, ⟨es', clock', m', by rw [← dropL_file]; exact hM, hS⟩, ?_, fun p hp => h.fsz p (sub p hp), fun p hp => ⟨(h.ropes p (sub p hp)).1.typed fun b c fz e0 => kc e0, (h.ropes p (sub p hp)).2⟩, ⟨es2, clock2, by rw [oth vm (Ne.symm h.ne)]; exact v1, v2⟩, h.vnd, h.vsz, fun p hp => ⟨kc (h.cnts p hp).1, (h.cnts p hp).2⟩, h.vblk, h.ne, h.low⟩, ?_, ?_, fun b c fz e0 => kc e0⟩
  · exact h.fnd.sublist (List.filter_sublist.map _)
  · have := h.low.2.1
    exact ⟨by rw [hw]; rfl, by rw [hw]; rfl, by rw [hw]; rfl, by rw [hw]; simp [ChangeMaps.setBlock], fun k hk => oth k (by omega)⟩
  · rw [hw]; simp [ChangeMaps.setBlock]

set_option maxRecDepth 100000 in
set_option maxHeartbeats 1000000 in
theorem remove_yes {B g fm vm : Nat} {dv : Value} {D : List ByteArray} {F : List (ByteArray × Nat × RT)} {V : List (ByteArray × Nat × Int)} {q : Nat × RT} (w : World) (h : FAt w B g fm vm dv D F V) (hB : B ≤ w.heap.size) (n : ByteArray) (hn : n.size ≤ 80) (hf : fileOf F n = some q) (hlt : countOf V n < 1000000) :
    Calls Tryd.prog 23 #[.pointer (some ⟨g, 0, none⟩), .string n] w fun e w' => e = .returned (.int .i64 0) ∧ FAt w' B g fm vm dv D (dropF F n) (bumpV V n w.heap.size) ∧ Below B w w' ∧ RopesKept w w' := by
  have HG := get_any w h n (le80 hn)
  rw [hf] at HG
  simp only [Option.map_some, Option.getD_some, Option.isSome_some] at HG
  replace HG := Lib.hid HG
  have c1 := Lib.cell_of_heap h.tab 1
  obtain ⟨es, clock, f1, f2, f3⟩ := h.files
  have hkz : ∀ p ∈ F.map ptrF, p.1.size ≤ maxLen := by
    intro p hp
    obtain ⟨q, hq, rfl⟩ := List.mem_map.1 hp
    exact le80 (h.fsz q hq)
  obtain ⟨es', hU, hM, hS⟩ := map_delete (P := Tryd.prog) Tryd.underlying59 Tryd.underlying9 f1 f2 (by rw [keysF]; exact h.fnd) hkz (le80 hn)
  obtain ⟨W3, hW3⟩ : ∃ W, W = ChangeMaps.setBlock w fm (.map es' clock) := ⟨_, rfl⟩
  rw [← hW3] at hU
  obtain ⟨hP, hb3, hs3, hrk⟩ := fat_drop h hM (hS f3) hW3
  have HC := counts_any W3 hP (by omega) n hn hlt
  rw [hs3] at HC
  replace HC := Lib.hid HC
  replace hb3 := Lib.hid hb3
  replace hrk := Lib.hid hrk
  replace h := Lib.hid h
  replace f1 := Lib.hid f1
  replace hW3 := Lib.hid hW3
  clear hM hS f2 f3 hkz hP hs3
  go_enter Tryd.func23, Tryd.ntmps23
  go_wp2_with fail
  refine HG.out.mono ?_
  rintro e w' ⟨rfl, hw'⟩
  replace hw' := hw'.symm
  subst hw'
  go_wp2_with fail
  refine HC.out.mono ?_
  rintro e w' ⟨rfl, h1, h2, h3⟩
  replace h1 := Lib.hid h1
  replace h2 := Lib.hid h2
  replace h3 := Lib.hid h3
  go_wp2
  go_ret
  exact ⟨rfl, h1.out, hb3.out.trans h2.out, hrk.out.trans h3.out⟩
end Go.Proofs.YtekbilieddficaaDoor
