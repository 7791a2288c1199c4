/- Files: a file is kept. -/
import Derived.Test.YtekbilieddficaaDoorFi5
namespace Go.Proofs.YtekbilieddficaaDoor
open Go.RowKit
set_option linter.unusedVariables false

def putF (F : List (ByteArray × Nat × RT)) (n : ByteArray) (b : Nat) (t : RT) : List (ByteArray × Nat × RT) := if (F.any fun p => decide (p.1 = n)) then F.map (fun p => if p.1 = n then (n, b, t) else p) else F ++ [(n, b, t)]

theorem putL_file (F : List (ByteArray × Nat × RT)) (n : ByteArray) (b : Nat) (t : RT) : putL (F.map ptrF) n (.pointer (some ⟨b, 0, none⟩)) = (putF F n b t).map ptrF := by
  unfold putL putF
  rw [List.any_map]
  have : ((fun p : ByteArray × Value => decide (p.1 = n)) ∘ ptrF) = fun p : ByteArray × Nat × RT => decide (p.1 = n) := rfl
  rw [this]
  split
  · rw [List.map_map, List.map_map]
    refine List.map_congr_left fun p _ => ?_
    simp only [Function.comp_apply]
    by_cases h : p.1 = n
    · rw [if_pos (show (ptrF p).1 = n from h), if_pos h]; rfl
    · rw [if_neg (show ¬ (ptrF p).1 = n from h), if_neg h]
  · rw [List.map_append]; rfl

theorem putF_new {F : List (ByteArray × Nat × RT)} {n : ByteArray} (b : Nat) (t : RT) (h : fileOf F n = none) : putF F n b t = F ++ [(n, b, t)] := by
  unfold putF
  rw [if_neg]
  unfold fileOf at h
  rw [Option.map_eq_none_iff] at h
  rw [Bool.not_eq_true, List.any_eq_false]
  intro p hp
  simpa using List.find?_eq_none.1 h p hp

theorem putF_keys {F : List (ByteArray × Nat × RT)} {n : ByteArray} {b : Nat} {t : RT} (h : (F.map (·.1)).Nodup) : ((putF F n b t).map (·.1)).Nodup := by
  unfold putF
  split
  · have : (F.map fun p => if p.1 = n then (n, b, t) else p).map (·.1) = F.map (·.1) := by
      rw [List.map_map]
      refine List.map_congr_left fun p _ => ?_
      simp only [Function.comp_apply]
      by_cases hp : p.1 = n
      · rw [if_pos hp]; exact hp.symm
      · rw [if_neg hp]
    rw [this]; exact h
  · rename_i hn
    rw [List.map_append, List.nodup_append]
    refine ⟨h, by simp, ?_⟩
    intro a ha c hc
    simp only [List.map_cons, List.map_nil, List.mem_singleton] at hc
    subst hc
    rintro rfl
    apply hn
    obtain ⟨p, hp, e⟩ := List.mem_map.1 ha
    rw [List.any_eq_true]
    exact ⟨p, hp, by simpa using e⟩

theorem putF_mem {F : List (ByteArray × Nat × RT)} {n : ByteArray} {b : Nat} {t : RT} {p : ByteArray × Nat × RT} (h : p ∈ putF F n b t) : p ∈ F ∨ p = (n, b, t) := by
  unfold putF at h
  split at h
  · obtain ⟨q, hq, e⟩ := List.mem_map.1 h
    by_cases hn : q.1 = n
    · rw [if_pos hn] at e; exact .inr e.symm
    · rw [if_neg hn] at e; subst e; exact .inl hq
  · rcases List.mem_append.1 h with h | h
    · exact .inl h
    · exact .inr (by simpa using h)

theorem row_mapkept {w w' : World} {fm : Nat} {ao : Option Addr} {D : List ByteArray} {es : Array MapEntry} {clock : Nat} (h : Row w 1 ao (strsB D)) (hfm : w.heap[fm]? = some (.map es clock)) (hk : ∀ (b : Nat), b ≠ fm → w'.heap[b]? = w.heap[b]?) : Row w' 1 ao (strsB D) := by
  intro hne
  obtain ⟨rb, o, e, hat⟩ := h hne
  refine ⟨rb, o, e, fun i cs hi j u hj => ?_⟩
  have hc := hat i cs hi j u hj
  have n2 : rb ≠ fm := by
    rintro rfl
    simp only [World.cell?, hfm] at hc
    cases hc
  rw [← hc]
  simp only [World.cell?, hk rb n2]

/-- a file more, or turned -/
theorem fat_put {w w' : World} {B g fm vm b : Nat} {t : RT} {dv : Value} {D : List ByteArray} {F : List (ByteArray × Nat × RT)} {V : List (ByteArray × Nat × Int)} {n : ByteArray} {es' : Array MapEntry} {clock' : Nat} (h : FAt w B g fm vm dv D F V) (hn : n.size ≤ 80) (hr : RAt w B t b) (hg : t.Good)
    (hM : MapIs es' (putL (F.map ptrF) n (.pointer (some ⟨b, 0, none⟩)))) (hS : MapKept.Stamped es' clock') (hw : w' = ChangeMaps.setBlock w fm (.map es' clock')) : FAt w' B g fm vm dv D (putF F n b t) V ∧ Below B w w' ∧ w'.heap.size = w.heap.size ∧ RopesKept w w' := by
  obtain ⟨es, clock, f1, f2, f3⟩ := h.files
  obtain ⟨ao, c, d1, d2, d3, d4⟩ := h.dirs
  obtain ⟨es2, clock2, v1, v2⟩ := h.vers
  have oth : ∀ k, k ≠ fm → w'.heap[k]? = w.heap[k]? := fun k hk => by
    rw [hw]
    unfold ChangeMaps.setBlock
    exact Array.getElem?_setIfInBounds_ne (Ne.symm hk)
  have m' : w'.heap[fm]? = some (.map es' clock') := by rw [hw]; exact setBlock_at f1
  have kc : ∀ {b : Nat} {c : Array Value} {e : TypeId} {fz : Nat × Nat}, w.heap[b]? = some (.cells c e fz) → w'.heap[b]? = some (.cells c e fz) := fun {b c e fz} e0 => by
    rw [oth b]
    · exact e0
    · rintro rfl
      rw [f1] at e0
      cases e0
  refine ⟨⟨kc h.tab, ⟨ao, c, d1, d2, row_mapkept d3 f1 oth, d4⟩, ⟨es', clock', m', by rw [← putL_file]; exact hM, hS⟩, putF_keys h.fnd, fun p hp => ?_, fun p hp => ?_, ⟨es2, clock2, by rw [oth vm (Ne.symm h.ne)]; exact v1, v2⟩, h.vnd, h.vsz, fun p hp => ⟨kc (h.cnts p hp).1, (h.cnts p hp).2⟩, h.vblk, h.ne, h.low⟩, ?_, ?_, fun b c _ fz _ e0 => kc e0⟩
  · rcases putF_mem hp with hp | rfl
    · exact h.fsz p hp
    · exact hn
  · rcases putF_mem hp with hp | rfl
    · exact ⟨(h.ropes p hp).1.typed fun b c fz e0 => kc e0, (h.ropes p hp).2⟩
    · exact ⟨hr.typed fun b c fz e0 => kc e0, hg⟩
  · have := h.low.2.1
    exact ⟨by rw [hw]; rfl, by rw [hw]; rfl, by rw [hw]; rfl, by rw [hw]; simp [ChangeMaps.setBlock], fun k hk => oth k (by omega)⟩
  · rw [hw]; simp [ChangeMaps.setBlock]

set_option maxRecDepth 100000 in
theorem puts_no {g : Nat} (w : World) (n : ByteArray) (p : Option Addr) (x : Int) (hx : x ≠ 0) : Calls Tryd.prog 30 #[.pointer (some ⟨g, 0, none⟩), .string n, .pointer p, .int .i64 x] w fun e w' => e = .returned (.int .i64 x) ∧ w' = w := by
  go_enter Tryd.func30, Tryd.ntmps30
  go_wp2
  go_ret
  exact ⟨rfl, rfl⟩

set_option maxRecDepth 100000 in
set_option maxHeartbeats 1000000 in
theorem puts_yes {B g fm vm b : Nat} {t : RT} {dv : Value} {D : List ByteArray} {F : List (ByteArray × Nat × RT)} {V : List (ByteArray × Nat × Int)} (w : World) (h : FAt w B g fm vm dv D F V) (hB : B ≤ w.heap.size) (n : ByteArray) (hn : n.size ≤ 80) (hr : RAt w B t b) (hg : t.Good) (hlt : countOf V n < 1000000) :
    Calls Tryd.prog 30 #[.pointer (some ⟨g, 0, none⟩), .string n, .pointer (some ⟨b, 0, none⟩), .int .i64 0] w fun e w' => e = .returned (.int .i64 0) ∧ FAt w' B g fm vm dv D (putF F n b t) (bumpV V n w.heap.size) ∧ Below B w w' ∧ RopesKept w w' := by
  have c1 := Lib.cell_of_heap h.tab 1
  obtain ⟨es, clock, f1, f2, f3⟩ := h.files
  have hkz : ∀ p ∈ F.map ptrF, p.1.size ≤ maxLen := by
    intro p hp
    obtain ⟨q, hq, rfl⟩ := List.mem_map.1 hp
    exact le80 (h.fsz q hq)
  obtain ⟨es', clock', hU, hM, hS⟩ := map_update (P := Tryd.prog) Tryd.underlying59 Tryd.underlying9 f1 f2 (by rw [keysF]; exact h.fnd) hkz (le80 hn) (.pointer (some ⟨b, 0, none⟩))
  obtain ⟨W3, hW3⟩ : ∃ W, W = ChangeMaps.setBlock w fm (.map es' clock') := ⟨_, rfl⟩
  rw [← hW3] at hU
  obtain ⟨hP, hb3, hs3, hrk⟩ := fat_put h hn hr hg hM (hS f3) hW3
  have HC := counts_any W3 hP (by omega) n hn hlt
  rw [hs3] at HC
  replace HC := Lib.hid HC
  replace hb3 := Lib.hid hb3
  replace hrk := Lib.hid hrk
  replace h := Lib.hid h
  replace f1 := Lib.hid f1
  replace hW3 := Lib.hid hW3
  clear hM hS f2 f3 hkz hP hr hs3
  go_enter Tryd.func30, Tryd.ntmps30
  go_wp2_with fail
  refine HC.out.mono ?_
  rintro e w' ⟨rfl, h1, h2, h3⟩
  replace h1 := Lib.hid h1
  replace h2 := Lib.hid h2
  replace h3 := Lib.hid h3
  go_wp2
  go_ret
  exact ⟨rfl, h1.out, hb3.out.trans h2.out, hrk.out.trans h3.out⟩
end Go.Proofs.YtekbilieddficaaDoor
