/- Texts of this seat's proofs, laid into one file. -/
import Derived.Test.YtllbbacnakoomaaGreatDoorS18
import Derived.Test.YtllbbacnakoomaaGreatDoorS9
import Derived.Test.YtllbbacnakoomaaGreatDoorS19
import Derived.Test.YtllbbacnakoomaaGreatDoorS20
import Derived.Deep.CutBlock
set_option maxRecDepth 100000
set_option maxHeartbeats 16000000
namespace Go.Proofs.YtllbbacnakoomaaGreatDoor
open Go.RowKit
set_option linter.unusedVariables false
abbrev tmR (t : Tm) : List Value := [.int .i64 t.kind, .string t.text, .bool t.sp, .string t.file, .int .i64 t.f, .int .i64 t.t, .bool t.made, .slice none 0 0]
abbrev tmO (t : Tm) : Obj := .cells #[.int .i64 t.kind, .string t.text, .bool t.sp, .string t.file, .int .i64 t.f, .int .i64 t.t, .bool t.made, .slice none 0 0] 160 (0,0)
abbrev rtC (t : Ct) : List Value := [.int .i64 t.kind, .string t.text, .string t.file, .int .i64 t.f, .int .i64 t.t, .int .i64 t.fro, .int .i64 t.cnt]
abbrev rtO (t : Ct) : Obj := .cells #[.int .i64 t.kind, .string t.text, .string t.file, .int .i64 t.f, .int .i64 t.t, .int .i64 t.fro, .int .i64 t.cnt] 94 (0,0)
theorem Er94 : EI Tryz.prog 37 94 (.agg #[.int .i64 0, .string ⟨#[]⟩, .string ⟨#[]⟩, .int .i64 0, .int .i64 0, .int .i64 0, .int .i64 0]) 7 72 := ⟨Tryz.underlying37, by kernel_rfl, rfl, by decide⟩
theorem tm_cells {w : World} {b o k : Nat} {T : List Tm} {t : Tm} (hat : RowAt w 8 b o (T.map tmR)) (hk : T[k]? = some t) :
 w.cell? ⟨b, o + k * 8, none⟩ = some (.int .i64 t.kind) ∧ w.cell? ⟨b, o + k * 8 + 1, none⟩ = some (.string t.text) ∧ w.cell? ⟨b, o + k * 8 + 2, none⟩ = some (.bool t.sp) ∧ w.cell? ⟨b, o + k * 8 + 3, none⟩ = some (.string t.file) ∧ w.cell? ⟨b, o + k * 8 + 4, none⟩ = some (.int .i64 t.f) ∧ w.cell? ⟨b, o + k * 8 + 5, none⟩ = some (.int .i64 t.t) ∧ w.cell? ⟨b, o + k * 8 + 6, none⟩ = some (.bool t.made) ∧ w.cell? ⟨b, o + k * 8 + 7, none⟩ = some (.slice none 0 0) := by
 have := fun j u hj => hat k (tmR t) (by rw [List.getElem?_map, hk]; rfl) j u hj
 exact ⟨this 0 _ rfl, this 1 _ rfl, this 2 _ rfl, this 3 _ rfl, this 4 _ rfl, this 5 _ rfl, this 6 _ rfl, this 7 _ rfl⟩
theorem tm_box {w : World} {g : Nat} {t : Tm} (h : w.heap[g]? = some (tmO t)) : w.cell? ⟨g, 0, none⟩ = some (.int .i64 t.kind) ∧ w.cell? ⟨g, 1, none⟩ = some (.string t.text) ∧ w.cell? ⟨g, 3, none⟩ = some (.string t.file) ∧ w.cell? ⟨g, 4, none⟩ = some (.int .i64 t.f) ∧ w.cell? ⟨g, 5, none⟩ = some (.int .i64 t.t) := by
 refine ⟨?_, ?_, ?_, ?_, ?_⟩ <;> rw [Lib.cell_of_heap h] <;> rfl
theorem rt_box {w : World} {g : Nat} {t : Ct} (h : w.heap[g]? = some (rtO t)) : w.cell? ⟨g, 0, none⟩ = some (.int .i64 t.kind) ∧ w.cell? ⟨g, 1, none⟩ = some (.string t.text) ∧ w.cell? ⟨g, 2, none⟩ = some (.string t.file) ∧ w.cell? ⟨g, 3, none⟩ = some (.int .i64 t.f) ∧ w.cell? ⟨g, 4, none⟩ = some (.int .i64 t.t) ∧ w.cell? ⟨g, 5, none⟩ = some (.int .i64 t.fro) ∧ w.cell? ⟨g, 6, none⟩ = some (.int .i64 t.cnt) ∧ ∀ j, w.frozen? ⟨g, j, none⟩ = false := by
 refine ⟨?_, ?_, ?_, ?_, ?_, ?_, ?_, fun j => Lib.frozen_of_heap h j⟩ <;> rw [Lib.cell_of_heap h] <;> rfl
theorem rt_kind {w : World} {g : Nat} {t : Ct} (h : w.heap[g]? = some (rtO t)) (k : Int) : (w.setCell ⟨g, 0, none⟩ (.int .i64 k)).heap[g]? = some (rtO { t with kind := k }) := heap_setCell_same _ _ _ _ _ _ h
theorem rt_text {w : World} {g : Nat} {t : Ct} (h : w.heap[g]? = some (rtO t)) (x : ByteArray) : (w.setCell ⟨g, 1, none⟩ (.string x)).heap[g]? = some (rtO { t with text := x }) := heap_setCell_same _ _ _ _ _ _ h
theorem rt_cnt {w : World} {g : Nat} {t : Ct} (h : w.heap[g]? = some (rtO t)) (k : Int) : (w.setCell ⟨g, 6, none⟩ (.int .i64 k)).heap[g]? = some (rtO { t with cnt := k }) := heap_setCell_same _ _ _ _ _ _ h
def AllPost (T : List Tm) (w : World) (e : Ending) (w' : World) : Prop := ∃ vo vd, e = .returned (.tuple #[vo, vd]) ∧ Own w' w.heap.size 94 7 vo ((allL T).map rtC) ∧ Below w.heap.size w w'
structure Pq (g : Nat) (x : Tm) (Y : World) (tk : Ct) : Prop where
 tm : Y.heap[g]? = some (tmO x)
 rt : Y.heap[g + 1]? = some (rtO tk)
theorem Pq.below {g : Nat} {Y Z : World} {x : Tm} {tk : Ct} (P : Pq g x Y tk) (hb : Below Y.heap.size Y Z) : Pq g x Z tk := ⟨(hb.block _ (lt_of_block P.tm)).trans P.tm, (hb.block _ (lt_of_block P.rt)).trans P.rt⟩
theorem Pq.grown {g : Nat} {Y Z : World} {x : Tm} {tk : Ct} {v : Value} {B : Nat} {ds : List (List Value)} (P : Pq g x Y tk) (ho : Own Y B 78 4 v ds) (hg : Y.grownBy Z v.ownBlock) : Pq g x Z tk := by
 have h1 := own_ne ho P.tm (by decide)
 have h2 := own_ne ho P.rt (by decide)
 refine ⟨(hg.block _ (lt_of_block P.tm) ?_).trans P.tm, (hg.block _ (lt_of_block P.rt) ?_).trans P.rt⟩
 ·rcases h1 with h | h
  ·rw [h]; simp
  ·exact fun e => h e.symm
 ·rcases h2 with h | h
  ·rw [h]; simp
  ·exact fun e => h e.symm
theorem Pq.kind {g : Nat} {Y : World} {x : Tm} {tk : Ct} (P : Pq g x Y tk) (k : Int) : Pq g x (Y.setCell ⟨g + 1,0, none⟩ (.int .i64 k)) { tk with kind := k } := ⟨(Below.heap_setCell _ _ _ _ (by simp)).trans P.tm, rt_kind P.rt k⟩
theorem Pq.text {g : Nat} {Y : World} {x : Tm} {tk : Ct} (P : Pq g x Y tk) (k : ByteArray) : Pq g x (Y.setCell ⟨g + 1,1, none⟩ (.string k)) { tk with text := k } := ⟨(Below.heap_setCell _ _ _ _ (by simp)).trans P.tm, rt_text P.rt k⟩
theorem Pq.cnt {g : Nat} {Y : World} {x : Tm} {tk : Ct} (P : Pq g x Y tk) (k : Int) : Pq g x (Y.setCell ⟨g + 1,6, none⟩ (.int .i64 k)) { tk with cnt := k } := ⟨(Below.heap_setCell _ _ _ _ (by simp)).trans P.tm, rt_cnt P.rt k⟩
theorem Pq.cells {g : Nat} {Y : World} {x : Tm} {tk : Ct} (P : Pq g x Y tk) : (Y.cell? ⟨g, 0, none⟩ = some (.int .i64 x.kind) ∧ Y.cell? ⟨g, 1, none⟩ = some (.string x.text) ∧ Y.cell? ⟨g, 3, none⟩ = some (.string x.file) ∧ Y.cell? ⟨g, 4, none⟩ = some (.int .i64 x.f) ∧ Y.cell? ⟨g, 5, none⟩ = some (.int .i64 x.t)) ∧ Y.cell? ⟨g + 1,0, none⟩ = some (.int .i64 tk.kind) ∧ Y.cell? ⟨g + 1,1, none⟩ = some (.string tk.text) ∧ Y.cell? ⟨g + 1,2, none⟩ = some (.string tk.file) ∧ Y.cell? ⟨g + 1,3, none⟩ = some (.int .i64 tk.f) ∧ Y.cell? ⟨g + 1,4, none⟩ = some (.int .i64 tk.t) ∧ Y.cell? ⟨g + 1,5, none⟩ = some (.int .i64 tk.fro) ∧ Y.cell? ⟨g + 1,6, none⟩ = some (.int .i64 tk.cnt) ∧ ∀ j, Y.frozen? ⟨g + 1, j, none⟩ = false := ⟨tm_box P.tm, rt_box P.rt⟩
theorem Own.setTok {w : World} {B e sz g j : Nat} {v : Value} {css : List (List Value)} {tk : Ct} (h : Own w B e sz v css) (hg : w.heap[g]? = some (rtO tk)) (hne : v.ownBlock ≠ some g) (u : Value) : Own (w.setCell ⟨g, j, none⟩ u) B e sz v css :=
 h.kept (set_grown w g j u) (.inr hne)
structure Pk (wr : World) (x : Tm) (Y : World) (tk : Ct) : Prop where
 tm : Y.heap[wr.heap.size]? = some (tmO x)
 rt : Y.heap[wr.heap.size + 1]? = some (rtO tk)
 bel : Below wr.heap.size wr Y
theorem Pk.below {wr Y Z : World} {x : Tm} {tk : Ct} (P : Pk wr x Y tk) (hb : Below Y.heap.size Y Z) : Pk wr x Z tk :=
 ⟨(hb.block _ (lt_of_block P.tm)).trans P.tm, (hb.block _ (lt_of_block P.rt)).trans P.rt, P.bel.trans (hb.mono P.bel.size)⟩
theorem Pk.kind {wr Y : World} {x : Tm} {tk : Ct} (P : Pk wr x Y tk) (k : Int) : Pk wr x (Y.setCell ⟨wr.heap.size + 1,0, none⟩ (.int .i64 k)) { tk with kind := k } :=
 ⟨(Below.heap_setCell _ _ _ _ (by simp)).trans P.tm, rt_kind P.rt k, P.bel.setCell (p := ⟨wr.heap.size + 1,0, none⟩) (Nat.le_succ _) _⟩
theorem Pk.text {wr Y : World} {x : Tm} {tk : Ct} (P : Pk wr x Y tk) (k : ByteArray) : Pk wr x (Y.setCell ⟨wr.heap.size + 1,1, none⟩ (.string k)) { tk with text := k } :=
 ⟨(Below.heap_setCell _ _ _ _ (by simp)).trans P.tm, rt_text P.rt k, P.bel.setCell (p := ⟨wr.heap.size + 1,1, none⟩) (Nat.le_succ _) _⟩
theorem Pk.cnt {wr Y : World} {x : Tm} {tk : Ct} (P : Pk wr x Y tk) (k : Int) : Pk wr x (Y.setCell ⟨wr.heap.size + 1,6, none⟩ (.int .i64 k)) { tk with cnt := k } :=
 ⟨(Below.heap_setCell _ _ _ _ (by simp)).trans P.tm, rt_cnt P.rt k, P.bel.setCell (p := ⟨wr.heap.size + 1,6, none⟩) (Nat.le_succ _) _⟩
theorem Pk.cells {wr Y : World} {x : Tm} {tk : Ct} (P : Pk wr x Y tk) : (Y.cell? ⟨wr.heap.size, 0, none⟩ = some (.int .i64 x.kind) ∧ Y.cell? ⟨wr.heap.size, 1, none⟩ = some (.string x.text) ∧ Y.cell? ⟨wr.heap.size, 3, none⟩ = some (.string x.file) ∧ Y.cell? ⟨wr.heap.size, 4, none⟩ = some (.int .i64 x.f) ∧ Y.cell? ⟨wr.heap.size, 5, none⟩ = some (.int .i64 x.t)) ∧ Y.cell? ⟨wr.heap.size + 1,0, none⟩ = some (.int .i64 tk.kind) ∧ Y.cell? ⟨wr.heap.size + 1,1, none⟩ = some (.string tk.text) ∧ Y.cell? ⟨wr.heap.size + 1,2, none⟩ = some (.string tk.file) ∧ Y.cell? ⟨wr.heap.size + 1,3, none⟩ = some (.int .i64 tk.f) ∧ Y.cell? ⟨wr.heap.size + 1,4, none⟩ = some (.int .i64 tk.t) ∧ Y.cell? ⟨wr.heap.size + 1,5, none⟩ = some (.int .i64 tk.fro) ∧ Y.cell? ⟨wr.heap.size + 1,6, none⟩ = some (.int .i64 tk.cnt) ∧ ∀ j, Y.frozen? ⟨wr.heap.size + 1, j, none⟩ = false := ⟨tm_box P.tm, rt_box P.rt⟩
theorem quoteL_le (s : List UInt8) : (quoteL s).length ≤ 2 * s.length + 2 := by
 unfold quoteL
 rw [List.length_cons, List.length_append, List.length_singleton, escL_len]
 have := escN_le s
 omega
theorem ba_app (a b : List UInt8) : (⟨a.toArray⟩ : ByteArray) ++ ⟨b.toArray⟩ = ⟨(a ++ b).toArray⟩ := by
 apply ByteArray.ext
 rw [ByteArray.data_append]
 simp
structure SwR (w : World) (G : Nat) (x : Tm) (T : List Tm) (R L : List Ct) (i n dl : Nat) (v4 v5 : Value) (Y : World) (tk : Ct) : Prop where
 out : Own Y w.heap.size 94 7 v4 (L.map rtC)
 diag : ∃ es, es.length ≤ dl ∧ Own Y w.heap.size 78 4 v5 es
 bel : Below w.heap.size w Y
 pq : Pq G x Y tk
 ne : v4.ownBlock ≠ some (G + 1)
 lo : w.heap.size ≤ G
def SwK (T : List Tm) (R L : List Ct) (i n : Nat) (tk : Ct) (j : Nat) : Prop := i ≤ j ∧ j < n ∧ ((tk.kind = 0 ∧ L ++ allF T (j + 1) = R) ∨ (tk.kind ≠ 0 ∧ (L ++ [tk]) ++ allF T (j + 1) = R))
section
variable {w : World} {G : Nat} {x : Tm} {T : List Tm} {R L : List Ct} {i n dl : Nat} {v4 v5 : Value} {Y Z : World} {tk tk2 : Ct}
theorem SwR.below (h : SwR w G x T R L i n dl v4 v5 Y tk) (hb : Below Y.heap.size Y Z) : SwR w G x T R L i n dl v4 v5 Z tk :=
 ⟨h.out.below hb, h.diag.imp fun es e => ⟨e.1, e.2.below hb⟩, h.bel.trans (hb.mono h.bel.size), h.pq.below hb, h.ne, h.lo⟩
theorem SwR.more {d2 : Nat} (h : SwR w G x T R L i n dl v4 v5 Y tk) (hd : dl ≤ d2) : SwR w G x T R L i n d2 v4 v5 Y tk :=
 ⟨h.out, h.diag.imp fun es e => ⟨Nat.le_trans e.1 hd, e.2⟩, h.bel, h.pq, h.ne, h.lo⟩
theorem SwR.set (h : SwR w G x T R L i n dl v4 v5 Y tk) (j : Nat) (u : Value) (hq : Pq G x (Y.setCell ⟨G + 1, j, none⟩ u) tk2) : SwR w G x T R L i n dl v4 v5 (Y.setCell ⟨G + 1, j, none⟩ u) tk2 := by
 obtain ⟨es, e1, e2⟩ := h.diag
 refine ⟨h.out.setTok h.pq.rt h.ne u, ⟨es, e1, ?_⟩, h.bel.setCell (p := ⟨G + 1, j, none⟩) (by have := h.lo; show _ ≤ G + 1; omega) _, hq, h.ne, h.lo⟩
 refine e2.kept (set_grown Y (G + 1) j u) ?_
 rcases own_ne e2 h.pq.rt (by decide) with e | e
 ·exact .inl e
 ·exact .inr e
theorem SwR.kind (h : SwR w G x T R L i n dl v4 v5 Y tk) (k : Int) : SwR w G x T R L i n dl v4 v5 (Y.setCell ⟨G + 1,0, none⟩ (.int .i64 k)) { tk with kind := k } := h.set 0 _ (h.pq.kind k)
theorem SwR.text (h : SwR w G x T R L i n dl v4 v5 Y tk) (k : ByteArray) : SwR w G x T R L i n dl v4 v5 (Y.setCell ⟨G + 1,1, none⟩ (.string k)) { tk with text := k } := h.set 1 _ (h.pq.text k)
theorem SwR.cnt (h : SwR w G x T R L i n dl v4 v5 Y tk) (k : Int) : SwR w G x T R L i n dl v4 v5 (Y.setCell ⟨G + 1,6, none⟩ (.int .i64 k)) { tk with cnt := k } := h.set 6 _ (h.pq.cnt k)
end
theorem rAll_any (T : List Tm) (ao : Option Addr) (cap n : Nat) (hTn : T.length = n) (hn : n ≤ 10000) (htx : ∀ t ∈ T, t.text.size ≤ 5000) (w : World) (hrow : Row w 8 ao (T.map tmR)) :
 Calls Tryz.prog 56 #[.slice ao n cap] w (AllPost T w) := by
 obtain ⟨R, hR⟩ : ∃ R, R = allF T 0 := ⟨_, rfl⟩
 have hAll : Hid (allL T = R ++ [⟨8, ⟨#[]⟩, ⟨#[]⟩, 0,0, T.length, 0⟩]) := Hd (by rw [hR]; exact allL_F T)
 have hR0 : Hid ([] ++ allF T 0 = R) := Hd hR.symm
 clear hR
 replace hTn := Hd hTn
 replace htx := Hd htx
 replace hrow := Hd hrow
 have hb0 : Hid (Below w.heap.size w w) := Hd (Below.refl _ _)
 go_enter Tryz.func56, Tryz.ntmps56
 go_wp2_with fail
 go_loopg [4,5,6,7,8,9,10,11,12,13,14,15,16,17,18,19,20,21,22,23,41,42,44,51,65,75,87] (n + 1) (fun k v4 v5 v6 v7 v8 v9 v10 v11 v12 v13 v14 v15 v16 v17 v18 v19 v20 v21 v22 v23 v41 v42 v44 v51 v65 v75 v87 wx => ∃ (i : Nat) (L : List Ct) (ds : List (List Value)), k = n + 1 - i ∧ i ≤ n ∧ v6 = .int .i64 i ∧ Hid (Own wx w.heap.size 94 7 v4 (L.map rtC)) ∧ Hid (Own wx w.heap.size 78 4 v5 ds) ∧ Hid (L.length ≤ i ∧ ds.length ≤ 2 * i) ∧ Hid (L ++ allF T i = R) ∧ Hid (Below w.heap.size w wx))
 case atStart => exact ⟨0, [], [], rfl, Nat.zero_le _, rfl, Hd (Own.nil _ _ _ _), Hd (Own.nil _ _ _ _), Hd ⟨Nat.le_refl _, Nat.le_refl _⟩, hR0, hb0⟩
 case round =>
  clear hR0 hb0
  obtain ⟨i, L, ds, hk, hi, rfl, ho, hd, hln, hR, hb⟩ := hrel
  replace hk := hk.symm
  subst hk
  have hsB := hb.out.size
  by_cases hin : i < n
  ·have hin' : (i : Int) < n := by omega
   have g1 : IntKind.i64.wrap ((i : Int) + 1) = (i : Int) + 1 := IntWalk.i64_in _ (by omega)
   have f4 : Hid (n + 1 - (i + 1) < n + 1 - i) := Hd (by omega)
   obtain ⟨x, hx⟩ : ∃ x, T[i]? = some x := ⟨_, List.getElem?_eq_getElem (by rw [hTn.out]; exact hin)⟩
   have hst := hR.out
   rw [allF_step hx] at hst
   have hxs : x.text.size ≤ 5000 := htx.out x (List.mem_of_getElem? hx)
   have hne : Hid (T.map tmR ≠ []) := Hd (by intro h; have := congrArg List.length h; simp at this; have h2 := hTn.out; rw [this] at h2; simp at h2; omega)
   obtain ⟨b, o, rfl, hat⟩ := (hrow.out.below hb.out) hne.out
   obtain ⟨c0, c1, c2, c3, c4, c5, c6, c7⟩ := tm_cells hat hx
   replace hat := Hd hat
   obtain ⟨W, hW⟩ : ∃ W, W = (wr.alloc (tmO x)).alloc (rtO ⟨0, x.text, x.file, x.f, x.t, i, 1⟩) := ⟨_, rfl⟩
   have hbW : Below wr.heap.size wr W := by rw [hW]; exact ((Below.refl _ _).alloc (Nat.le_refl _) _).alloc (by simp) _
   have hX : W.heap[wr.heap.size]? = some (tmO x) := by rw [hW]; exact (heap_alloc_old _ _ (by simp)).trans (heap_alloc_new _ _)
   have hT : W.heap[wr.heap.size + 1]? = some (rtO ⟨0, x.text, x.file, x.f, x.t, i, 1⟩) := by rw [hW]; exact heap_alloc2_new _ _ _
   have P : Hid (Pk wr x W ⟨0, x.text, x.file, x.f, x.t, i, 1⟩) := Hd ⟨hX, hT, hbW⟩
   clear hX hT hbW hR
   replace hx := Hd hx
   go_upto_region 8 with fail
   rw [← hW]
   replace hW := Hd hW
   clear c0 c1 c2 c3 c4 c5 c6 c7
   try clear x0 x1 x3 x4 x5
   try clear r0 r1 r2 r3 r4 r5 r6 rf
   obtain ⟨⟨x0, x1, x3, x4, x5⟩, r0, r1, r2, r3, r4, r5, r6, rf⟩ := P.out.cells
   by_cases k7 : x.kind = 7
   ·have e7 : (x.kind == 7) = true := by rw [k7]; rfl
    rw [if_pos k7] at hst
    replace hst := Hd hst
    replace k7 := Hd k7
    have hbY := hb.out.trans (P.out.bel.mono hsB)
    have hoY := Hd (ho.out.below P.out.bel)
    have hdY := Hd (hd.out.below P.out.bel)
    replace hbY := Hd hbY
    go_wp2_with fail
    go_roundg (n + 1 - (i + 1))
    case measure => exact f4.out
    case rel => exact ⟨i + 1, L, ds, rfl, by omega, by simp, hoY, hdY, Hd (by have h1 := hln.out; omega), hst, hbY⟩
   have e7 : (x.kind == 7) = false := beq_false_of_ne k7
   rw [if_neg k7] at hst
   replace k7 := Hd k7
   obtain ⟨G, hG⟩ : ∃ G, G = wr.heap.size := ⟨_, rfl⟩
   have Q := Hd (show Pq wr.heap.size x W _ from ⟨P.out.tm, P.out.rt⟩)
   have hoW := ho.out.below P.out.bel
   have hdW := hd.out.below P.out.bel
   have hbWW := hb.out.trans (P.out.bel.mono hsB)
   have hneW : u4.ownBlock ≠ some (wr.heap.size + 1) := by
    intro e
    obtain ⟨c, fz, hc⟩ := ho.out.size_lt _ e
    have := lt_of_block hc
    omega
   have hneD : u5.ownBlock ≠ some (wr.heap.size + 1) := by
    intro e
    obtain ⟨c, fz, hc⟩ := hd.out.size_lt _ e
    have := lt_of_block hc
    omega
   have hGB : w.heap.size ≤ wr.heap.size := hsB
   rw [← hG] at Q hneW hneD hGB x0 x1 x3 x4 x5 r0 r1 r2 r3 r4 r5 r6 rf ⊢
   have HS1 := Hd (show SwR w G x T R L i n ds.length u4 u5 W ⟨0, x.text, x.file, x.f, x.t, i, 1⟩ from ⟨hoW, ⟨ds, Nat.le_refl _, hdW⟩, hbWW, Q.out, hneW, hGB⟩)
   have HS := Hd (HS1.out.more (Nat.le_succ _))
   clear P Q hoW hdW hbWW hneW hneD hGB ho hd hb hat hW hsB hG x0 x1 x3 x4 x5 r0 r1 r2 r3 r4 r5 r6 rf
   try clear x0 x1 x3 x4 x5
   try clear r0 r1 r2 r3 r4 r5 r6 rf
   obtain ⟨⟨x0, x1, x3, x4, x5⟩, r0, r1, r2, r3, r4, r5, r6, rf⟩ := HS.out.pq.cells
   go_upto_block 2 with fail
   go_cut [5,6,9,10,11,12,13,14,15,16,17,18,19,20,21,22,23] from 42 to 181 (fun v5 v6 v9 v10 v11 v12 v13 v14 v15 v16 v17 v18 v19 v20 v21 v22 v23 wx => ∃ (tk : Ct) (j : Nat), v6 = .int .i64 j ∧ Hid (SwR w G x T R L i n (ds.length + 1) u4 v5 wx tk) ∧ Hid (SwK T R L i n tk j))
   case first =>
    by_cases k1 : x.kind = 1
    ·have e1 : (x.kind == 1) = true := by rw [k1]; rfl
     rw [if_neg (show ¬ x.kind = 4 by omega)] at hst
     have k5 : ¬ x.kind = 5 := by omega
     have HK := Hd (fun y => rIsKeyword_any x.text y)
     cases hkey : isKey x.text with
     | true =>
       rw [hkey] at HK
       have hkT : kindT x = 2 := (by unfold kindT; rw [if_pos k1, hkey]; rfl)
       rw [hkT, if_neg (show ¬ (2 : Int) = 0 by decide), if_neg k5] at hst
       have hK : Hid (SwK T R L i n ⟨2, x.text, x.file, x.f, x.t, i, 1⟩ i) := Hd ⟨Nat.le_refl _, hin, .inr ⟨(show ¬ (2 : Int) = 0 by decide), by rw [← hst]; simp [oneT]⟩⟩
       clear hst hkT
       clear hkey k1 k5
       go_wp2_with fail
       refine (HK.out _).mono ?_
       rintro e w2 ⟨rfl, hb2⟩
       replace HS := Hd ((HS.out.kind 1).below hb2)
       clear HK hb2
       try clear x0 x1 x3 x4 x5
       try clear r0 r1 r2 r3 r4 r5 r6 rf
       obtain ⟨⟨x0, x1, x3, x4, x5⟩, r0, r1, r2, r3, r4, r5, r6, rf⟩ := HS.out.pq.cells
       go_wp2_with fail
       go_meet
       exact ⟨_, i, rfl, Hd (HS.out.kind 2), hK⟩
     | false =>
       rw [hkey] at HK
       have hkT : kindT x = 1 := (by unfold kindT; rw [if_pos k1, hkey]; rfl)
       rw [hkT, if_neg (show ¬ (1 : Int) = 0 by decide), if_neg k5] at hst
       have hK : Hid (SwK T R L i n ⟨1, x.text, x.file, x.f, x.t, i, 1⟩ i) := Hd ⟨Nat.le_refl _, hin, .inr ⟨(show ¬ (1 : Int) = 0 by decide), by rw [← hst]; simp [oneT]⟩⟩
       clear hst hkT
       clear hkey k1 k5
       go_wp2_with fail
       refine (HK.out _).mono ?_
       rintro e w2 ⟨rfl, hb2⟩
       replace HS := Hd ((HS.out.kind 1).below hb2)
       clear HK hb2
       try clear x0 x1 x3 x4 x5
       try clear r0 r1 r2 r3 r4 r5 r6 rf
       obtain ⟨⟨x0, x1, x3, x4, x5⟩, r0, r1, r2, r3, r4, r5, r6, rf⟩ := HS.out.pq.cells
       go_wp2_with fail
       go_meet
       exact ⟨_, i, rfl, HS, hK⟩
    have e1 : (x.kind == 1) = false := beq_false_of_ne k1
    by_cases k2 : x.kind = 2
    ·have e2 : (x.kind == 2) = true := by rw [k2]; rfl
     rw [if_neg (show ¬ x.kind = 4 by omega)] at hst
     have k5 : ¬ x.kind = 5 := by omega
     have HN := Hd (fun y => rNumber_any x.text (by omega) y)
     have HFl := Hd (fun y => rFloat_any x.text (by omega) y)
     cases hnum : numberB x.text.data.toList with
     | true =>
       rw [hnum] at HN
       have hkT : kindT x = 3 := (by unfold kindT; rw [if_neg k1, if_pos k2, hnum]; rfl)
       rw [hkT, if_neg (show ¬ (3 : Int) = 0 by decide), if_neg k5] at hst
       have hK : Hid (SwK T R L i n ⟨3, x.text, x.file, x.f, x.t, i, 1⟩ i) := Hd ⟨Nat.le_refl _, hin, .inr ⟨(show ¬ (3 : Int) = 0 by decide), by rw [← hst]; simp [oneT]⟩⟩
       clear hst hkT
       clear hnum HFl k1 k2 k5
       go_wp2_with fail
       refine (HN.out _).mono ?_
       rintro e w2 ⟨⟨u, v, rfl⟩, hb2⟩
       replace HS := Hd (HS.out.below hb2)
       clear HN hb2
       try clear x0 x1 x3 x4 x5
       try clear r0 r1 r2 r3 r4 r5 r6 rf
       obtain ⟨⟨x0, x1, x3, x4, x5⟩, r0, r1, r2, r3, r4, r5, r6, rf⟩ := HS.out.pq.cells
       go_upto_region 16 with fail
       replace HS := Hd (HS.out.below ((Below.refl _ w2).alloc (Nat.le_refl _) (.cells #[.int .u64 u, .bool v] 163)))
       try clear x0 x1 x3 x4 x5
       try clear r0 r1 r2 r3 r4 r5 r6 rf
       obtain ⟨⟨x0, x1, x3, x4, x5⟩, r0, r1, r2, r3, r4, r5, r6, rf⟩ := HS.out.pq.cells
       go_wp2_with fail
       go_meet
       exact ⟨_, i, rfl, Hd (HS.out.kind 3), hK⟩
     | false =>
       rw [hnum] at HN
       cases hfl : floatB x.text.data.toList with
       | true =>
         rw [hfl] at HFl
         have hkT : kindT x = 4 := (by unfold kindT; rw [if_neg k1, if_pos k2, hnum, hfl]; rfl)
         rw [hkT, if_neg (show ¬ (4 : Int) = 0 by decide), if_neg k5] at hst
         have hK : Hid (SwK T R L i n ⟨4, x.text, x.file, x.f, x.t, i, 1⟩ i) := Hd ⟨Nat.le_refl _, hin, .inr ⟨(show ¬ (4 : Int) = 0 by decide), by rw [← hst]; simp [oneT]⟩⟩
         clear hst hkT
         clear hnum hfl k1 k2 k5
         go_wp2_with fail
         refine (HN.out _).mono ?_
         rintro e w2 ⟨⟨u, v, rfl⟩, hb2⟩
         replace HS := Hd (HS.out.below hb2)
         clear HN hb2
         try clear x0 x1 x3 x4 x5
         try clear r0 r1 r2 r3 r4 r5 r6 rf
         obtain ⟨⟨x0, x1, x3, x4, x5⟩, r0, r1, r2, r3, r4, r5, r6, rf⟩ := HS.out.pq.cells
         go_upto_region 16 with fail
         replace HS := Hd (HS.out.below ((Below.refl _ w2).alloc (Nat.le_refl _) (.cells #[.int .u64 u, .bool v] 163)))
         try clear x0 x1 x3 x4 x5
         try clear r0 r1 r2 r3 r4 r5 r6 rf
         obtain ⟨⟨x0, x1, x3, x4, x5⟩, r0, r1, r2, r3, r4, r5, r6, rf⟩ := HS.out.pq.cells
         go_wp2_with fail
         refine (HFl.out _).mono ?_
         rintro e w3 ⟨rfl, rfl⟩
         clear HFl
         go_wp2_with fail
         go_meet
         exact ⟨_, i, rfl, Hd (HS.out.kind 4), hK⟩
       | false =>
         rw [hfl] at HFl
         have hkT : kindT x = 0 := (by unfold kindT; rw [if_neg k1, if_pos k2, hnum, hfl]; rfl)
         rw [hkT, if_pos rfl] at hst
         have hK : Hid (SwK T R L i n ⟨0, x.text, x.file, x.f, x.t, i, 1⟩ i) := Hd ⟨Nat.le_refl _, hin, .inl ⟨rfl, hst⟩⟩
         clear hst hkT
         clear hnum hfl k1 k2 k5
         go_wp2_with fail
         refine (HN.out _).mono ?_
         rintro e w2 ⟨⟨u, v, rfl⟩, hb2⟩
         replace HS := Hd (HS.out.below hb2)
         clear HN hb2
         try clear x0 x1 x3 x4 x5
         try clear r0 r1 r2 r3 r4 r5 r6 rf
         obtain ⟨⟨x0, x1, x3, x4, x5⟩, r0, r1, r2, r3, r4, r5, r6, rf⟩ := HS.out.pq.cells
         go_upto_region 16 with fail
         replace HS := Hd (HS.out.below ((Below.refl _ w2).alloc (Nat.le_refl _) (.cells #[.int .u64 u, .bool v] 163)))
         try clear x0 x1 x3 x4 x5
         try clear r0 r1 r2 r3 r4 r5 r6 rf
         obtain ⟨⟨x0, x1, x3, x4, x5⟩, r0, r1, r2, r3, r4, r5, r6, rf⟩ := HS.out.pq.cells
         go_wp2_with fail
         refine (HFl.out _).mono ?_
         rintro e w3 ⟨rfl, rfl⟩
         clear HFl
         go_wp2_with fail
         go_meet
         exact ⟨_, i, rfl, HS, hK⟩
    have e2 : (x.kind == 2) = false := beq_false_of_ne k2
    by_cases k3 : x.kind = 3
    ·have e3 : (x.kind == 3) = true := by rw [k3]; rfl
     rw [if_neg (show ¬ x.kind = 4 by omega)] at hst
     have k5 : ¬ x.kind = 5 := by omega
     have HN := Hd (fun y => rChar_any x.text (by omega) y)
     cases hch : charB x.text.data.toList with
     | true =>
       rw [hch] at HN
       have hkT : kindT x = 5 := (by unfold kindT; rw [if_neg k1, if_neg k2, if_pos k3, hch]; rfl)
       rw [hkT, if_neg (show ¬ (5 : Int) = 0 by decide), if_neg k5] at hst
       have hK : Hid (SwK T R L i n ⟨5, x.text, x.file, x.f, x.t, i, 1⟩ i) := Hd ⟨Nat.le_refl _, hin, .inr ⟨(show ¬ (5 : Int) = 0 by decide), by rw [← hst]; simp [oneT]⟩⟩
       clear hst hkT
       clear hch k1 k2 k3 k5
       go_wp2_with fail
       refine (HN.out _).mono ?_
       rintro e w2 ⟨⟨u, v, rfl⟩, hb2⟩
       replace HS := Hd (HS.out.below hb2)
       clear HN hb2
       try clear x0 x1 x3 x4 x5
       try clear r0 r1 r2 r3 r4 r5 r6 rf
       obtain ⟨⟨x0, x1, x3, x4, x5⟩, r0, r1, r2, r3, r4, r5, r6, rf⟩ := HS.out.pq.cells
       go_upto_region 22 with fail
       replace HS := Hd (HS.out.below ((Below.refl _ w2).alloc (Nat.le_refl _) (.cells #[.int .u64 u, .bool v] 163)))
       try clear x0 x1 x3 x4 x5
       try clear r0 r1 r2 r3 r4 r5 r6 rf
       obtain ⟨⟨x0, x1, x3, x4, x5⟩, r0, r1, r2, r3, r4, r5, r6, rf⟩ := HS.out.pq.cells
       go_wp2_with fail
       go_meet
       exact ⟨_, i, rfl, Hd (HS.out.kind 5), hK⟩
     | false =>
       rw [hch] at HN
       have hkT : kindT x = 0 := (by unfold kindT; rw [if_neg k1, if_neg k2, if_pos k3, hch]; rfl)
       rw [hkT, if_pos rfl] at hst
       have hK : Hid (SwK T R L i n ⟨0, x.text, x.file, x.f, x.t, i, 1⟩ i) := Hd ⟨Nat.le_refl _, hin, .inl ⟨rfl, hst⟩⟩
       clear hst hkT
       clear hch k1 k2 k3 k5
       go_wp2_with fail
       refine (HN.out _).mono ?_
       rintro e w2 ⟨⟨u, v, rfl⟩, hb2⟩
       replace HS := Hd (HS.out.below hb2)
       clear HN hb2
       try clear x0 x1 x3 x4 x5
       try clear r0 r1 r2 r3 r4 r5 r6 rf
       obtain ⟨⟨x0, x1, x3, x4, x5⟩, r0, r1, r2, r3, r4, r5, r6, rf⟩ := HS.out.pq.cells
       go_upto_region 22 with fail
       replace HS := Hd (HS.out.below ((Below.refl _ w2).alloc (Nat.le_refl _) (.cells #[.int .u64 u, .bool v] 163)))
       try clear x0 x1 x3 x4 x5
       try clear r0 r1 r2 r3 r4 r5 r6 rf
       obtain ⟨⟨x0, x1, x3, x4, x5⟩, r0, r1, r2, r3, r4, r5, r6, rf⟩ := HS.out.pq.cells
       go_wp2_with fail
       go_meet
       exact ⟨_, i, rfl, HS, hK⟩
    have e3 : (x.kind == 3) = false := beq_false_of_ne k3
    by_cases k5 : x.kind = 5
    ·have e5 : (x.kind == 5) = true := by rw [k5]; rfl
     rw [if_neg (show ¬ x.kind = 4 by omega)] at hst
     have HU := Hd (rusual_any x.text W)
     obtain ⟨ut, ub, hub⟩ : ∃ ut ub, usualP x.text = (ut, ub) := ⟨_, _, rfl⟩
     rw [hub] at HU
     unfold usuV at HU
     cases ub with
     | true =>
       have hkT : kindT x = 7 := (by unfold kindT; rw [if_neg k1, if_neg k2, if_neg k3, if_pos k5, hub]; rfl)
       rw [hkT, if_neg (show ¬ (7 : Int) = 0 by decide), if_pos k5, hub] at hst
       have hK : Hid (SwK T R L i n ⟨7, ut, x.file, x.f, x.t, i, 1⟩ i) := Hd ⟨Nat.le_refl _, hin, .inr ⟨(show ¬ (7 : Int) = 0 by decide), by rw [← hst]; simp [oneT]⟩⟩
       clear hst hkT
       clear hub k1 k2 k3 k5
       go_wp2_with fail
       refine HU.out.mono ?_
       rintro e w2 ⟨rfl, rfl⟩
       clear HU
       go_wp2_with fail
       go_meet
       exact ⟨_, i, rfl, Hd ((HS.out.text ut).kind 7), hK⟩
     | false =>
       have hkT : kindT x = 0 := (by unfold kindT; rw [if_neg k1, if_neg k2, if_neg k3, if_pos k5, hub]; rfl)
       rw [hkT, if_pos rfl] at hst
       have hK : Hid (SwK T R L i n ⟨0, ut, x.file, x.f, x.t, i, 1⟩ i) := Hd ⟨Nat.le_refl _, hin, .inl ⟨rfl, hst⟩⟩
       clear hst hkT
       clear hub k1 k2 k3 k5
       go_wp2_with fail
       refine HU.out.mono ?_
       rintro e w2 ⟨rfl, rfl⟩
       clear HU
       go_wp2_with fail
       go_meet
       exact ⟨_, i, rfl, Hd (HS.out.text ut), hK⟩
    have e5 : (x.kind == 5) = false := beq_false_of_ne k5
    by_cases k4 : x.kind = 4
    ·have e4 : (x.kind == 4) = true := by rw [k4]; rfl
     rw [if_pos k4] at hst
     clear k1 k2 k3 k5 k4
     have HB := Hd (fun y => rBytes_any x.text (by omega) y)
     cases hbv : bytesV x.text.data.toList with
     | none =>
       rw [hbv] at HB hst
       simp only at hst
       replace HB : Hid (∀ y, Calls Tryz.prog 96 #[.string x.text] y fun e w' => e = .returned (.tuple #[.string ⟨#[]⟩, .bool false]) ∧ Below y.heap.size y w') := HB
       have hK : Hid (SwK T R L i n ⟨0, x.text, x.file, x.f, x.t, i, 1⟩ i) := Hd ⟨Nat.le_refl _, hin, .inl ⟨rfl, hst⟩⟩
       clear hst hbv
       go_wp2_with fail
       refine (HB.out _).mono ?_
       rintro e w2 ⟨rfl, hb2⟩
       replace HS := Hd (HS.out.below hb2)
       clear HB hb2
       go_wp2_with fail
       go_meet
       exact ⟨_, i, rfl, HS, hK⟩
     | some bb =>
       as_aux_lemma =>
       rw [hbv] at HB hst
       simp only at hst
       replace HB : Hid (∀ y, Calls Tryz.prog 96 #[.string x.text] y fun e w' => e = .returned (.tuple #[.string ⟨bb.toArray⟩, .bool true]) ∧ Below y.heap.size y w') := HB
       have hbl := bytesV_len hbv
       rw [sz_list] at hbl
       have HPr := Hd (fun y => rprefix_any x.text (by omega) y)
       obtain ⟨C, hC⟩ : ∃ C, C = catL (T.drop (i + 1)) (i + 1) ⟨preQ x.text.data.toList, bb, 1, i⟩ := ⟨_, rfl⟩
       rw [← hC] at hst
       replace hst := Hd hst
       have hC0 := Hd hC.symm
       have hpl0 := preQ_len x.text.data.toList
       rw [sz_list] at hpl0
       obtain ⟨PL, hPL⟩ : ∃ PL, PL = preQ x.text.data.toList := ⟨_, rfl⟩
       rw [← hPL] at HPr hC0 hpl0
       clear hbv hC hPL HS
       go_wp2_with fail
       refine (HB.out _).mono ?_
       rintro e w2 ⟨rfl, hb2⟩
       replace HS1 := Hd (HS1.out.below hb2)
       clear HB hb2
       have HS := HS1
       try clear x0 x1 x3 x4 x5
       try clear r0 r1 r2 r3 r4 r5 r6 rf
       obtain ⟨⟨x0, x1, x3, x4, x5⟩, r0, r1, r2, r3, r4, r5, r6, rf⟩ := HS.out.pq.cells
       go_wp2_with fail
       refine (HPr.out _).mono ?_
       rintro e w3 ⟨rfl, rfl⟩
       clear HPr x0 x1 x3 x4 x5 r0 r1 r2 r3 r4 r5 r6 rf HS1
       go_upto_block 3 with fail
       go_cut [5,15,17,18,19,20,21,22,23] from 103 to 174 (fun v5 v15 v17 v18 v19 v20 v21 v22 v23 wx => v15 = .string ⟨C.s.toArray⟩ ∧ v17 = .string ⟨C.let_.toArray⟩ ∧ v19 = .int .i64 C.last ∧ Hid (C.last < n ∧ i ≤ C.last ∧ C.s.length ≤ 100000000 ∧ C.let_.length ≤ 5000) ∧ Hid (SwR w G x T R L i n (ds.length + 1) u4 v5 wx ⟨0, x.text, x.file, x.f, x.t, i, C.n⟩))
       case first =>
        have hlst := hst
        clear hst hlst
        go_wp2_with fail
        go_loopg [5,15,17,18,19,20,21,22,23] (n - i) (fun q v5 v15 v17 v18 v19 v20 v21 v22 v23 wx => ∃ (k : Nat) (c : CatS) (bd : Bool), q = n + 1 - k ∧ k ≤ n ∧ v15 = .string ⟨c.s.toArray⟩ ∧ v17 = .string ⟨c.let_.toArray⟩ ∧ v18 = .bool bd ∧ v19 = .int .i64 c.last ∧ v20 = .int .i64 k ∧ Hid (catL (T.drop k) k c = C) ∧ Hid (c.last < k ∧ i < k ∧ i ≤ c.last ∧ c.let_.length ≤ 5000 ∧ c.s.length ≤ 5000 * (k - i) ∧ c.n ≤ k - i) ∧ Hid (SwR w G x T R L i n (ds.length + (if bd = true then 1 else 0)) u4 v5 wx ⟨0, x.text, x.file, x.f, x.t, i, c.n⟩))
        case atStart => exact ⟨i + 1, ⟨PL, bb, 1, i⟩, false, by omega, by omega, rfl, rfl, rfl, rfl, by simp, hC0, Hd ⟨Nat.lt_succ_self _, Nat.lt_succ_self _, Nat.le_refl _, by simp only; omega, by simp only; omega, by simp only; omega⟩, HS⟩
        case round =>
         clear hC0 hpl0 hbl HS
         obtain ⟨k, c, bd, hq, hk, rfl, rfl, rfl, rfl, rfl, hC, hcb, HS⟩ := hrel
         replace hq := hq.symm
         subst hq
         by_cases hkn : k < n
         ·have hkn' : (k : Int) < n := by omega
          have g3 : IntKind.i64.wrap ((k : Int) + 1) = (k : Int) + 1 := IntWalk.i64_in _ (by omega)
          have g4 : IntKind.i64.wrap ((c.n : Int) + 1) = (c.n : Int) + 1 := IntWalk.i64_in _ (by have := hcb.out; omega)
          have f6 : Hid (n + 1 - (k + 1) < n + 1 - k) := Hd (by omega)
          have hkT : k < T.length := by rw [hTn.out]; exact hkn
          obtain ⟨y, hy, hyd⟩ : ∃ y, T[k]? = some y ∧ T.drop k = y :: T.drop (k + 1) := ⟨T[k], List.getElem?_eq_getElem hkT, List.drop_eq_getElem_cons hkT⟩
          have hst := hC.out
          rw [hyd, catL_step] at hst
          have hys : y.text.size ≤ 5000 := htx.out y (List.mem_of_getElem? hy)
          replace hy := Hd hy
          clear hkT hyd hC
          try clear y0 y1 y2 y3 y4 y5 y6 y7
          obtain ⟨b', o', e', hat⟩ := (hrow.out.below HS.out.bel) hne.out
          simp only [Option.some.injEq, Addr.mk.injEq, and_true] at e'
          obtain ⟨rfl, rfl⟩ := e'
          obtain ⟨y0, y1, y2, y3, y4, y5, y6, y7⟩ := tm_cells hat hy.out
          clear hat
          try clear x0 x1 x3 x4 x5
          try clear r0 r1 r2 r3 r4 r5 r6 rf
          obtain ⟨⟨x0, x1, x3, x4, x5⟩, r0, r1, r2, r3, r4, r5, r6, rf⟩ := HS.out.pq.cells
          by_cases y7e : y.kind = 7
          ·have z7 : (y.kind == 7) = true := by rw [y7e]; rfl
           rw [if_pos y7e] at hst
           replace hst := Hd hst
           replace y7e := Hd y7e
           go_wp2_with fail
           go_roundg (n + 1 - (k + 1))
           case measure => exact f6.out
           case rel => exact ⟨k + 1, c, bd, rfl, by omega, rfl, rfl, rfl, rfl, by simp, hst, Hd (by have := hcb.out; omega), HS⟩
          have z7 : (y.kind == 7) = false := beq_false_of_ne y7e
          rw [if_neg y7e] at hst
          replace y7e := Hd y7e
          have HB := Hd (fun z => rBytes_any y.text (by omega) z)
          have HPr := Hd (fun z => rprefix_any y.text (by omega) z)
          cases hbv : bytesV y.text.data.toList with
          | none =>
            rw [hbv] at HB hst
            simp only at hst
            subst hst
            replace HB : Hid (∀ z, Calls Tryz.prog 96 #[.string y.text] z fun e w' => e = .returned (.tuple #[.string ⟨#[]⟩, .bool false]) ∧ Below z.heap.size z w') := HB
            clear hbv
            go_wp2_with fail
            refine (HB.out _).mono ?_
            rintro e w4 ⟨rfl, hb4⟩
            replace HS := Hd (HS.out.below hb4)
            clear HB hb4
            try clear y0 y1 y2 y3 y4 y5 y6 y7
            obtain ⟨b', o', e', hat⟩ := (hrow.out.below HS.out.bel) hne.out
            simp only [Option.some.injEq, Addr.mk.injEq, and_true] at e'
            obtain ⟨rfl, rfl⟩ := e'
            obtain ⟨y0, y1, y2, y3, y4, y5, y6, y7⟩ := tm_cells hat hy.out
            clear hat
            by_cases y4e : y.kind = 4
            ·have z4 : (y.kind == 4) = true := by rw [y4e]; rfl
             go_wp2_with fail
             go_meet
             exact ⟨rfl, rfl, rfl, Hd (by have := hcb.out; have h5 : 5000 * (k - i) ≤ 100000000 := (by omega); omega), Hd (HS.out.more (by split <;> omega))⟩
            ·have z4 : (y.kind == 4) = false := beq_false_of_ne y4e
             go_wp2_with fail
             go_meet
             exact ⟨rfl, rfl, rfl, Hd (by have := hcb.out; have h5 : 5000 * (k - i) ≤ 100000000 := (by omega); omega), Hd (HS.out.more (by split <;> omega))⟩
          | some yb =>
            rw [hbv] at HB hst
            simp only at hst
            replace HB : Hid (∀ z, Calls Tryz.prog 96 #[.string y.text] z fun e w' => e = .returned (.tuple #[.string ⟨yb.toArray⟩, .bool true]) ∧ Below z.heap.size z w') := HB
            have hbl := bytesV_len hbv
            rw [sz_list] at hbl
            clear hbv
            go_wp2_with fail
            refine (HB.out _).mono ?_
            rintro e w4 ⟨rfl, hb4⟩
            replace HS := Hd (HS.out.below hb4)
            clear HB hb4
            try clear y0 y1 y2 y3 y4 y5 y6 y7
            obtain ⟨b', o', e', hat⟩ := (hrow.out.below HS.out.bel) hne.out
            simp only [Option.some.injEq, Addr.mk.injEq, and_true] at e'
            obtain ⟨rfl, rfl⟩ := e'
            obtain ⟨y0, y1, y2, y3, y4, y5, y6, y7⟩ := tm_cells hat hy.out
            clear hat
            by_cases y4e : y.kind = 4
            ·have z4 : (y.kind == 4) = true := by rw [y4e]; rfl
             rw [if_neg (show ¬ y.kind ≠ 4 by simpa using y4e)] at hst
             have hpl := preQ_len y.text.data.toList
             rw [sz_list] at hpl
             obtain ⟨PY, hPY⟩ : ∃ PY, PY = preQ y.text.data.toList := ⟨_, rfl⟩
             rw [← hPY] at HPr hst hpl
             replace hst := Hd hst
             replace y4e := Hd y4e
             clear hPY
             obtain ⟨PB, hPB⟩ : ∃ PB : ByteArray, PB = ⟨PY.toArray⟩ := ⟨_, rfl⟩
             obtain ⟨LB, hLB⟩ : ∃ LB : ByteArray, LB = ⟨c.let_.toArray⟩ := ⟨_, rfl⟩
             obtain ⟨SB, hSB⟩ : ∃ SB : ByteArray, SB = ⟨c.s.toArray⟩ := ⟨_, rfl⟩
             obtain ⟨YB, hYB⟩ : ∃ YB : ByteArray, YB = ⟨yb.toArray⟩ := ⟨_, rfl⟩
             have hsSY : SB.size + YB.size ≤ 100000000 := by
              rw [hSB, hYB]
              show c.s.toArray.size + yb.toArray.size ≤ _
              simp
              have h1 := hcb.out
              have h2 : 5000 * (k - i) ≤ 50000000 := by omega
              omega
             rw [← hPB] at HPr
             rw [← hLB, ← hSB, ← hYB]
             replace hPB := Hd hPB
             replace hLB := Hd hLB
             replace hSB := Hd hSB
             replace hYB := Hd hYB
             go_wp2_with fail
             refine (HPr.out _).mono ?_
             rintro e w5 ⟨rfl, rfl⟩
             clear HPr
             try clear y0 y1 y2 y3 y4 y5 y6 y7
             obtain ⟨b', o', e', hat⟩ := (hrow.out.below HS.out.bel) hne.out
             simp only [Option.some.injEq, Addr.mk.injEq, and_true] at e'
             obtain ⟨rfl, rfl⟩ := e'
             obtain ⟨y0, y1, y2, y3, y4, y5, y6, y7⟩ := tm_cells hat hy.out
             clear hat
             try clear x0 x1 x3 x4 x5
             try clear r0 r1 r2 r3 r4 r5 r6 rf
             obtain ⟨⟨x0, x1, x3, x4, x5⟩, r0, r1, r2, r3, r4, r5, r6, rf⟩ := HS.out.pq.cells
             go_upto_region 42 with fail
             go_cut [154] from 140 to 154 (fun v wx => ∃ q : Bool, v = .bool q ∧ Hid (q = true → bd = false) ∧ wx = w5)
             case first =>
              by_cases p1 : PB = ⟨#[]⟩
              ·have ep : (PB.toList == []) = true := by rw [p1, Lib.toList_data]; rfl
               go_wp2_with fail
               go_meet
               exact ⟨false, rfl, Hd (by simp), rfl⟩
              have ep := eqb_nl [] p1
              by_cases l1 : LB = ⟨#[]⟩
              ·have el : (LB.toList == []) = true := by rw [l1, Lib.toList_data]; rfl
               go_wp2_with fail
               go_meet
               exact ⟨false, rfl, Hd (by simp), rfl⟩
              have el := eqb_nl [] l1
              by_cases pl : (PB.toList == LB.toList) = true
              ·go_wp2_with fail
               go_meet
               exact ⟨false, rfl, Hd (by simp), rfl⟩
              replace pl : (PB.toList == LB.toList) = false := by simpa using pl
              cases bd with
              | true =>
                go_wp2_with fail
                go_meet
                exact ⟨false, rfl, Hd (by simp), rfl⟩
              | false =>
                go_wp2_with fail
                go_meet
                exact ⟨true, rfl, Hd (by simp), rfl⟩
             case rest =>
             obtain ⟨q, rfl, hqb, rfl⟩ := hcut
             go_upto_if 154 with fail
             go_cut [5,18] from 155 to 163 (fun v5 v18 wx => ∃ bd' : Bool, v18 = .bool bd' ∧ Hid (SwR w G x T R L i n (ds.length + (if bd' = true then 1 else 0)) u4 v5 wx ⟨0, x.text, x.file, x.f, x.t, i, c.n⟩))
             case first =>
              cases q with
              | false =>
                go_wp2_with fail
                go_meet
                exact ⟨bd, rfl, HS⟩
              | true =>
                obtain rfl := hqb.out rfl
                obtain ⟨hoY, ⟨es, hes, hdY⟩, hbY, hqY, hnY, hlY⟩ := HS.out
                have hsY := hbY.size
                replace hqY := Hd hqY
                go_wp2_with (at_builtin; first
                 | (refine wpList_append1 E78 rfl rfl hdY rfl rfl (news := [.int .i64 19, .string y.file, .int .i64 y.f, .int .i64 y.t]) (by simp) rfl (by intro u hu; simp at hu; rcases hu with rfl | rfl | rfl | rfl <;> rfl) (by have := hln.out.2; simp at hes; omega) (by decide) hsY ?_; intro v0 wF hown hg; have hbF := bapp hbY hdY hg hsY; have hoF := hoY.kept hg (own_apart hoY hdY (by decide))))
                go_meet
                exact ⟨true, rfl, Hd ⟨hoF, ⟨_, by simp at hes; simp; exact hes, hown⟩, hbF, hqY.out.grown hdY hg, hnY, hlY⟩⟩
             case rest =>
             clear hqb HS
             obtain ⟨bd', rfl, HS⟩ := hcut
             try clear y0 y1 y2 y3 y4 y5 y6 y7
             obtain ⟨b', o', e', hat⟩ := (hrow.out.below HS.out.bel) hne.out
             simp only [Option.some.injEq, Addr.mk.injEq, and_true] at e'
             obtain ⟨rfl, rfl⟩ := e'
             obtain ⟨y0, y1, y2, y3, y4, y5, y6, y7⟩ := tm_cells hat hy.out
             clear hat
             try clear x0 x1 x3 x4 x5
             try clear r0 r1 r2 r3 r4 r5 r6 rf
             obtain ⟨⟨x0, x1, x3, x4, x5⟩, r0, r1, r2, r3, r4, r5, r6, rf⟩ := HS.out.pq.cells
             by_cases l1 : LB = ⟨#[]⟩
             ·have el : (LB.toList == []) = true := by rw [l1, Lib.toList_data]; rfl
              have hl0 : c.let_ = [] := by
               have h := hLB.out
               rw [l1] at h
               exact (congrArg (fun z : ByteArray => z.data.toList) h).symm
              rw [if_pos hl0] at hst
              replace l1 := Hd l1
              go_wp2_with fail
              go_roundg (n + 1 - (k + 1))
              case measure => exact f6.out
              case rel => exact ⟨k + 1, _, bd', rfl, by omega, by rw [hSB.out, hYB.out, ba_app], by rw [hPB.out], rfl, rfl, by simp, hst, Hd (by have := hcb.out; simp only [List.length_append]; omega), Hd (HS.out.cnt _)⟩
             ·have el := eqb_nl [] l1
              have hl0 : ¬ c.let_ = [] := by
               intro h
               apply l1
               rw [hLB.out, h]
              rw [if_neg hl0] at hst
              replace l1 := Hd l1
              go_wp2_with fail
              go_roundg (n + 1 - (k + 1))
              case measure => exact f6.out
              case rel => exact ⟨k + 1, _, bd', rfl, by omega, by rw [hSB.out, hYB.out, ba_app], by rw [hLB.out], rfl, rfl, by simp, hst, Hd (by have := hcb.out; simp only [List.length_append]; omega), Hd (HS.out.cnt _)⟩
            ·have z4 : (y.kind == 4) = false := beq_false_of_ne y4e
             rw [if_pos y4e] at hst
             subst hst
             go_wp2_with fail
             go_meet
             exact ⟨rfl, rfl, rfl, Hd (by have := hcb.out; have h5 : 5000 * (k - i) ≤ 100000000 := (by omega); omega), Hd (HS.out.more (by split <;> omega))⟩
         ·obtain rfl : k = n := by omega
          have hkn' : ¬ (k : Int) < (k : Int) := by omega
          have hst := hC.out
          rw [List.drop_eq_nil_of_le (by rw [hTn.out]; exact Nat.le_refl _), catL_end] at hst
          subst hst
          clear hC
          go_wp2_with fail
          go_meet
          exact ⟨rfl, rfl, rfl, Hd (by have := hcb.out; have h5 : 5000 * (k - i) ≤ 100000000 := (by omega); omega), Hd (HS.out.more (by split <;> omega))⟩
       case rest =>
       obtain ⟨rfl, rfl, rfl, hCb, HS⟩ := hcut
       clear hC0
       obtain ⟨hCn, hCi, hCs, hCl⟩ := hCb.out
       have HQ : Hid (∀ z, Calls Tryz.prog 98 #[.string ⟨C.s.toArray⟩] z fun e w' => e = .returned (.string ⟨(quoteL C.s).toArray⟩) ∧ Below z.heap.size z w') := Hd (fun z => rQuotedW_any ⟨C.s.toArray⟩ (by show C.s.toArray.size ≤ _; simpa using hCs) z)
       have hK : Hid (SwK T R L i n ⟨6, bs (C.let_ ++ quoteL C.s), x.file, x.f, x.t, i, C.n⟩ C.last) := Hd ⟨hCi, hCn, .inr ⟨(show ¬ (6 : Int) = 0 by decide), by rw [← hst.out]; simp [oneT]⟩⟩
       obtain ⟨LB, hLB⟩ : ∃ LB : ByteArray, LB = ⟨C.let_.toArray⟩ := ⟨_, rfl⟩
       obtain ⟨QB, hQB⟩ : ∃ QB : ByteArray, QB = ⟨(quoteL C.s).toArray⟩ := ⟨_, rfl⟩
       have hsLQ : LB.size + QB.size ≤ 300000000 := by
        rw [hLB, hQB]
        show C.let_.toArray.size + (quoteL C.s).toArray.size ≤ _
        simp
        have h1 := quoteL_le C.s
        omega
       rw [← hQB] at HQ
       rw [← hLB]
       replace hLB := Hd hLB
       replace hQB := Hd hQB
       clear hst hCb hCs
       try clear x0 x1 x3 x4 x5
       try clear r0 r1 r2 r3 r4 r5 r6 rf
       obtain ⟨⟨x0, x1, x3, x4, x5⟩, r0, r1, r2, r3, r4, r5, r6, rf⟩ := HS.out.pq.cells
       go_wp2_with fail
       refine (HQ.out _).mono ?_
       rintro e w4 ⟨rfl, hb4⟩
       replace HS := Hd ((HS.out.kind 6).below hb4)
       clear HQ hb4
       try clear x0 x1 x3 x4 x5
       try clear r0 r1 r2 r3 r4 r5 r6 rf
       obtain ⟨⟨x0, x1, x3, x4, x5⟩, r0, r1, r2, r3, r4, r5, r6, rf⟩ := HS.out.pq.cells
       go_wp2_with fail
       go_meet
       exact ⟨_, C.last, rfl, Hd (HS.out.text _), by rw [hLB.out, hQB.out, ba_app]; exact hK⟩
    ·have e4 : (x.kind == 4) = false := beq_false_of_ne k4
     rw [if_neg k4] at hst
     have hkT : kindT x = 0 := (by unfold kindT; rw [if_neg k1, if_neg k2, if_neg k3, if_neg k5])
     rw [hkT, if_pos rfl] at hst
     have hK : Hid (SwK T R L i n ⟨0, x.text, x.file, x.f, x.t, i, 1⟩ i) := Hd ⟨Nat.le_refl _, hin, .inl ⟨rfl, hst⟩⟩
     clear hst hkT
     clear k1 k2 k3 k5 k4
     go_wp2_with fail
     go_meet
     exact ⟨_, i, rfl, HS, hK⟩
   case rest =>
    clear hst e7 k7 x0 x1 x3 x4 x5 r0 r1 r2 r3 r4 r5 r6 rf HS
    obtain ⟨tk, j, rfl, HS, hK⟩ := hcut
    try clear x0 x1 x3 x4 x5
    try clear r0 r1 r2 r3 r4 r5 r6 rf
    obtain ⟨⟨x0, x1, x3, x4, x5⟩, r0, r1, r2, r3, r4, r5, r6, rf⟩ := HS.out.pq.cells
    obtain ⟨hij, hjn, hRR⟩ := hK.out
    have g2 : IntKind.i64.wrap ((j : Int) + 1) = (j : Int) + 1 := IntWalk.i64_in _ (by omega)
    have f5 : Hid (n + 1 - (j + 1) < n + 1 - i) := Hd (by omega)
    obtain ⟨hoY, ⟨es, hes, hdY⟩, hbY, _, _, _⟩ := HS.out
    have hsY := hbY.size
    rcases hRR with ⟨h0, hR1⟩ | ⟨h0, hR2⟩
    ·have h0b : (tk.kind == 0) = true := by rw [h0]; rfl
     replace h0 := Hd h0
     replace hR1 := Hd hR1
     go_wp2_with (at_builtin; first
      | (refine wpList_append1 E78 rfl rfl hdY rfl rfl (news := [.int .i64 19, .string x.file, .int .i64 x.f, .int .i64 x.t]) (by simp) rfl (by intro u hu; simp at hu; rcases hu with rfl | rfl | rfl | rfl <;> rfl) (by have := hln.out.2; omega) (by decide) hsY ?_; intro v0 wF hown hg; have hbF := bapp hbY hdY hg hsY; have hoF := hoY.kept hg (own_apart hoY hdY (by decide))))
     go_roundg (n + 1 - (j + 1))
     case measure => exact f5.out
     case rel => exact ⟨j + 1, L, _, rfl, by omega, by simp, Hd hoF, Hd hown, Hd (by have h1 := hln.out; simp; omega), hR1, Hd hbF⟩
    ·have h0b : (tk.kind == 0) = false := beq_false_of_ne h0
     replace h0 := Hd h0
     replace hR2 := Hd hR2
     go_wp2_with (at_builtin; first
      | (refine wpList_append1 Er94 rfl rfl hoY rfl rfl (news := rtC tk) (by simp) rfl (by intro u hu; simp at hu; rcases hu with rfl | rfl | rfl | rfl | rfl | rfl | rfl <;> rfl) (by rw [List.length_map]; have := hln.out.1; omega) (by decide) hsY ?_; intro v0 wF hown hg; have hbF := bapp hbY hoY hg hsY; have hdF := hdY.kept hg (own_apart hdY hoY (by decide))))
     go_roundg (n + 1 - (j + 1))
     case measure => exact f5.out
     case rel => exact ⟨j + 1, L ++ [tk], es, rfl, by omega, by simp, Hd (by rw [List.map_append]; exact hown), Hd hdF, Hd (by have h1 := hln.out; rw [List.length_append]; simp; omega), hR2, Hd hbF⟩
  ·obtain rfl : i = n := by omega
   have hin' : ¬ (i : Int) < (i : Int) := by omega
   have hRL : Hid (L = R) := Hd (by have := hR.out; rw [allF_end (by rw [hTn.out]; exact Nat.le_refl _), List.append_nil] at this; exact this)
   obtain ⟨dao, dcap, rfl, _, _, _, _⟩ := hd.out.rown (n := ds.length) rfl
   go_wp2_with (at_builtin; first
    | (refine wpList_append1 Er94 rfl rfl ho.out rfl rfl (news := rtC ⟨8, ⟨#[]⟩, ⟨#[]⟩, 0,0, i, 0⟩) (by simp) rfl (by intro u hu; simp at hu; rcases hu with rfl | rfl | rfl | rfl | rfl | rfl | rfl <;> rfl) (by rw [List.length_map]; have := hln.out.1; omega) (by decide) hsB ?_; intro v0 wF hown hg; have hbF := bapp hb.out ho.out hg hsB))
   go_ret2
   exact ⟨_, _, rfl, by rw [hAll.out, ← hRL.out, List.map_append, hTn.out]; exact hown, hbF⟩
end Go.Proofs.YtllbbacnakoomaaGreatDoor
