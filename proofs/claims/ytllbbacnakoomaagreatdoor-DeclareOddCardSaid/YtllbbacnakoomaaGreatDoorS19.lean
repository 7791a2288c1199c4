/- Texts of this seat's proofs, laid into one file. -/
import Derived.Test.YtllbbacnakoomaaGreatDoorS7
import Derived.Deep.AppendLies
import Derived.Deep.RegionLaw
import Derived.Test.YtllbbacnakoomaaGreatDoorS10
import Derived.Deep.Cut
import Derived.Deep.CutRange
set_option maxRecDepth 100000
set_option maxHeartbeats 16000000
namespace Go.Proofs.YtllbbacnakoomaaGreatDoor
open Go.RowKit
set_option linter.unusedVariables false
def tkC (file : ByteArray) (t : Tk) : List Value := [.int .i64 t.kind, .string ⟨t.text.toArray⟩, .bool t.space, .string file, .int .i64 t.f, .int .i64 t.t, .bool false, .slice none 0 0]
def dgC (file : ByteArray) (d : Dg) : List Value := [.int .i64 d.code, .string file, .int .i64 d.f, .int .i64 d.t]
theorem E160 : EI Tryz.prog 88 160 (.agg #[.int .i64 0, .string ⟨#[]⟩, .bool false, .string ⟨#[]⟩, .int .i64 0, .int .i64 0, .bool false, .slice none 0 0]) 8 96 := ⟨Tryz.underlying88, by kernel_rfl, rfl, by decide⟩
theorem E78 : EI Tryz.prog 68 78 (.agg #[.int .i64 0, .string ⟨#[]⟩, .int .i64 0, .int .i64 0]) 4 40 := ⟨Tryz.underlying68, by kernel_rfl, rfl, by decide⟩
theorem E90 : EI Tryz.prog 85 90 (.agg #[.slice none 0 0, .int .i64 0, .int .i64 0, .bool false]) 4 48 := ⟨Tryz.underlying85, by kernel_rfl, rfl, by decide⟩
def LnAt (w : World) (S : Nat) (file : ByteArray) (ln : Ln) (c : List Value) : Prop :=
 ∃ ao cap, c = [.slice ao ln.toks.length cap, .int .i64 ln.f, .int .i64 ln.t, .bool ln.op] ∧ (ln.toks.length ≤ cap ∧ (ao = none → cap = 0)) ∧ (ln.toks ≠ [] → ∃ b o x fz, ao = some ⟨b, o, none⟩ ∧ b < S ∧ w.heap[b]? = some (.cells x 160 fz) ∧ RowAt w 8 b o (ln.toks.map (tkC file)))
inductive LnsAt (w : World) (S : Nat) (file : ByteArray) : List Ln → List (List Value) → Prop
 | nil : LnsAt w S file [] []
 | cons {l : Ln} {c : List Value} {ls : List Ln} {css : List (List Value)} (h : LnAt w S file l c) (r : LnsAt w S file ls css) : LnsAt w S file (l :: ls) (c :: css)
def KeptTok (S : Nat) (w w' : World) : Prop := ∀ b, b < S → ∀ x fz, w.heap[b]? = some (.cells x 160 fz) → w'.heap[b]? = some (.cells x 160 fz)
theorem KeptTok.trans {S : Nat} {a b c : World} (h : KeptTok S a b) (k : KeptTok S b c) : KeptTok S a c := fun i hi x fz hx => k i hi x fz (h i hi x fz hx)
theorem KeptTok.below {S : Nat} {w w' : World} (h : Below S w w') : KeptTok S w w' := fun i hi x fz hx => (h.block i hi).trans hx
theorem KeptTok.others {S : Nat} {e : TypeId} {c : Option Nat} {w w' : World} (h : Lib.OthersKept e c w w') (he : e ≠ 160) (hc : ∀ b, c = some b → ∀ x fz, w.heap[b]? ≠ some (.cells x 160 fz)) : KeptTok S w w' := by
 intro i hi x fz hx
 refine h i _ hx ?_ ?_
 ·intro e1
  exact hc i e1.symm x fz hx
 ·intro y fz' e1
  injection e1 with _ e2 _
  exact he e2.symm
theorem KeptTok.setCell {S b : Nat} {w : World} {y : Array Value} {e : TypeId} {fz : Nat × Nat} (h : w.heap[b]? = some (.cells y e fz)) (he : e ≠ 160) (j : Nat) (u : Value) : KeptTok S w (w.setCell ⟨b, j, none⟩ u) := by
 intro i hi x fz' hx
 rw [Below.heap_setCell]
 ·exact hx
 ·rintro rfl
  rw [h] at hx
  simp at hx
  exact he hx.2.1
theorem KeptTok.setRow {S b : Nat} {w : World} {y : Array Value} {e : TypeId} {fz : Nat × Nat} (h : w.heap[b]? = some (.cells y e fz)) (he : e ≠ 160) (cs : Array Value) : KeptTok S w (w.setRow b cs) := by
 intro i hi x fz' hx
 rw [setRow_other]
 ·exact hx
 ·rintro rfl
  rw [h] at hx
  simp at hx
  exact he hx.2.1
theorem LnAt.kept {w w' : World} {S : Nat} {file : ByteArray} {ln : Ln} {c : List Value} (h : LnAt w S file ln c) (k : KeptTok S w w') : LnAt w' S file ln c := by
 obtain ⟨ao, cap, rfl, h1, h2⟩ := h
 refine ⟨ao, cap, rfl, h1, fun hne => ?_⟩
 obtain ⟨b, o, x, fz, rfl, hb, hx, hr⟩ := h2 hne
 have hx' := k b hb x fz hx
 refine ⟨b, o, x, fz, rfl, hb, hx', fun i cs hi j u hj => ?_⟩
 exact (World.cell?_of_block (a := ⟨b, o + i * 8 + j, none⟩) (hx'.trans hx.symm)).trans (hr i cs hi j u hj)
theorem LnAt.mono {w : World} {S S' : Nat} {file : ByteArray} {ln : Ln} {c : List Value} (h : LnAt w S file ln c) (k : S ≤ S') : LnAt w S' file ln c := by
 obtain ⟨ao, cap, rfl, h1, h2⟩ := h
 refine ⟨ao, cap, rfl, h1, fun hne => ?_⟩
 obtain ⟨b, o, x, fz, e, hb, hx, hr⟩ := h2 hne
 exact ⟨b, o, x, fz, e, Nat.lt_of_lt_of_le hb k, hx, hr⟩
theorem LnsAt.kept {w w' : World} {S : Nat} {file : ByteArray} {ls : List Ln} {css : List (List Value)} (h : LnsAt w S file ls css) (k : KeptTok S w w') : LnsAt w' S file ls css := by
 induction h with
 | nil => exact .nil
 | cons h _ ih => exact .cons (h.kept k) ih
theorem LnsAt.mono {w : World} {S S' : Nat} {file : ByteArray} {ls : List Ln} {css : List (List Value)} (h : LnsAt w S file ls css) (k : S ≤ S') : LnsAt w S' file ls css := by
 induction h with
 | nil => exact .nil
 | cons h _ ih => exact .cons (h.mono k) ih
theorem LnsAt.snoc {w : World} {S : Nat} {file : ByteArray} {ls : List Ln} {css : List (List Value)} (h : LnsAt w S file ls css) {l : Ln} {c : List Value} (hl : LnAt w S file l c) : LnsAt w S file (ls ++ [l]) (css ++ [c]) := by
 induction h with
 | nil => exact .cons hl .nil
 | cons h _ ih => exact .cons h ih
theorem LnsAt.len {w : World} {S : Nat} {file : ByteArray} {ls : List Ln} {css : List (List Value)} (h : LnsAt w S file ls css) : css.length = ls.length := by
 induction h with
 | nil => rfl
 | cons _ _ ih => simp [ih]
theorem LnAt.of_own {w : World} {B : Nat} {file : ByteArray} {v : Value} {toks : List Tk} (h : Own w B 160 8 v (toks.map (tkC file))) (f t : Nat) (op : Bool) : LnAt w w.heap.size file ⟨toks, f, t, op⟩ [v, .int .i64 f, .int .i64 t, .bool op] := by
 obtain ⟨ao, cap, rfl, h1, _, hrow, hz⟩ := h.rown (n := toks.length) (by simp)
 refine ⟨ao, cap, rfl, ⟨h1, fun e => (hz e).2⟩, fun hne => ?_⟩
 obtain ⟨b, o, rfl, hat⟩ := hrow (by simpa using hne)
 obtain ⟨x, fz, hx⟩ : ∃ x fz, w.heap[b]? = some (.cells x 160 fz) := by
  rcases h.1.2 with ⟨hv, _⟩ | ⟨g, cap', cur, hv, _, hg, _⟩
  ·simp at hv
  ·simp only [Value.slice.injEq, Option.some.injEq] at hv
   obtain ⟨hv1, _⟩ := hv
   simp only [Addr.mk.injEq] at hv1
   rw [hv1.1]
   exact ⟨_, _, hg⟩
 exact ⟨b, o, x, fz, rfl, (Array.getElem?_eq_some_iff.1 hx).1, hx, hat⟩
structure LsAt (w0 w : World) (H : Nat) (file : ByteArray) (s : LS) (vo vd vn : Value) : Prop where
 lines : ∃ S lcs, H + 1 ≤ S ∧ S ≤ w.heap.size ∧ Own w S 160 8 vn (s.toks.map (tkC file)) ∧ Own w (H + 1) 90 4 vo lcs ∧ LnsAt w S file s.out lcs
 diags : Own w (H + 1) 78 4 vd (s.diags.map (dgC file))
 here : w.heap[H]? = some (.cells #[vn, .int .i64 s.from_, .int .i64 0, .bool false] 90 (0,0))
 below : Below H w0 w
end Go.Proofs.YtllbbacnakoomaaGreatDoor
namespace Go.Proofs.YtllbbacnakoomaaGreatDoor
open Go.RowKit
set_option linter.unusedVariables false
theorem LnsAt.unsnoc {w : World} {S : Nat} {file : ByteArray} : ∀ {ls : List Ln} {l : Ln} {css : List (List Value)}, LnsAt w S file (ls ++ [l]) css → ∃ cs' c, css = cs' ++ [c] ∧ LnsAt w S file ls cs' ∧ LnAt w S file l c := by
 intro ls
 induction ls with
 | nil =>
   intro l css h
   cases h with
   | cons h r => cases r; exact ⟨[], _, rfl, .nil, h⟩
 | cons a ls ih =>
   intro l css h
   cases h with
   | cons h r =>
     obtain ⟨cs', c, rfl, h1, h2⟩ := ih r
     exact ⟨_ :: cs', c, rfl, .cons h h1, h2⟩
theorem finL_snoc (m : Nat) (ls : List Ln) (l : Ln) : finL m (ls ++ [l]) = ls ++ [⟨l.toks, l.f, m, l.op⟩] := by
 induction ls with
 | nil => rfl
 | cons a ls ih =>
   cases ls with
   | nil => rfl
   | cons b ls => simp only [List.cons_append, finL] at ih ⊢; rw [ih]
theorem lines_last {w : World} {B S g cap M : Nat} {file : ByteArray} {ls : List Ln} {lcs : List (List Value)} (ho : Own w B 90 4 (.slice (some ⟨g, 0, none⟩) (M + 1) cap) lcs) (hl : LnsAt w S file ls lcs) (hM : ls.length = M + 1) (m : Nat) :
 ∃ old lcs', w.cell? ⟨g, M * 4 + 2, none⟩ = some old ∧ w.frozen? ⟨g, M * 4 + 2, none⟩ = false ∧ Own (w.setCell ⟨g, M * 4 + 2, none⟩ (.int .i64 m)) B 90 4 (.slice (some ⟨g, 0, none⟩) (M + 1) cap) lcs' ∧ LnsAt (w.setCell ⟨g, M * 4 + 2, none⟩ (.int .i64 m)) S file (finL m ls) lcs' ∧ B ≤ g := by
 obtain ⟨ls', l, rfl⟩ : ∃ ls' l, ls = ls' ++ [l] := ⟨ls.dropLast, ls.getLast (by intro h; rw [h] at hM; simp at hM), (List.dropLast_concat_getLast _).symm⟩
 obtain ⟨cs', c, rfl, h1, h2⟩ := hl.unsnoc
 have hcl : cs'.length = M := by rw [h1.len]; simpa using hM
 obtain ⟨ao, k, rfl, hk, hrow⟩ := h2
 have hlen : (cs' ++ [[Value.slice ao l.toks.length k, .int .i64 l.f, .int .i64 l.t, .bool l.op]]).length = M + 1 := by simp [hcl]
 have ho1 := ho.1
 rw [hlen] at ho1
 have hfl : cs'.flatten.length = M * 4 := by rw [flatten_len (sz := 4) (fun c hc => ho.2 c (by simp [hc])), hcl]
 have hb := ho.ge g rfl
 obtain ⟨y, fz, hy⟩ := ho.size_lt g rfl
 have hkt : ∀ S', KeptTok S' w (w.setCell ⟨g, M * 4 + 2, none⟩ (.int .i64 m)) := fun S' => KeptTok.setCell hy (by decide) _ _
 refine ⟨.int .i64 l.t, cs' ++ [[.slice ao l.toks.length k, .int .i64 l.f, .int .i64 m, .bool l.op]], ?_, ho1.frozenAt _, ⟨?_, ?_⟩, ?_, hb⟩
 ·rw [ho1.cellAt _ (by omega), List.flatten_append, List.getElem?_append_right (by omega), hfl]
  simp
 ·have := (ho1.stored (M * 4 + 2) (.int .i64 m)).1
  rw [List.flatten_append, List.set_append_right _ _ (by omega), hfl] at this
  rw [show (cs' ++ [[Value.slice ao l.toks.length k, .int .i64 l.f, .int .i64 m, .bool l.op]]).length = M + 1 by simp [hcl], List.flatten_append]
  simpa using this
 ·intro c hc
  rcases List.mem_append.1 hc with hc | hc
  ·exact ho.2 c (by simp [hc])
  ·simp at hc; subst hc; rfl
 ·rw [finL_snoc]
  exact (h1.kept (hkt _)).snoc (LnAt.kept (ln := ⟨l.toks, l.f, m, l.op⟩) ⟨ao, k, rfl, hk, hrow⟩ (hkt _))
theorem KeptTok.fresh {S : Nat} (w : World) (o : Obj) : KeptTok S w (w.drew.alloc o) := by
 intro i _ x fz hx
 exact (Lib.alloc_old w.drew o i (Array.getElem?_eq_some_iff.1 hx).1).trans hx
theorem app_kept {w w2 : World} {c : Nat} {o o1 : Obj} {r : Option Nat} (h : w.heap[c]? = some o1) (hne : r ≠ some c) (hg : (w.drew.alloc o).grownBy w2 r) : w2.heap[c]? = some o1 := by
 have hlt : c < w.heap.size := lt_of_block h
 rw [hg.block c (by simp; exact Nat.lt_succ_of_lt hlt) (fun e => hne e.symm)]
 exact (Lib.alloc_old w.drew o c hlt).trans h
theorem LsAt.later {w0 w w' : World} {H : Nat} {file : ByteArray} {s : LS} {vo vd vn : Value} (h : LsAt w0 w H file s vo vd vn) (hb : Below w.heap.size w w') (hH : H ≤ w0.heap.size) : LsAt w0 w' H file s vo vd vn := by
 obtain ⟨⟨S, lcs, h1, h2, h3, h4, h5⟩, h6, h7, h8⟩ := h
 exact ⟨⟨S, lcs, h1, Nat.le_trans h2 hb.size, h3.below hb, h4.below hb, h5.kept (KeptTok.below (hb.mono h2))⟩, h6.below hb, (hb.block _ (lt_of_block h7)).trans h7, h8.trans (hb.mono (Nat.le_trans hH h8.size))⟩
theorem RowAt.sub {w : World} {sz b o : Nat} {css : List (List Value)} (h : RowAt w sz b o css) (i n : Nat) : RowAt w sz b (o + i * sz) ((css.drop i).take n) := by
 intro k cs hk j u hj
 have hk2 : css[i + k]? = some cs := by
  rw [List.getElem?_take] at hk
  split at hk
  ·rw [List.getElem?_drop] at hk; exact hk
  ·cases hk
 have := h (i + k) cs hk2 j u hj
 rw [show o + i * sz + k * sz + j = o + (i + k) * sz + j by rw [Nat.add_mul]; omega]
 exact this
theorem tok_kept {w wt w9 : World} {c : Nat} {o o1 : Obj} {r : Option Nat} (h : w.heap[c]? = some o1) (hbt : Below w.heap.size w wt) (hg : (wt.alloc o).grownBy w9 r) (hne : r ≠ some c) : w9.heap[c]? = some o1 := by
 have h1 := (hbt.block c (lt_of_block h)).trans h
 have hlt : c < wt.heap.size := lt_of_block h1
 rw [hg.block c (by simp; omega) (fun e => hne e.symm)]
 exact (Lib.alloc_old wt o c hlt).trans h1
theorem LsAt.token {w0 w wt w9 : World} {H : Nat} {file : ByteArray} {s : LS} {vo vd vn v9 : Value} {tk : Tk} {S : Nat} {lcs : List (List Value)} {o : Obj} {sp : Bool} {i : Nat} (hH : H ≤ w0.heap.size) (hS1 : H + 1 ≤ S) (hS2 : S ≤ w.heap.size) (hn : Own w S 160 8 vn (s.toks.map (tkC file))) (ho : Own w (H + 1) 90 4 vo lcs) (hl : LnsAt w S file s.out lcs) (hd : Own w (H + 1) 78 4 vd (s.diags.map (dgC file)))
 (hh : w.heap[H]? = some (.cells #[vn, .int .i64 s.from_, .int .i64 0, .bool false] 90 (0,0))) (hb : Below H w0 w) (hbt : Below w.heap.size w wt) (h9 : Own w9 S 160 8 v9 (s.toks.map (tkC file) ++ [tkC file tk])) (hg : (wt.alloc o).grownBy w9 vn.ownBlock) :
 LsAt w0 (w9.setCell ⟨H, 0, none⟩ v9) H file ⟨i, s.toks ++ [tk], s.from_, sp, s.out, s.diags⟩ vo vd v9 := by
 have hne : vn.ownBlock ≠ some H := by intro e; have := hn.ge _ e; omega
 have hh9 := tok_kept hh hbt hg hne
 have hoth := others_app ((hn.below hbt).alloc o) hg
 have hsz : w.heap.size ≤ w9.heap.size := by have := hg.size; have := hbt.size; simp at *; omega
 have hs9 := setCell_eq_setRow w9 H 0 _ _ _ v9 hh9
 have hk : KeptTok S w w9 := by
  intro b hbS x fz hx
  exact tok_kept hx hbt hg (by intro e; have := hn.ge _ e; omega)
 refine ⟨⟨S, lcs, hS1, by simp [World.setCell]; omega, ?_, (own_kt0 ((ho.below hbt).alloc o) (by decide) hoth).setBelow (Nat.lt_succ_self _) _, (hl.kept hk).kept (KeptTok.setCell hh9 (by decide) _ _)⟩, (own_kt0 ((hd.below hbt).alloc o) (by decide) hoth).setBelow (Nat.lt_succ_self _) _, ?_, ?_⟩
 ·rw [List.map_append]
  exact h9.setBelow (by omega) _
 ·rw [hs9]
  exact setRow_heap _ _ _ _ _ _ hh9
 ·exact (bapp ((hb.trans (hbt.mono (by have := hb.size; omega))).alloc (by have := hb.size; have := hbt.size; omega) _) (((hn.below hbt).alloc o).mono (by omega)) hg (by have := hb.size; have := hbt.size; simp; omega)).setCell (p := ⟨H, 0, none⟩) (Nat.le_refl _) _
theorem wrap_small {x : Int} (h : 0 ≤ x ∧ x ≤ 1000000000) : IntKind.i64.wrap x = x := by
 rw [IntKind.wrap_i64]
 omega
theorem com_open {A : List UInt8} {i : Nat} (h : (commentL A i).2 = true) : i + 1 < A.length := by
 unfold commentL at h
 split at h
 ·cases h
 ·split at h
  ·cases h
  ·split at h
   ·cases h
   ·rename_i h42
    rcases Nat.lt_or_ge (i + 1) A.length with h1 | h1
    ·exact h1
    ·rw [chAt_ge h1] at h42
     exact absurd (by decide) h42
end Go.Proofs.YtllbbacnakoomaaGreatDoor
namespace Go.Proofs.YtllbbacnakoomaaGreatDoor
open Go.RowKit
set_option linter.unusedVariables false
theorem rF_atX {R : List Rn} {i : Nat} {r : Rn} (h : R[i]? = some r) : rF R i = r.f := by simp [rF, h]
theorem rT_atX {R : List Rn} {i : Nat} {r : Rn} (h : R[i]? = some r) : rT R i = r.t := by simp [rT, h]
theorem line_cells {w : World} {b : Nat} {a0 a1 a2 a3 : Value} {e : TypeId} {fz : Nat × Nat} (h : w.heap[b]? = some (.cells #[a0, a1, a2, a3] e fz)) :
 w.cell? ⟨b, 0, none⟩ = some a0 ∧ w.cell? ⟨b, 1, none⟩ = some a1 ∧ w.cell? ⟨b, 2, none⟩ = some a2 ∧ w.cell? ⟨b, 3, none⟩ = some a3 :=
 ⟨by simpa using Lib.cell_of_heap h 0, by simpa using Lib.cell_of_heap h 1, by simpa using Lib.cell_of_heap h 2, by simpa using Lib.cell_of_heap h 3⟩
theorem span_cells {w : World} {b : Nat} {a0 a1 a2 : Value} {e : TypeId} {fz : Nat × Nat} (h : w.heap[b]? = some (.cells #[a0, a1, a2] e fz)) :
 w.cell? ⟨b, 0, none⟩ = some a0 ∧ w.cell? ⟨b, 1, none⟩ = some a1 ∧ w.cell? ⟨b, 2, none⟩ = some a2 :=
 ⟨by simpa using Lib.cell_of_heap h 0, by simpa using Lib.cell_of_heap h 1, by simpa using Lib.cell_of_heap h 2⟩
theorem LsAt.diag {w0 w w' : World} {H : Nat} {file : ByteArray} {s : LS} {vo vd vn vd' : Value} {d : Dg} (h : LsAt w0 w H file s vo vd vn) (h5 : Own w' (H + 1) 78 4 vd' (s.diags.map (dgC file) ++ [dgC file d])) (hg : w.grownBy w' vd.ownBlock) :
 LsAt w0 w' H file ⟨s.i, s.toks, s.from_, s.space, s.out, s.diags ++ [d]⟩ vo vd' vn := by
 obtain ⟨⟨S, lcs, h1, h2, h3, h4, h5'⟩, h6, h7, h8⟩ := h
 have hoth := others_app h6 hg
 refine ⟨⟨S, lcs, h1, Nat.le_trans h2 hg.size, own_kt0 h3 (by decide) hoth, own_kt0 h4 (by decide) hoth, h5'.kept (KeptTok.others hoth (by decide) (by simp))⟩, ?_, ?_, bapp h8 (h6.mono (Nat.le_succ _)) hg (Nat.le_of_lt (lt_of_block h7))⟩
 ·rw [List.map_append]; exact h5
 ·exact (hg.block _ (lt_of_block h7) (by intro e; have := h6.ge _ e.symm; omega)).trans h7
theorem info_line : ((Tryz.prog).info? 90).map (·.size) = some 4 := by kernel_rfl
theorem rLines_any (file s : ByteArray) (hs : s.size ≤ 1000000) (w : World) :
 Calls Tryz.prog 55 #[.string file, .string s] w fun e w' => ∃ vo vd lcs, e = .returned (.tuple #[vo, vd]) ∧ Own w' w.heap.size 90 4 vo lcs ∧ LnsAt w' w'.heap.size file (linesL s.data.toList).1 lcs ∧ Own w' w.heap.size 78 4 vd ((linesL s.data.toList).2.map (dgC file)) ∧ Below w.heap.size w w' := by
 have HLL : Hid (linesL s.data.toList = linesFrom (charsL s.data.toList) s.size ⟨0, [], 0, false, [], []⟩) := Hd (by unfold linesL linesFrom; rw [← Lib.size_eq])
 have hRl : (charsL s.data.toList).length ≤ s.size + 1 := by rw [Lib.size_eq]; exact charsL_len _
 go_enter Tryz.func55, Tryz.ntmps55
 go_wp2_with fail
 refine (rchars_any s hs _).mono ?_
 rintro e w1 ⟨v1, rfl, hown1, hb1⟩
 obtain ⟨R, hR⟩ : ∃ R, R = charsL s.data.toList := ⟨_, rfl⟩
 rw [← hR] at HLL hRl hown1
 clear hR
 obtain ⟨n, hnn⟩ : ∃ n, n = R.length := ⟨_, rfl⟩
 have HN2 : Hid (R.length = n) := Hd hnn.symm
 rw [← hnn] at hRl
 obtain ⟨ao, cap, rfl, hcap, _, hrow, _⟩ := hown1.rown (n := n) (by rw [List.length_map, hnn])
 clear hown1 hnn
 have HRW : Hid (∀ w', Below w1.heap.size w1 w' → Row w' 3 ao (R.map Rn.v)) := Hd (fun w' h => hrow.below h)
 have HI : LsAt w1 (w1.alloc (.cells #[.slice none 0 0, .int .i64 0, .int .i64 0, .bool false] 90)) w1.heap.size file ⟨0, [], 0, false, [], []⟩ (.slice none 0 0) (.slice none 0 0) (.slice none 0 0) :=
  ⟨⟨w1.heap.size + 1, [], Nat.le_refl _, by simp, Own.nil _ _ _ _, Own.nil _ _ _ _, .nil⟩, Own.nil _ _ _ _, heap_alloc_new w1 _, (Below.refl _ _).alloc (Nat.le_refl _) _⟩
 clear hrow
 go_wp2_with fail
 go_loopg [7,8,10,11] n (fun q v7 v8 v10 v11 wr => ∃ (st : LS) (vo vd vn : Value), q = n - st.i ∧ st.i ≤ n ∧ vo = v7 ∧ vd = v8 ∧ v10 = .bool st.space ∧ v11 = .int .i64 st.i ∧ LsAt w1 wr w1.heap.size file st vo vd vn ∧ Hid (linesL s.data.toList = linesFrom R s.size st) ∧ st.toks.length ≤ st.i ∧ st.out.length ≤ st.i ∧ st.diags.length ≤ st.i)
 case atStart => exact ⟨⟨0, [], 0, false, [], []⟩, _, _, _, rfl, Nat.zero_le _, rfl, rfl, rfl, rfl, HI, HLL, Nat.le_refl _, Nat.le_refl _, Nat.le_refl _⟩
 case round =>
  obtain ⟨st, vo, vd, vn, rfl, hi, rfl, rfl, rfl, rfl, hls, hres, hlt1, hlt2, hlt3⟩ := hrel
  by_cases hlt : st.i < n
  ·have hrow := HRW.out _ hls.below
   have hne : R.map Rn.v ≠ [] := by intro h; simp at h; have := HN2.out; rw [h] at this; simp at this; omega
   obtain ⟨r, hr⟩ : ∃ r, R[st.i]? = some r := ⟨R[st.i]'(by rw [HN2.out]; exact hlt), by simp⟩
   obtain ⟨rb, ro, rfl, hat⟩ := hrow hne
   have c0 := hat.cell (i := st.i) (cs := r.v) (by simp [hr]) (j := 0) (u := .int .u8 r.c.toNat) rfl
   have c1 := hat.cell (i := st.i) (cs := r.v) (by simp [hr]) (j := 1) (u := .int .i64 r.f) rfl
   have c2 := hat.cell (i := st.i) (cs := r.v) (by simp [hr]) (j := 2) (u := .int .i64 r.t) rfl
   simp only [Nat.add_zero] at c0
   have hca := cs_at hr
   have hinl := fun s' h => linesFrom_inl (s := st) (s' := s') (R := R) (n := s.size) (by rw [HN2.out]; exact hlt) h
   have hstep : Hid (∀ y, lineStep R s.size st = y → lineStep R s.size st = y) := Hd (fun _ h => h)
   obtain ⟨x, hx⟩ : ∃ x : Int, x = (r.c.toNat : Int) := ⟨_, rfl⟩
   rw [← hx] at c0
   by_cases hx10 : x = 10
   ·subst hx10
    have hc10 : chAt (cs R) st.i = 10 := by rw [hca]; exact (u8eq _ _).2 hx.symm
    have HS : Hid (linesL s.data.toList = linesFrom R s.size ⟨st.i + 1, [], rT R st.i, false, st.out ++ [⟨st.toks, st.from_, rT R st.i, false⟩], st.diags⟩) := Hd (hres.out.trans (hinl _ (by unfold lineStep; rw [if_pos hc10])))
    rw [rT_atX hr] at HS
    clear hinl hc10 hca hx hres
    obtain ⟨⟨S, lcs, hS1, hS2, hn, ho, hlns⟩, hd, hh, hb⟩ := hls
    obtain ⟨nao, ncap, rfl, _, _, _, _⟩ := hn.rown (n := st.toks.length) (by simp)
    obtain ⟨d0, d1, d2, d3⟩ := line_cells hh
    have hf := fun j => Lib.frozen_of_heap hh j
    have hol := hlns.len
    have hoH : vo.ownBlock ≠ some w1.heap.size := by intro e; have := ho.ge _ e; omega
    have ho2 : Own (wr.setCell ⟨w1.heap.size, 2, none⟩ (.int .i64 r.t)) (w1.heap.size + 1) 90 4 vo lcs := ⟨ownsRow_setCell_other ho.1 hoH _, ho.2⟩
    have hh2 := setCell_eq_setRow wr w1.heap.size 2 _ _ _ (.int .i64 r.t) hh
    have hb2 : Below w1.heap.size w1 (wr.setCell ⟨w1.heap.size, 2, none⟩ (.int .i64 r.t)) := hb.setCell (Nat.le_refl _) _
    have hlen1 : lcs.length + 1 ≤ 1000000000 := by rw [hol]; omega
    have hsz2 : w1.heap.size + 1 ≤ (wr.setCell ⟨w1.heap.size, 2, none⟩ (.int .i64 r.t)).heap.size := by have := lt_of_block hh; simp [World.setCell]; omega
    replace hh2 := Hd hh2
    replace hr := Hd hr
    go_wp2_with (first
     | (at_builtin; go_must (refine wpList_append1 E90 rfl rfl ho2 rfl rfl (news := [.slice nao st.toks.length ncap, .int .i64 st.from_, .int .i64 r.t, .bool false]) (by simp [World.setCell]) rfl (by simp [Value.oneCell']) hlen1 (by decide) hsz2 ?_); intro v7 w7 hown7 hg7; have hb7 := bapp hb2 (ho2.mono (Nat.le_succ _)) hg7 (Nat.le_of_succ_le hsz2); have hr7 := HRW.out _ hb7; obtain ⟨rb7, ro7, e7, hat7⟩ := hr7 hne; obtain ⟨rfl, rfl⟩ : rb = rb7 ∧ ro = ro7 := by (simp at e7; exact e7)
        have c27 := hat7.cell (i := st.i) (cs := r.v) (by simp [hr.out]) (j := 2) (u := .int .i64 r.t) rfl
        have hh7 : w7.heap[w1.heap.size]? = some (.cells #[.slice nao st.toks.length ncap, .int .i64 st.from_, .int .i64 r.t, .bool false] 90 (0,0)) := by (rw [hg7.block _ (by omega) (fun e => hoH e.symm), hh2.out, setRow_heap _ _ _ _ _ _ hh]; rfl))
     | (refine wpList_store_row rfl 90 (.tmp 9) (.tmp 45) rfl w1.heap.size _ rfl rfl 90 _ hh7 info_line rfl (by simp [Value.oneCell']) ?_))
    go_roundg (n - (st.i + 1))
    case measure => omega
    case rel =>
     have hk2 : ∀ S', KeptTok S' (wr.setCell ⟨w1.heap.size, 2, none⟩ (.int .i64 r.t)) w7 := fun S' => KeptTok.others (others_app ho2 hg7) (by decide) (by simp)
     have hk : ∀ S', KeptTok S' wr (w7.setRow w1.heap.size #[.slice none 0 0, .int .i64 r.t, .int .i64 0, .bool false]) := fun S' => ((KeptTok.setCell hh (by decide) _ _).trans (hk2 S')).trans (KeptTok.setRow hh7 (by decide) _)
     have hsz : wr.heap.size ≤ (w7.setRow w1.heap.size #[.slice none 0 0, .int .i64 r.t, .int .i64 0, .bool false]).heap.size := by
      have := hg7.size
      simp [World.setCell] at this ⊢
      exact this
     refine ⟨⟨st.i + 1, [], r.t, false, st.out ++ [⟨st.toks, st.from_, r.t, false⟩], st.diags⟩, v7, vd, .slice none 0 0, rfl, (show st.i + 1 ≤ n by omega), rfl, rfl, rfl, by go_num, ⟨⟨wr.heap.size, lcs ++ [[.slice nao st.toks.length ncap, .int .i64 st.from_, .int .i64 r.t, .bool false]], by omega, hsz, Own.nil _ _ _ _, hown7.rowBelow (Nat.lt_succ_self _) _, ((hlns.mono hS2).kept (hk _)).snoc ((LnAt.of_own hn st.from_ r.t false).kept (hk _))⟩, ?_, setRow_heap _ _ _ _ _ _ hh7, Below.row hb7 (Nat.le_refl _) _⟩, HS, Nat.zero_le _, by simp; omega, by simp; omega⟩
     exact (own_kt0 (hd.setBelow (Nat.lt_succ_self _) _) (by decide) (others_app ho2 hg7)).rowBelow (Nat.lt_succ_self _) _
   ·have hx10' : (x == 10) = false := by simpa using hx10
    have hc10 : ¬ chAt (cs R) st.i = 10 := by rw [hca]; intro e; exact hx10 (hx.trans ((u8eq _ _).1 e))
    have HW := rWhite_any (chAt (cs R) st.i) wr
    have HCM := rcomment_any R (some ⟨rb, ro, none⟩) cap st.i (by rw [HN2.out]; omega) (by rw [HN2.out]; omega) wr hrow
    rw [HN2.out] at HCM
    obtain ⟨wb, hwb⟩ : ∃ b, b = whiteB (chAt (cs R) st.i) := ⟨_, rfl⟩
    rw [← hwb, hca, ← hx] at HW
    replace HW := Hd HW
    cases wb with
    | true =>
      have HS : Hid (linesL s.data.toList = linesFrom R s.size ⟨st.i + 1, st.toks, st.from_, true, st.out, st.diags⟩) := Hd (hres.out.trans (hinl _ (by unfold lineStep; rw [if_neg hc10, if_pos hwb.symm])))
      clear hinl hc10 hca hx hres HCM hwb hr hat hrow
      go_wp2_with fail
      refine HW.out.mono ?_
      rintro e w' ⟨rfl, rfl⟩
      go_wp2_with fail
      go_roundg (n - (st.i + 1))
      case measure => omega
      case rel => exact ⟨⟨st.i + 1, st.toks, st.from_, true, st.out, st.diags⟩, vo, vd, vn, rfl, (show st.i + 1 ≤ n by omega), rfl, rfl, rfl, by go_num, ⟨hls.lines, hls.diags, hls.here, hls.below⟩, HS, Nat.le_succ_of_le hlt1, Nat.le_succ_of_le hlt2, Nat.le_succ_of_le hlt3⟩
    | false =>
      obtain ⟨⟨cj, co⟩, hcm⟩ : ∃ p, p = commentL (cs R) st.i := ⟨_, rfl⟩
      rw [← hcm] at HCM
      have hcl := commentL_len (A := cs R) (i := st.i) (by rw [cs_len, HN2.out]; exact hlt)
      rw [← hcm, cs_len, HN2.out] at hcl
      simp only at hcl HCM
      replace HCM := Hd HCM
      have hw0 : ¬ whiteB (chAt (cs R) st.i) = true := by rw [← hwb]; decide
      replace hw0 := Hd hw0
      replace hc10 := Hd hc10
      replace hcm := Hd hcm
      replace hr := Hd hr
      clear hx hca hwb
      go_wp2_with fail
      refine HW.out.mono ?_
      rintro e w' ⟨rfl, rfl⟩
      go_wp2_with fail
      refine HCM.out.mono ?_
      rintro e w' ⟨rfl, rfl⟩
      by_cases hcj : st.i < cj
      ·have hcji : (st.i : Int) < cj := by omega
       cases co with
       | false =>
         have HS : Hid (linesL s.data.toList = linesFrom R s.size ⟨cj, st.toks, st.from_, true, st.out, st.diags⟩) := Hd (hres.out.trans (hinl _ (by unfold lineStep; rw [if_neg hc10.out, if_neg hw0.out, ← hcm.out, if_pos hcj]; rfl)))
         clear hinl hc10 hres hr hat hrow hw0 hcm
         go_wp2_with fail
         go_roundg (n - cj)
         case measure => omega
         case rel => exact ⟨⟨cj, st.toks, st.from_, true, st.out, st.diags⟩, vo, vd, vn, rfl, (show cj ≤ n by omega), rfl, rfl, rfl, by go_num, ⟨hls.lines, hls.diags, hls.here, hls.below⟩, HS, Nat.le_trans hlt1 hcl.1, Nat.le_trans hlt2 hcl.1, Nat.le_trans hlt3 hcl.1⟩
       | true =>
         have hi1 : st.i + 1 < n := by have := com_open (A := cs R) (i := st.i) (by rw [← hcm.out]); rw [cs_len, HN2.out] at this; exact this
         obtain ⟨r2, hr2⟩ : ∃ r, R[st.i + 1]? = some r := ⟨R[st.i + 1]'(by rw [HN2.out]; exact hi1), by simp⟩
         have e2 := hat.cell (i := st.i + 1) (cs := r2.v) (by simp [hr2]) (j := 2) (u := .int .i64 r2.t) rfl
         have HS : Hid (linesL s.data.toList = (st.out ++ [⟨st.toks, st.from_, s.size, true⟩], st.diags ++ [⟨1, r.f, r2.t⟩])) := Hd (by
          rw [hres.out, linesFrom_inr (by rw [HN2.out]; exact hlt) (show lineStep R s.size st = .inr (st.out ++ [⟨st.toks, st.from_, s.size, true⟩], st.diags ++ [⟨1, r.f, r2.t⟩]) by
           unfold lineStep; rw [if_neg hc10.out, if_neg hw0.out, ← hcm.out, if_pos hcj, if_pos rfl, rF_atX hr.out, rT_atX hr2])])
         clear hinl hc10 hres hr hat hrow hw0 hcm hr2 HW HCM
         obtain ⟨⟨S, lcs, hS1, hS2, hn, ho, hlns⟩, hd, hh, hb⟩ := hls
         obtain ⟨nao, ncap, rfl, _, _, _, _⟩ := hn.rown (n := st.toks.length) (by simp)
         have hol := hlns.len
         have hlenD : (st.diags.map (dgC file)).length + 1 ≤ 1000000000 := by rw [List.length_map]; omega
         have hlenO : lcs.length + 1 ≤ 1000000000 := by rw [hol]; omega
         have hi1i : (st.i : Int) + 1 < n := by omega
         have hHw := lt_of_block hh
         have hdH : vd.ownBlock ≠ some w1.heap.size := by intro e; have := hd.ge _ e; omega
         have hwr : IntKind.i64.wrap ((st.i : Int) + 1) = (st.i : Int) + 1 := wrap_small (by omega)
         have h0i : (0 : Int) ≤ (st.i : Int) + 1 := by omega
         have htn : ((st.i : Int) + 1).toNat = st.i + 1 := by omega
         go_wp2_with fail
         go_region_law (refine step_append1 E78 rfl rfl (hd.drew.alloc _) rfl rfl (heap_alloc_new _ _) rfl (by simp [Value.oneCell']) hlenD (by decide) (by simp; omega) ?_; intro v5 w5 hown5 hg5'; have hg5 : (w'.drew.alloc (.cells [.int .i64 1, .string file, .int .i64 r.f, .int .i64 r2.t].toArray 78)).grownBy w5 vd.ownBlock := hg5'; have hh5 := app_kept hh hdH hg5; obtain ⟨q0, q1, q2, q3⟩ := line_cells hh5; have qf := fun j => Lib.frozen_of_heap hh5 j)
         all_goals
          have hoth := others_app (hd.drew.alloc (.cells [.int .i64 1, .string file, .int .i64 r.f, .int .i64 r2.t].toArray 78)) hg5
          have ho5 := own_kt0 (ho.drew.alloc (.cells [.int .i64 1, .string file, .int .i64 r.f, .int .i64 r2.t].toArray 78)) (by decide) hoth
          have ho6 := (ho5.setBelow (b := w1.heap.size) (j := 2) (Nat.lt_succ_self _) (.int .i64 s.size)).setBelow (b := w1.heap.size) (j := 3) (Nat.lt_succ_self _) (.bool true)
          have hbw5 : Below w.heap.size w w5 := bapp ((hb1.trans (hb.mono hb1.size)).drew.alloc (by have := hb1.size; have := hb.size; simp; omega) _) ((hd.drew.alloc _).mono (Nat.le_succ_of_le hb1.size)) hg5 (by have := hb1.size; have := hb.size; simp; omega)
          have hsz5 : w'.heap.size ≤ w5.heap.size := by have := hg5.size; simp at this; omega
          have hb6 : Below w.heap.size w ((w5.setCell ⟨w1.heap.size, 2, none⟩ (.int .i64 s.size)).setCell ⟨w1.heap.size, 3, none⟩ (.bool true)) := (hbw5.setCell (p := ⟨w1.heap.size, 2, none⟩) hb1.size _).setCell (p := ⟨w1.heap.size, 3, none⟩) hb1.size _
          have hsz6 : w1.heap.size + 1 ≤ ((w5.setCell ⟨w1.heap.size, 2, none⟩ (.int .i64 s.size)).setCell ⟨w1.heap.size, 3, none⟩ (.bool true)).heap.size := by simp [World.setCell]; omega
          go_wp2_with (at_builtin; go_must (refine wpList_append1 E90 rfl rfl ho6 rfl rfl (news := [.slice nao st.toks.length ncap, .int .i64 st.from_, .int .i64 s.size, .bool true]) (by simp [World.setCell]) rfl (by simp [Value.oneCell']) hlenO (by decide) hsz6 ?_); intro v7 w7 hown7 hg7)
          go_ret2
          have hh6 := setCell_eq_setRow w5 w1.heap.size 2 _ _ _ (.int .i64 s.size) hh5
          have hk : ∀ S', KeptTok S' w' w7 := fun S' => ((((KeptTok.fresh w' _).trans (KeptTok.others hoth (by decide) (by simp))).trans (KeptTok.setCell hh5 (by decide) 2 _)).trans (KeptTok.setCell (by rw [hh6]; exact setRow_heap _ _ _ _ _ _ hh5) (by decide) 3 _)).trans (KeptTok.others (others_app ho6 hg7) (by decide) (by simp))
          have hsz7 : w'.heap.size ≤ w7.heap.size := by have := hg7.size; simp [World.setCell] at this; omega
          have hw1 : w.heap.size ≤ w1.heap.size + 1 := Nat.le_succ_of_le hb1.size
          refine ⟨v7, v5, lcs ++ [[.slice nao st.toks.length ncap, .int .i64 st.from_, .int .i64 s.size, .bool true]], rfl, hown7.mono hw1, ?_, ?_, bapp hb6 (ho6.mono hw1) hg7 hb6.size⟩
          ·rw [HS.out]
           exact (((hlns.mono (Nat.le_trans hS2 hsz7)).kept (hk _)).snoc (((LnAt.of_own hn st.from_ s.size true).mono hsz7).kept (hk _)))
          ·rw [HS.out, List.map_append]
           exact (own_kt0 ((hown5.setBelow (b := w1.heap.size) (j := 2) (Nat.lt_succ_self _) (.int .i64 s.size)).setBelow (b := w1.heap.size) (j := 3) (Nat.lt_succ_self _) (.bool true)) (by decide) (others_app ho6 hg7)).mono hw1
      ·have hcje : cj = st.i := by omega
       obtain ⟨⟨nk, ne, nb⟩, hnx⟩ : ∃ p, p = nextL (cs R) st.i := ⟨_, rfl⟩
       have hNX := rnext_any R (some ⟨rb, ro, none⟩) cap st.i (by rw [HN2.out]; omega) (by rw [HN2.out]; exact hlt) w' hrow
       rw [← hnx, HN2.out] at hNX
       have hnl := nextL_len (A := cs R) (i := st.i) (by rw [cs_len, HN2.out]; exact hlt)
       rw [← hnx, cs_len, HN2.out] at hnl
       simp only at hnl hNX
       obtain ⟨E, rfl⟩ : ∃ E, ne = E + 1 := ⟨ne - 1, by omega⟩
       obtain ⟨r3, hr3⟩ : ∃ r, R[E]? = some r := ⟨R[E]'(by rw [HN2.out]; omega), by simp⟩
       have e3 := hat.cell (i := E) (cs := r3.v) (by simp [hr3]) (j := 2) (u := .int .i64 r3.t) rfl
       have HTK : Hid (tokAt R st = ⟨nk, ((cs R).drop st.i).take (E + 1 - st.i), st.space, r.f, r3.t⟩) := Hd (by
        unfold tokAt; rw [← hnx]; simp only [Nat.add_sub_cancel]; rw [rF_atX hr.out, rT_atX hr3])
       have HS : Hid (linesL s.data.toList = linesFrom R s.size ⟨E + 1, st.toks ++ [tokAt R st], st.from_, false, st.out, if nb then st.diags ++ [⟨2, r.f, r3.t⟩] else st.diags⟩) := Hd (hres.out.trans (hinl _ (by
        unfold lineStep; rw [if_neg hc10.out, if_neg hw0.out, ← hcm.out, if_neg hcj, ← hnx]; simp only [Nat.add_sub_cancel]; rw [rF_atX hr.out, rT_atX hr3])))
       replace hNX := Hd hNX
       clear hinl hc10 hres hw0 hcm hnx HW HCM hr3
       go_wp2_with fail
       refine hNX.out.mono ?_
       rintro e w5 ⟨rfl, hb5⟩
       have hls5 := hls.later hb5 (Nat.le_refl _)
       have c15 := kept_cell hb5 c1
       have e35 := kept_cell hb5 e3
       have hrow5 := hrow.below hb5
       clear hls c0 c1 c2 e3 hNX hat hb5 hrow
       have c15o := fun o => kept_cell ((Below.refl _ w5).alloc (Nat.le_refl _) o) c15
       have e35o := fun o => kept_cell ((Below.refl _ w5).alloc (Nat.le_refl _) o) e35
       have hEi : (0 : Int) ≤ (E : Int) := by omega
       have hEn : (E : Int) < n := by omega
       have hwr : IntKind.i64.wrap (E : Int) = (E : Int) := wrap_small (by omega)
       go_wp2_with fail
       go_region
       have hbs : Below w5.heap.size w5 (w5.alloc (.cells [.string file, .int .i64 r.f, .int .i64 r3.t].toArray 76)).drew := ((Below.refl _ w5).alloc (Nat.le_refl _) _).drew
       have hls6 := hls5.later hbs (Nat.le_refl _)
       have hrow6 := hrow5.below hbs
       have g0 : (w5.alloc (.cells [.string file, .int .i64 r.f, .int .i64 r3.t].toArray 76)).drew.cell? ⟨w5.heap.size, 0, none⟩ = some (.string file) := cell_new w5 _ _ rfl
       have g1 : (w5.alloc (.cells [.string file, .int .i64 r.f, .int .i64 r3.t].toArray 76)).drew.cell? ⟨w5.heap.size, 1, none⟩ = some (.int .i64 r.f) := cell_new w5 _ _ rfl
       have g2 : (w5.alloc (.cells [.string file, .int .i64 r.f, .int .i64 r3.t].toArray 76)).drew.cell? ⟨w5.heap.size, 2, none⟩ = some (.int .i64 r3.t) := cell_new w5 _ _ rfl
       have hHw5 : w1.heap.size < w5.heap.size := lt_of_block hls5.here
       have HSP : (w5.alloc (.cells [.string file, .int .i64 r.f, .int .i64 r3.t].toArray 76)).drew.heap[w5.heap.size]? = some (.cells #[.string file, .int .i64 r.f, .int .i64 r3.t] 76 (0,0)) := heap_alloc_new w5 _
       have hw56 : (w5.alloc (.cells [.string file, .int .i64 r.f, .int .i64 r3.t].toArray 76)).drew.heap.size = w5.heap.size + 1 := by simp
       replace hw56 := Hd hw56
       obtain ⟨w6, hw6⟩ : ∃ w6, w6 = (w5.alloc (.cells [.string file, .int .i64 r.f, .int .i64 r3.t].toArray 76)).drew := ⟨_, rfl⟩
       rw [← hw6] at hls6 hrow6 g0 g1 g2 hw56 HSP
       change Exit.then _ _ _ _ (w5.alloc (.cells [.string file, .int .i64 r.f, .int .i64 r3.t].toArray 76)).drew
       rw [← hw6]
       clear hw6 hbs hls5 hrow5 c15 e35 c15o e35o
       obtain ⟨⟨S, lcs, hS1, hS2, hn, ho, hlns⟩, hd, hh, hb⟩ := hls6
       obtain ⟨nao, ncap, rfl, _, _, _, _⟩ := hn.rown (n := st.toks.length) (by simp)
       obtain ⟨d0, d1, d2, d3⟩ := line_cells hh
       have hf := fun j => Lib.frozen_of_heap hh j
       have hEc : E + 1 ≤ cap := by omega
       have hiE : st.i ≤ E + 1 := by omega
       have hE0 : (0 : Int) ≤ (E : Int) + 1 := by omega
       have hEci : (E : Int) + 1 ≤ (cap : Int) := by omega
       have hci : ¬ cap = st.i := by omega
       have hneH : (Value.slice nao st.toks.length ncap).ownBlock ≠ some w1.heap.size := by intro e; have := hn.ge _ e; omega
       have hlenT : (st.toks.map (tkC file)).length + 1 ≤ 1000000000 := by rw [List.length_map]; omega
       have hTX : Hid (∀ w', Below w6.heap.size w6 w' → Calls Tryz.prog 90 #[.slice (some ⟨rb, ro + st.i * 3, none⟩) (E + 1 - st.i) (cap - st.i)] w' fun e w'' => e = .returned (.string ⟨(((cs R).drop st.i).take (E + 1 - st.i)).toArray⟩) ∧ Below w'.heap.size w' w'') := Hd (by
        intro w' hb'
        have := rtext_any ((R.drop st.i).take (E + 1 - st.i)) (some ⟨rb, ro + st.i * 3, none⟩) (E + 1 - st.i) (cap - st.i) (by rw [List.length_take, List.length_drop, HN2.out]; omega) (by omega) w' (fun _ => ⟨rb, ro + st.i * 3, rfl, by
         obtain ⟨rb', ro', e', hat'⟩ := (hrow6.below hb') hne
         simp at e'
         obtain ⟨rfl, rfl⟩ := e'
         have := hat'.sub st.i (E + 1 - st.i)
         rw [List.map_take, List.map_drop]
         exact this⟩)
        simpa [cs, List.map_take, List.map_drop] using this)
       have hsp6 : w6.heap[w5.heap.size]? = some (.cells #[.string file, .int .i64 r.f, .int .i64 r3.t] 76 (0,0)) := HSP
       go_upto_region 28 with fail
       go_cut [] from 113 to 125 (fun wx => ∃ v9, LsAt w1 wx w1.heap.size file ⟨E + 1, st.toks ++ [tokAt R st], st.from_, false, st.out, st.diags⟩ vo vd v9 ∧ wx.heap[w5.heap.size]? = some (.cells #[.string file, .int .i64 r.f, .int .i64 r3.t] 76 (0,0)))
       case first =>
        go_region_law (first
         | (refine step_append1 E160 rfl rfl ((hn.below hbt).alloc _) rfl rfl (heap_alloc_new _ _) rfl (by simp [Value.oneCell']) hlenT (by decide) (by have := hbt.size; simp; omega) ?_; intro v9 w9 hown9 hg9; have hh9 := tok_kept hh hbt hg9 hneH; obtain ⟨q0, q1, q2, q3⟩ := line_cells hh9; have qf := fun j => Lib.frozen_of_heap hh9 j; obtain ⟨ao9, cap9, rfl, _, _, _, _⟩ := hown9.rown (n := st.toks.length + 1) (by simp))
         | (go_simp; go_at_call 90; refine (hTX.out _ (Below.refl _ w6).drew).mono ?_; rintro e wt ⟨rfl, hbt0⟩; have hbt : Below w6.heap.size w6 wt := ((Below.refl _ w6).drew).trans hbt0; have d0t := kept_cell hbt d0; have g0t := kept_cell hbt g0; have g1t := kept_cell hbt g1; have g2t := kept_cell hbt g2; have d0a := fun o => kept_cell ((Below.refl _ wt).alloc (Nat.le_refl _) o) d0t))
        all_goals
         have hown9' : Own w9 S 160 8 (.slice ao9 (st.toks.length + 1) cap9) (st.toks.map (tkC file) ++ [tkC file (tokAt R st)]) := by rw [HTK.out]; exact hown9
         have hls10 := LsAt.token (tk := tokAt R st) (sp := false) (i := E + 1) (Nat.le_refl _) hS1 hS2 hn ho hlns hd hh hb hbt hown9' hg9
         have hsp9 := tok_kept hsp6 hbt hg9 (by
          intro e
          obtain ⟨x2, fz2, h2⟩ := hn.size_lt _ e
          rw [hsp6] at h2
          simp at h2)
         have hsp10 : (w9.setCell ⟨w1.heap.size, 0, none⟩ (.slice ao9 (st.toks.length + 1) cap9)).heap[w5.heap.size]? = _ := (Below.heap_setCell _ _ _ _ (show w5.heap.size ≠ w1.heap.size by omega)).trans hsp9
         go_wp2_with fail
         go_meet
         case rel => exact ⟨_, hls10, hsp10⟩
       case rest =>
        obtain ⟨v9, hls10, hsp10⟩ := hcut
        cases nb with
        | false =>
          go_wp2_with fail
          go_roundg (n - (E + 1))
          case measure => omega
          case rel => exact ⟨⟨E + 1, st.toks ++ [tokAt R st], st.from_, false, st.out, st.diags⟩, vo, vd, v9, rfl, (show E + 1 ≤ n by omega), rfl, rfl, rfl, by go_num, hls10, HS, by simp; omega, (show st.out.length ≤ E + 1 by omega), (show st.diags.length ≤ E + 1 by omega)⟩
        | true =>
          have hsz10 : w1.heap.size + 1 ≤ wc.heap.size := lt_of_block hls10.here
          have hlenD : (st.diags.map (dgC file)).length + 1 ≤ 1000000000 := by rw [List.length_map]; omega
          obtain ⟨s0, s1, s2⟩ := span_cells hsp10
          go_wp2_with (at_builtin; go_must (refine wpList_append1 E78 rfl rfl hls10.diags rfl rfl (news := [.int .i64 2, .string file, .int .i64 r.f, .int .i64 r3.t]) (by simp) rfl (by simp [Value.oneCell']) hlenD (by decide) hsz10 ?_); intro v11 w11 hown11 hg11)
          have hls11 := hls10.diag (d := ⟨2, r.f, r3.t⟩) hown11 hg11
          go_roundg (n - (E + 1))
          case measure => omega
          case rel => exact ⟨⟨E + 1, st.toks ++ [tokAt R st], st.from_, false, st.out, st.diags ++ [⟨2, r.f, r3.t⟩]⟩, vo, v11, v9, rfl, (show E + 1 ≤ n by omega), rfl, rfl, rfl, by go_num, hls11, HS, by simp; omega, (show st.out.length ≤ E + 1 by omega), by simp; omega⟩
  ·have hres2 : Hid (linesL s.data.toList = (finL s.size st.out, st.diags)) := Hd (hres.out.trans (linesFrom_end (by rw [HN2.out]; exact hlt)))
   clear hres
   obtain ⟨⟨S, lcs, hS1, hS2, hn, ho, hlns⟩, hd, hh, hb⟩ := hls
   have hbw : Below w.heap.size w wr := hb1.trans (hb.mono hb1.size)
   have hw1 : w.heap.size ≤ w1.heap.size + 1 := Nat.le_succ_of_le hb1.size
   have hol := hlns.len
   obtain ⟨oao, ocap, rfl, hoc, _, horow, _⟩ := ho.rown (n := st.out.length) (by rw [hol])
   by_cases ho0 : st.out = []
   ·have hfin : finL s.size st.out = [] := by rw [ho0]; rfl
    have hl0 : lcs = [] := by rw [ho0] at hol; exact List.eq_nil_of_length_eq_zero hol
    have hz : st.out.length = 0 := by rw [ho0]; rfl
    rw [hz] at ho ⊢
    replace hres2 := Hd (show linesL s.data.toList = ([], st.diags) by rw [hres2.out, hfin])
    clear hfin hz horow hoc
    go_wp2
    go_ret2
    refine ⟨_, vd, [], rfl, hl0 ▸ ho.mono hw1, ?_, ?_, hbw⟩
    ·rw [hres2.out]; exact .nil
    ·rw [hres2.out]; exact hd.mono hw1
   ·obtain ⟨M, hM⟩ : ∃ M, st.out.length = M + 1 := ⟨st.out.length - 1, by cases h : st.out with | nil => exact (ho0 h).elim | cons => simp⟩
    rw [hM] at ho hoc ⊢
    have hoa : oao ≠ none := by
     intro e
     subst e
     rcases ho.1.2 with ⟨h1, _⟩ | ⟨g, cap', cur, h1, _⟩
     ·simp at h1
     ·simp at h1
    obtain ⟨⟨g, go, gs⟩, rfl⟩ := Option.ne_none_iff_exists'.1 hoa
    obtain ⟨rfl, rfl⟩ : go = 0 ∧ gs = none := by
     rcases ho.1.2 with ⟨h1, _⟩ | ⟨g', cap', cur, h1, _⟩
     ·simp at h1
     ·simp at h1; exact ⟨h1.1.2.1, h1.1.2.2⟩
    obtain ⟨old, lcs', hc, hfr, ho', hl', hBg⟩ := lines_last ho hlns hM s.size
    obtain ⟨y, fz, hy⟩ := ho.size_lt g rfl
    have hd' : Own (wr.setCell ⟨g, M * 4 + 2, none⟩ (.int .i64 s.size)) (w1.heap.size + 1) 78 4 vd (st.diags.map (dgC file)) := ⟨ownsRow_setCell_other hd.1 (by
     intro e
     obtain ⟨y2, fz2, hy2⟩ := hd.size_lt g e
     rw [hy] at hy2
     simp at hy2) _, hd.2⟩
    have hbw' := hbw.setCell (p := ⟨g, M * 4 + 2, none⟩) (by simp; omega) (.int .i64 s.size)
    have hM5 : M ≤ 1000001 := by omega
    clear hn hh horow hlns ho0 hol hd
    replace hM := Hd hM
    go_wp2
    go_ret2
    refine ⟨_, vd, lcs', rfl, ho'.mono hw1, ?_, ?_, hbw'⟩
    ·rw [hres2.out]; exact hl'.mono (by simp [World.setCell]; omega)
    ·rw [hres2.out]; exact hd'.mono hw1
end Go.Proofs.YtllbbacnakoomaaGreatDoor
