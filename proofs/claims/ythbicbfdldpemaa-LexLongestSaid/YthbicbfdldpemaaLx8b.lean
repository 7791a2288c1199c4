/- oxbowref4's Lines: the last line. -/
import Derived.Test.YthbicbfdldpemaaLx8
import Derived.Test.YthbicbfdldpemaaBase2
namespace Go.Proofs.Ythbicbfdldpemaa
open Go.RowKit
set_option linter.unusedVariables false

theorem LnsAt.unsnoc {w : World} {S : Nat} {file : ByteArray} : ∀ {ls : List Ln} {l : Ln} {css : List (List Value)}, LnsAt w S file (ls ++ [l]) css → ∃ cs' c, css = cs' ++ [c] ∧ LnsAt w S file ls cs' ∧ LnAt w S file l c := by
  intro ls
  induction ls with
  | nil =>
    intro l css h
    cases h with
    | cons h r => cases r; exact ⟨[], _, rfl, .nil, h⟩
  | cons a ls ih =>
    intro l css h
    cases h with
    | cons h r =>
      obtain ⟨cs', c, rfl, h1, h2⟩ := ih r
      exact ⟨_ :: cs', c, rfl, .cons h h1, h2⟩

theorem finL_snoc (m : Nat) (ls : List Ln) (l : Ln) : finL m (ls ++ [l]) = ls ++ [⟨l.toks, l.f, m, l.op⟩] := by
  induction ls with
  | nil => rfl
  | cons a ls ih =>
    cases ls with
    | nil => rfl
    | cons b ls => simp only [List.cons_append, finL] at ih ⊢; rw [ih]

theorem lines_last {w : World} {B S g cap M : Nat} {file : ByteArray} {ls : List Ln} {lcs : List (List Value)} (ho : Own w B 86 4 (.slice (some ⟨g, 0, none⟩) (M + 1) cap) lcs) (hl : LnsAt w S file ls lcs) (hM : ls.length = M + 1) (m : Nat) :
    ∃ old lcs', w.cell? ⟨g, M * 4 + 2, none⟩ = some old ∧ w.frozen? ⟨g, M * 4 + 2, none⟩ = false ∧ Own (w.setCell ⟨g, M * 4 + 2, none⟩ (.int .i64 m)) B 86 4 (.slice (some ⟨g, 0, none⟩) (M + 1) cap) lcs' ∧ LnsAt (w.setCell ⟨g, M * 4 + 2, none⟩ (.int .i64 m)) S file (finL m ls) lcs' ∧ B ≤ g := by
  obtain ⟨ls', l, rfl⟩ : ∃ ls' l, ls = ls' ++ [l] := ⟨ls.dropLast, ls.getLast (by intro h; rw [h] at hM; simp at hM), (List.dropLast_concat_getLast _).symm⟩
  obtain ⟨cs', c, rfl, h1, h2⟩ := hl.unsnoc
  have hcl : cs'.length = M := by rw [h1.len]; simpa using hM
  obtain ⟨ao, k, rfl, hk, hrow⟩ := h2
  have hlen : (cs' ++ [[Value.slice ao l.toks.length k, .int .i64 l.f, .int .i64 l.t, .bool l.op]]).length = M + 1 := by simp [hcl]
  have ho1 := ho.1
  rw [hlen] at ho1
  have hfl : cs'.flatten.length = M * 4 := by rw [flatten_len (sz := 4) (fun c hc => ho.2 c (by simp [hc])), hcl]
  have hb := ho.ge g rfl
  obtain ⟨y, fz, hy⟩ := ho.size_lt g rfl
  have hkt : ∀ S', KeptTok S' w (w.setCell ⟨g, M * 4 + 2, none⟩ (.int .i64 m)) := fun S' => KeptTok.setCell hy (by decide) _ _
  refine ⟨.int .i64 l.t, cs' ++ [[.slice ao l.toks.length k, .int .i64 l.f, .int .i64 m, .bool l.op]], ?_, ho1.frozenAt _, ⟨?_, ?_⟩, ?_, hb⟩
  · rw [ho1.cellAt _ (by omega), List.flatten_append, List.getElem?_append_right (by omega), hfl]
    simp
  · have := (ho1.stored (M * 4 + 2) (.int .i64 m)).1
    rw [List.flatten_append, List.set_append_right _ _ (by omega), hfl] at this
    rw [show (cs' ++ [[Value.slice ao l.toks.length k, .int .i64 l.f, .int .i64 m, .bool l.op]]).length = M + 1 by simp [hcl], List.flatten_append]
    simpa using this
  · intro c hc
    rcases List.mem_append.1 hc with hc | hc
    · exact ho.2 c (by simp [hc])
    · simp at hc; subst hc; rfl
  · rw [finL_snoc]
    exact (h1.kept (hkt _)).snoc (LnAt.kept (ln := ⟨l.toks, l.f, m, l.op⟩) ⟨ao, k, rfl, hk, hrow⟩ (hkt _))

theorem KeptTok.fresh {S : Nat} (w : World) (o : Obj) : KeptTok S w (w.drew.alloc o) := by
  intro i _ x fz hx
  exact (Lib.alloc_old w.drew o i (Array.getElem?_eq_some_iff.1 hx).1).trans hx

theorem app_kept {w w2 : World} {c : Nat} {o o1 : Obj} {r : Option Nat} (h : w.heap[c]? = some o1) (hne : r ≠ some c) (hg : (w.drew.alloc o).grownBy w2 r) : w2.heap[c]? = some o1 := by
  have hlt : c < w.heap.size := lt_of_block h
  rw [hg.block c (by simp; exact Nat.lt_succ_of_lt hlt) (fun e => hne e.symm)]
  exact (Lib.alloc_old w.drew o c hlt).trans h

theorem LsAt.later {w0 w w' : World} {H : Nat} {file : ByteArray} {s : LS} {vo vd vn : Value} (h : LsAt w0 w H file s vo vd vn) (hb : Below w.heap.size w w') (hH : H ≤ w0.heap.size) : LsAt w0 w' H file s vo vd vn := by
  obtain ⟨⟨S, lcs, h1, h2, h3, h4, h5⟩, h6, h7, h8⟩ := h
  exact ⟨⟨S, lcs, h1, Nat.le_trans h2 hb.size, h3.below hb, h4.below hb, h5.kept (KeptTok.below (hb.mono h2))⟩, h6.below hb, (hb.block _ (lt_of_block h7)).trans h7, h8.trans (hb.mono (Nat.le_trans hH h8.size))⟩

theorem RowAt.sub {w : World} {sz b o : Nat} {css : List (List Value)} (h : RowAt w sz b o css) (i n : Nat) : RowAt w sz b (o + i * sz) ((css.drop i).take n) := by
  intro k cs hk j u hj
  have hk2 : css[i + k]? = some cs := by
    rw [List.getElem?_take] at hk
    split at hk
    · rw [List.getElem?_drop] at hk; exact hk
    · cases hk
  have := h (i + k) cs hk2 j u hj
  rw [show o + i * sz + k * sz + j = o + (i + k) * sz + j by rw [Nat.add_mul]; omega]
  exact this

theorem tok_kept {w wt w9 : World} {c : Nat} {o o1 : Obj} {r : Option Nat} (h : w.heap[c]? = some o1) (hbt : Below w.heap.size w wt) (hg : (wt.alloc o).grownBy w9 r) (hne : r ≠ some c) : w9.heap[c]? = some o1 := by
  have h1 := (hbt.block c (lt_of_block h)).trans h
  have hlt : c < wt.heap.size := lt_of_block h1
  rw [hg.block c (by simp; omega) (fun e => hne e.symm)]
  exact (Lib.alloc_old wt o c hlt).trans h1

/-- behind a token's append and the store of its value: all that lies in memory -/
theorem LsAt.token {w0 w wt w9 : World} {H : Nat} {file : ByteArray} {s : LS} {vo vd vn v9 : Value} {tk : Tk} {S : Nat} {lcs : List (List Value)} {o : Obj} {sp : Bool} {i : Nat} (hH : H ≤ w0.heap.size) (hS1 : H + 1 ≤ S) (hS2 : S ≤ w.heap.size) (hn : Own w S 43 8 vn (s.toks.map (tkC file))) (ho : Own w (H + 1) 86 4 vo lcs) (hl : LnsAt w S file s.out lcs) (hd : Own w (H + 1) 38 4 vd (s.diags.map (dgC file)))
    (hh : w.heap[H]? = some (.cells #[vn, .int .i64 s.from_, .int .i64 0, .bool false] 86 (0, 0))) (hb : Below H w0 w) (hbt : Below w.heap.size w wt) (h9 : Own w9 S 43 8 v9 (s.toks.map (tkC file) ++ [tkC file tk])) (hg : (wt.alloc o).grownBy w9 vn.ownBlock) :
    LsAt w0 (w9.setCell ⟨H, 0, none⟩ v9) H file ⟨i, s.toks ++ [tk], s.from_, sp, s.out, s.diags⟩ vo vd v9 := by
  have hne : vn.ownBlock ≠ some H := by intro e; have := hn.ge _ e; omega
  have hh9 := tok_kept hh hbt hg hne
  have hoth := others_app ((hn.below hbt).alloc o) hg
  have hsz : w.heap.size ≤ w9.heap.size := by have := hg.size; have := hbt.size; simp at *; omega
  have hs9 := setCell_eq_setRow w9 H 0 _ _ _ v9 hh9
  have hk : KeptTok S w w9 := by
    intro b hbS x fz hx
    exact tok_kept hx hbt hg (by intro e; have := hn.ge _ e; omega)
  refine ⟨⟨S, lcs, hS1, by simp [World.setCell]; omega, ?_, (own_kt0 ((ho.below hbt).alloc o) (by decide) hoth).setBelow (Nat.lt_succ_self _) _, (hl.kept hk).kept (KeptTok.setCell hh9 (by decide) _ _)⟩, (own_kt0 ((hd.below hbt).alloc o) (by decide) hoth).setBelow (Nat.lt_succ_self _) _, ?_, ?_⟩
  · rw [List.map_append]
    exact h9.setBelow (by omega) _
  · rw [hs9]
    exact setRow_heap _ _ _ _ _ _ hh9
  · exact (bapp ((hb.trans (hbt.mono (by have := hb.size; omega))).alloc (by have := hb.size; have := hbt.size; omega) _) (((hn.below hbt).alloc o).mono (by omega)) hg (by have := hb.size; have := hbt.size; simp; omega)).setCell (p := ⟨H, 0, none⟩) (Nat.le_refl _) _

theorem wrap_small {x : Int} (h : 0 ≤ x ∧ x ≤ 1000000000) : IntKind.i64.wrap x = x := by
  rw [IntKind.wrap_i64]
  omega

theorem com_open {A : List UInt8} {i : Nat} (h : (commentL A i).2 = true) : i + 1 < A.length := by
  unfold commentL at h
  split at h
  · cases h
  · split at h
    · cases h
    · split at h
      · cases h
      · rename_i h42
        rcases Nat.lt_or_ge (i + 1) A.length with h1 | h1
        · exact h1
        · rw [chAt_ge h1] at h42
          exact absurd (by decide) h42
end Go.Proofs.Ythbicbfdldpemaa
