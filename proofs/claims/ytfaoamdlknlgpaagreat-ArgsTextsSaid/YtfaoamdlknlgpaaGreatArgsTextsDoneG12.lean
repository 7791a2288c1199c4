/- Texts of this seat's proofs, laid into one file. -/
import Derived.Test.YtfaoamdlknlgpaaGreatArgsTextsDoneG8
import Derived.Deep.AppendLies
import Derived.Deep.RegionLaw
import Derived.Test.YtfaoamdlknlgpaaGreatArgsTextsDoneG10
import Derived.Deep.LoopGhost
/- oxbowref4's Lines: how lines lie in memory. -/
namespace Go.Proofs.YtfaoamdlknlgpaaGreat
open Go.RowKit
set_option linter.unusedVariables false

def tkC (file : ByteArray) (t : Tk) : List Value := [.int .i64 t.kind, .string ⟨t.text.toArray⟩, .bool t.space, .string file, .int .i64 t.f, .int .i64 t.t, .bool false, .slice none 0 0]
def dgC (file : ByteArray) (d : Dg) : List Value := [.int .i64 d.code, .string file, .int .i64 d.f, .int .i64 d.t]

theorem E34 : EI Tryz.prog 22 34 (.agg #[.int .i64 0, .string ⟨#[]⟩, .bool false, .string ⟨#[]⟩, .int .i64 0, .int .i64 0, .bool false, .slice none 0 0]) 8 96 := ⟨Tryz.underlying22, by kernel_rfl, rfl, by decide⟩
theorem E68 : EI Tryz.prog 60 68 (.agg #[.int .i64 0, .string ⟨#[]⟩, .int .i64 0, .int .i64 0]) 4 40 := ⟨Tryz.underlying60, by kernel_rfl, rfl, by decide⟩
theorem E101 : EI Tryz.prog 97 101 (.agg #[.slice none 0 0, .int .i64 0, .int .i64 0, .bool false]) 4 48 := ⟨Tryz.underlying97, by kernel_rfl, rfl, by decide⟩

/-- a line's cells; its tokens lie in a row of tokens below S -/
def LnAt (w : World) (S : Nat) (file : ByteArray) (ln : Ln) (c : List Value) : Prop :=
  ∃ ao cap, c = [.slice ao ln.toks.length cap, .int .i64 ln.f, .int .i64 ln.t, .bool ln.op] ∧ ln.toks.length ≤ cap ∧ (ln.toks ≠ [] → ∃ b o x fz, ao = some ⟨b, o, none⟩ ∧ b < S ∧ w.heap[b]? = some (.cells x 34 fz) ∧ RowAt w 8 b o (ln.toks.map (tkC file)))

inductive LnsAt (w : World) (S : Nat) (file : ByteArray) : List Ln → List (List Value) → Prop
  | nil : LnsAt w S file [] []
  | cons {l : Ln} {c : List Value} {ls : List Ln} {css : List (List Value)} (h : LnAt w S file l c) (r : LnsAt w S file ls css) : LnsAt w S file (l :: ls) (c :: css)

def KeptTok (S : Nat) (w w' : World) : Prop := ∀ b, b < S → ∀ x fz, w.heap[b]? = some (.cells x 34 fz) → w'.heap[b]? = some (.cells x 34 fz)

theorem KeptTok.trans {S : Nat} {a b c : World} (h : KeptTok S a b) (k : KeptTok S b c) : KeptTok S a c := fun i hi x fz hx => k i hi x fz (h i hi x fz hx)
theorem KeptTok.below {S : Nat} {w w' : World} (h : Below S w w') : KeptTok S w w' := fun i hi x fz hx => (h.block i hi).trans hx
theorem KeptTok.others {S : Nat} {e : TypeId} {c : Option Nat} {w w' : World} (h : Lib.OthersKept e c w w') (he : e ≠ 34) (hc : ∀ b, c = some b → ∀ x fz, w.heap[b]? ≠ some (.cells x 34 fz)) : KeptTok S w w' := by
  intro i hi x fz hx
  refine h i _ hx ?_ ?_
  · intro e1
    exact hc i e1.symm x fz hx
  · intro y fz' e1
    injection e1 with _ e2 _
    exact he e2.symm
theorem KeptTok.setCell {S b : Nat} {w : World} {y : Array Value} {e : TypeId} {fz : Nat × Nat} (h : w.heap[b]? = some (.cells y e fz)) (he : e ≠ 34) (j : Nat) (u : Value) : KeptTok S w (w.setCell ⟨b, j, none⟩ u) := by
  intro i hi x fz' hx
  rw [Below.heap_setCell]
  · exact hx
  · rintro rfl
    rw [h] at hx
    simp at hx
    exact he hx.2.1
theorem KeptTok.setRow {S b : Nat} {w : World} {y : Array Value} {e : TypeId} {fz : Nat × Nat} (h : w.heap[b]? = some (.cells y e fz)) (he : e ≠ 34) (cs : Array Value) : KeptTok S w (w.setRow b cs) := by
  intro i hi x fz' hx
  rw [setRow_other]
  · exact hx
  · rintro rfl
    rw [h] at hx
    simp at hx
    exact he hx.2.1

theorem LnAt.kept {w w' : World} {S : Nat} {file : ByteArray} {ln : Ln} {c : List Value} (h : LnAt w S file ln c) (k : KeptTok S w w') : LnAt w' S file ln c := by
  obtain ⟨ao, cap, rfl, h1, h2⟩ := h
  refine ⟨ao, cap, rfl, h1, fun hne => ?_⟩
  obtain ⟨b, o, x, fz, rfl, hb, hx, hr⟩ := h2 hne
  have hx' := k b hb x fz hx
  refine ⟨b, o, x, fz, rfl, hb, hx', fun i cs hi j u hj => ?_⟩
  exact (World.cell?_of_block (a := ⟨b, o + i * 8 + j, none⟩) (hx'.trans hx.symm)).trans (hr i cs hi j u hj)

theorem LnAt.mono {w : World} {S S' : Nat} {file : ByteArray} {ln : Ln} {c : List Value} (h : LnAt w S file ln c) (k : S ≤ S') : LnAt w S' file ln c := by
  obtain ⟨ao, cap, rfl, h1, h2⟩ := h
  refine ⟨ao, cap, rfl, h1, fun hne => ?_⟩
  obtain ⟨b, o, x, fz, e, hb, hx, hr⟩ := h2 hne
  exact ⟨b, o, x, fz, e, Nat.lt_of_lt_of_le hb k, hx, hr⟩

theorem LnsAt.kept {w w' : World} {S : Nat} {file : ByteArray} {ls : List Ln} {css : List (List Value)} (h : LnsAt w S file ls css) (k : KeptTok S w w') : LnsAt w' S file ls css := by
  induction h with
  | nil => exact .nil
  | cons h _ ih => exact .cons (h.kept k) ih

theorem LnsAt.mono {w : World} {S S' : Nat} {file : ByteArray} {ls : List Ln} {css : List (List Value)} (h : LnsAt w S file ls css) (k : S ≤ S') : LnsAt w S' file ls css := by
  induction h with
  | nil => exact .nil
  | cons h _ ih => exact .cons (h.mono k) ih

theorem LnsAt.snoc {w : World} {S : Nat} {file : ByteArray} {ls : List Ln} {css : List (List Value)} (h : LnsAt w S file ls css) {l : Ln} {c : List Value} (hl : LnAt w S file l c) : LnsAt w S file (ls ++ [l]) (css ++ [c]) := by
  induction h with
  | nil => exact .cons hl .nil
  | cons h _ ih => exact .cons h ih

theorem LnsAt.len {w : World} {S : Nat} {file : ByteArray} {ls : List Ln} {css : List (List Value)} (h : LnsAt w S file ls css) : css.length = ls.length := by
  induction h with
  | nil => rfl
  | cons _ _ ih => simp [ih]

/-- the line that is being read, as a finished one -/
theorem LnAt.of_own {w : World} {B : Nat} {file : ByteArray} {v : Value} {toks : List Tk} (h : Own w B 34 8 v (toks.map (tkC file))) (f t : Nat) (op : Bool) : LnAt w w.heap.size file ⟨toks, f, t, op⟩ [v, .int .i64 f, .int .i64 t, .bool op] := by
  obtain ⟨ao, cap, rfl, h1, _, hrow, _⟩ := h.rown (n := toks.length) (by simp)
  refine ⟨ao, cap, rfl, h1, fun hne => ?_⟩
  obtain ⟨b, o, rfl, hat⟩ := hrow (by simpa using hne)
  obtain ⟨x, fz, hx⟩ : ∃ x fz, w.heap[b]? = some (.cells x 34 fz) := by
    rcases h.1.2 with ⟨hv, _⟩ | ⟨g, cap', cur, hv, _, hg, _⟩
    · simp at hv
    · simp only [Value.slice.injEq, Option.some.injEq] at hv
      obtain ⟨hv1, _⟩ := hv
      simp only [Addr.mk.injEq] at hv1
      rw [hv1.1]
      exact ⟨_, _, hg⟩
  exact ⟨b, o, x, fz, rfl, (Array.getElem?_eq_some_iff.1 hx).1, hx, hat⟩

/-- what lies in memory while lines are read: the line that is being read in block H -/
structure LsAt (w0 w : World) (H : Nat) (file : ByteArray) (s : LS) (vo vd vn : Value) : Prop where
  lines : ∃ S lcs, H + 1 ≤ S ∧ S ≤ w.heap.size ∧ Own w S 34 8 vn (s.toks.map (tkC file)) ∧ Own w (H + 1) 101 4 vo lcs ∧ LnsAt w S file s.out lcs
  diags : Own w (H + 1) 68 4 vd (s.diags.map (dgC file))
  here : w.heap[H]? = some (.cells #[vn, .int .i64 s.from_, .int .i64 0, .bool false] 101 (0, 0))
  below : Below H w0 w
end Go.Proofs.YtfaoamdlknlgpaaGreat

/- oxbowref4's Lines: the last line. -/
namespace Go.Proofs.YtfaoamdlknlgpaaGreat
open Go.RowKit
set_option linter.unusedVariables false

theorem LnsAt.unsnoc {w : World} {S : Nat} {file : ByteArray} : ∀ {ls : List Ln} {l : Ln} {css : List (List Value)}, LnsAt w S file (ls ++ [l]) css → ∃ cs' c, css = cs' ++ [c] ∧ LnsAt w S file ls cs' ∧ LnAt w S file l c := by
  intro ls
  induction ls with
  | nil =>
    intro l css h
    cases h with
    | cons h r => cases r; exact ⟨[], _, rfl, .nil, h⟩
  | cons a ls ih =>
    intro l css h
    cases h with
    | cons h r =>
      obtain ⟨cs', c, rfl, h1, h2⟩ := ih r
      exact ⟨_ :: cs', c, rfl, .cons h h1, h2⟩

theorem finL_snoc (m : Nat) (ls : List Ln) (l : Ln) : finL m (ls ++ [l]) = ls ++ [⟨l.toks, l.f, m, l.op⟩] := by
  induction ls with
  | nil => rfl
  | cons a ls ih =>
    cases ls with
    | nil => rfl
    | cons b ls => simp only [List.cons_append, finL] at ih ⊢; rw [ih]

theorem lines_last {w : World} {B S g cap M : Nat} {file : ByteArray} {ls : List Ln} {lcs : List (List Value)} (ho : Own w B 101 4 (.slice (some ⟨g, 0, none⟩) (M + 1) cap) lcs) (hl : LnsAt w S file ls lcs) (hM : ls.length = M + 1) (m : Nat) :
    ∃ old lcs', w.cell? ⟨g, M * 4 + 2, none⟩ = some old ∧ w.frozen? ⟨g, M * 4 + 2, none⟩ = false ∧ Own (w.setCell ⟨g, M * 4 + 2, none⟩ (.int .i64 m)) B 101 4 (.slice (some ⟨g, 0, none⟩) (M + 1) cap) lcs' ∧ LnsAt (w.setCell ⟨g, M * 4 + 2, none⟩ (.int .i64 m)) S file (finL m ls) lcs' ∧ B ≤ g := by
  obtain ⟨ls', l, rfl⟩ : ∃ ls' l, ls = ls' ++ [l] := ⟨ls.dropLast, ls.getLast (by intro h; rw [h] at hM; simp at hM), (List.dropLast_concat_getLast _).symm⟩
  obtain ⟨cs', c, rfl, h1, h2⟩ := hl.unsnoc
  have hcl : cs'.length = M := by rw [h1.len]; simpa using hM
  obtain ⟨ao, k, rfl, hk, hrow⟩ := h2
  have hlen : (cs' ++ [[Value.slice ao l.toks.length k, .int .i64 l.f, .int .i64 l.t, .bool l.op]]).length = M + 1 := by simp [hcl]
  have ho1 := ho.1
  rw [hlen] at ho1
  have hfl : cs'.flatten.length = M * 4 := by rw [flatten_len (sz := 4) (fun c hc => ho.2 c (by simp [hc])), hcl]
  have hb := ho.ge g rfl
  obtain ⟨y, fz, hy⟩ := ho.size_lt g rfl
  have hkt : ∀ S', KeptTok S' w (w.setCell ⟨g, M * 4 + 2, none⟩ (.int .i64 m)) := fun S' => KeptTok.setCell hy (by decide) _ _
  refine ⟨.int .i64 l.t, cs' ++ [[.slice ao l.toks.length k, .int .i64 l.f, .int .i64 m, .bool l.op]], ?_, ho1.frozenAt _, ⟨?_, ?_⟩, ?_, hb⟩
  · rw [ho1.cellAt _ (by omega), List.flatten_append, List.getElem?_append_right (by omega), hfl]
    simp
  · have := (ho1.stored (M * 4 + 2) (.int .i64 m)).1
    rw [List.flatten_append, List.set_append_right _ _ (by omega), hfl] at this
    rw [show (cs' ++ [[Value.slice ao l.toks.length k, .int .i64 l.f, .int .i64 m, .bool l.op]]).length = M + 1 by simp [hcl], List.flatten_append]
    simpa using this
  · intro c hc
    rcases List.mem_append.1 hc with hc | hc
    · exact ho.2 c (by simp [hc])
    · simp at hc; subst hc; rfl
  · rw [finL_snoc]
    exact (h1.kept (hkt _)).snoc (LnAt.kept (ln := ⟨l.toks, l.f, m, l.op⟩) ⟨ao, k, rfl, hk, hrow⟩ (hkt _))

theorem KeptTok.fresh {S : Nat} (w : World) (o : Obj) : KeptTok S w (w.drew.alloc o) := by
  intro i _ x fz hx
  exact (Lib.alloc_old w.drew o i (Array.getElem?_eq_some_iff.1 hx).1).trans hx

theorem app_kept {w w2 : World} {c : Nat} {o o1 : Obj} {r : Option Nat} (h : w.heap[c]? = some o1) (hne : r ≠ some c) (hg : (w.drew.alloc o).grownBy w2 r) : w2.heap[c]? = some o1 := by
  have hlt : c < w.heap.size := lt_of_block h
  rw [hg.block c (by simp; exact Nat.lt_succ_of_lt hlt) (fun e => hne e.symm)]
  exact (Lib.alloc_old w.drew o c hlt).trans h

theorem LsAt.later {w0 w w' : World} {H : Nat} {file : ByteArray} {s : LS} {vo vd vn : Value} (h : LsAt w0 w H file s vo vd vn) (hb : Below w.heap.size w w') (hH : H ≤ w0.heap.size) : LsAt w0 w' H file s vo vd vn := by
  obtain ⟨⟨S, lcs, h1, h2, h3, h4, h5⟩, h6, h7, h8⟩ := h
  exact ⟨⟨S, lcs, h1, Nat.le_trans h2 hb.size, h3.below hb, h4.below hb, h5.kept (KeptTok.below (hb.mono h2))⟩, h6.below hb, (hb.block _ (lt_of_block h7)).trans h7, h8.trans (hb.mono (Nat.le_trans hH h8.size))⟩

theorem RowAt.sub {w : World} {sz b o : Nat} {css : List (List Value)} (h : RowAt w sz b o css) (i n : Nat) : RowAt w sz b (o + i * sz) ((css.drop i).take n) := by
  intro k cs hk j u hj
  have hk2 : css[i + k]? = some cs := by
    rw [List.getElem?_take] at hk
    split at hk
    · rw [List.getElem?_drop] at hk; exact hk
    · cases hk
  have := h (i + k) cs hk2 j u hj
  rw [show o + i * sz + k * sz + j = o + (i + k) * sz + j by rw [Nat.add_mul]; omega]
  exact this

theorem tok_kept {w wt w9 : World} {c : Nat} {o o1 : Obj} {r : Option Nat} (h : w.heap[c]? = some o1) (hbt : Below w.heap.size w wt) (hg : (wt.alloc o).grownBy w9 r) (hne : r ≠ some c) : w9.heap[c]? = some o1 := by
  have h1 := (hbt.block c (lt_of_block h)).trans h
  have hlt : c < wt.heap.size := lt_of_block h1
  rw [hg.block c (by simp; omega) (fun e => hne e.symm)]
  exact (Lib.alloc_old wt o c hlt).trans h1

/-- behind a token's append and the store of its value: all that lies in memory -/
theorem LsAt.token {w0 w wt w9 : World} {H : Nat} {file : ByteArray} {s : LS} {vo vd vn v9 : Value} {tk : Tk} {S : Nat} {lcs : List (List Value)} {o : Obj} {sp : Bool} {i : Nat} (hH : H ≤ w0.heap.size) (hS1 : H + 1 ≤ S) (hS2 : S ≤ w.heap.size) (hn : Own w S 34 8 vn (s.toks.map (tkC file))) (ho : Own w (H + 1) 101 4 vo lcs) (hl : LnsAt w S file s.out lcs) (hd : Own w (H + 1) 68 4 vd (s.diags.map (dgC file)))
    (hh : w.heap[H]? = some (.cells #[vn, .int .i64 s.from_, .int .i64 0, .bool false] 101 (0, 0))) (hb : Below H w0 w) (hbt : Below w.heap.size w wt) (h9 : Own w9 S 34 8 v9 (s.toks.map (tkC file) ++ [tkC file tk])) (hg : (wt.alloc o).grownBy w9 vn.ownBlock) :
    LsAt w0 (w9.setCell ⟨H, 0, none⟩ v9) H file ⟨i, s.toks ++ [tk], s.from_, sp, s.out, s.diags⟩ vo vd v9 := by
  have hne : vn.ownBlock ≠ some H := by intro e; have := hn.ge _ e; omega
  have hh9 := tok_kept hh hbt hg hne
  have hoth := others_app ((hn.below hbt).alloc o) hg
  have hsz : w.heap.size ≤ w9.heap.size := by have := hg.size; have := hbt.size; simp at *; omega
  have hs9 := setCell_eq_setRow w9 H 0 _ _ _ v9 hh9
  have hk : KeptTok S w w9 := by
    intro b hbS x fz hx
    exact tok_kept hx hbt hg (by intro e; have := hn.ge _ e; omega)
  refine ⟨⟨S, lcs, hS1, by simp [World.setCell]; omega, ?_, (own_kt0 ((ho.below hbt).alloc o) (by decide) hoth).setBelow (Nat.lt_succ_self _) _, (hl.kept hk).kept (KeptTok.setCell hh9 (by decide) _ _)⟩, (own_kt0 ((hd.below hbt).alloc o) (by decide) hoth).setBelow (Nat.lt_succ_self _) _, ?_, ?_⟩
  · rw [List.map_append]
    exact h9.setBelow (by omega) _
  · rw [hs9]
    exact setRow_heap _ _ _ _ _ _ hh9
  · exact (bapp ((hb.trans (hbt.mono (by have := hb.size; omega))).alloc (by have := hb.size; have := hbt.size; omega) _) (((hn.below hbt).alloc o).mono (by omega)) hg (by have := hb.size; have := hbt.size; simp; omega)).setCell (p := ⟨H, 0, none⟩) (Nat.le_refl _) _

theorem wrap_small {x : Int} (h : 0 ≤ x ∧ x ≤ 1000000000) : IntKind.i64.wrap x = x := by
  rw [IntKind.wrap_i64]
  omega

theorem com_open {A : List UInt8} {i : Nat} (h : (commentL A i).2 = true) : i + 1 < A.length := by
  unfold commentL at h
  split at h
  · cases h
  · split at h
    · cases h
    · split at h
      · cases h
      · rename_i h42
        rcases Nat.lt_or_ge (i + 1) A.length with h1 | h1
        · exact h1
        · rw [chAt_ge h1] at h42
          exact absurd (by decide) h42
end Go.Proofs.YtfaoamdlknlgpaaGreat

/- lex's small functions: letter, digit, white, peek. -/
namespace Go.Proofs.YtfaoamdlknlgpaaGreat
open Go.RowKit
set_option linter.unusedVariables false

theorem whiteB_int2 (c : UInt8) : whiteB c = decide ((c.toNat : Int) = 32 ∨ (9 : Int) ≤ c.toNat ∧ (c.toNat : Int) ≤ 13 ∧ ¬ (c.toNat : Int) = 10) := by
  rw [whiteB_int]
  congr 1
  apply propext
  omega

set_option maxRecDepth 100000 in
theorem pletter_any (c : UInt8) (w : World) : Calls Tryz.prog 105 #[.int .u8 c.toNat] w fun e w' => e = .returned (.bool (letterB c)) ∧ w' = w := by
  rw [letterB_int]
  go_enter Tryz.func105, Tryz.ntmps105
  go_wp2
  all_goals
    go_ret
    refine ⟨?_, rfl⟩
    refine congrArg (fun b => Ending.returned (Value.bool b)) ?_
    rw [Bool.eq_iff_iff] <;> first
      | (simp; done)
      | (simp; omega)
set_option maxRecDepth 100000 in
theorem pdigit_any (c : UInt8) (w : World) : Calls Tryz.prog 107 #[.int .u8 c.toNat] w fun e w' => e = .returned (.bool (digitB c)) ∧ w' = w := by
  rw [digitB_int]
  go_enter Tryz.func107, Tryz.ntmps107
  go_wp2
  all_goals
    go_ret
    refine ⟨?_, rfl⟩
    refine congrArg (fun b => Ending.returned (Value.bool b)) ?_
    rw [Bool.eq_iff_iff] <;> first
      | (simp; done)
      | (simp; omega)
set_option maxRecDepth 100000 in
theorem pwhite_any (c : UInt8) (w : World) : Calls Tryz.prog 87 #[.int .u8 c.toNat] w fun e w' => e = .returned (.bool (whiteB c)) ∧ w' = w := by
  rw [whiteB_int2]
  go_enter Tryz.func87, Tryz.ntmps87
  go_wp2
  all_goals
    go_ret
    refine ⟨?_, rfl⟩
    refine congrArg (fun b => Ending.returned (Value.bool b)) ?_
    rw [Bool.eq_iff_iff] <;> first
      | (simp; done)
      | (simp; omega)

/-- the characters that are gone through, and the place: what is read -/
structure WkAt (w : World) (b : Nat) (R : List Rn) (lo : Option Addr) (cap at_ : Nat) : Prop where
  l : w.cell? ⟨b, 1, none⟩ = some (.slice lo R.length cap)
  here : w.cell? ⟨b, 2, none⟩ = some (.int .i64 at_)
  row : Row w 3 lo (R.map Rn.v)
  lcap : R.length ≤ cap
  len : R.length ≤ 2000000
  atl : at_ ≤ 4000000

set_option maxRecDepth 100000 in
theorem peek_any (b : Nat) (R : List Rn) (lo : Option Addr) (cap at_ k : Nat) (hk : k ≤ 4000000) (w : World) (h : WkAt w b R lo cap at_) :
    Calls Tryz.prog 106 #[.pointer (some ⟨b, 0, none⟩), .int .i64 k] w fun e w' => e = .returned (.int .u8 (chAt (cs R) (at_ + k)).toNat) ∧ ∃ q, w' = w.drewN q := by
  obtain ⟨c1, c2, hrow, hlc, hlen, hat⟩ := h
  have q1 : IntKind.i64.wrap ((at_ : Int) + k) = (at_ : Int) + k := IntWalk.i64_in _ (by omega)
  by_cases hi : at_ + k < R.length
  · obtain ⟨r, hr⟩ : ∃ r, R[at_ + k]? = some r := ⟨R[at_ + k], by simp [hi]⟩
    rw [cs_at hr]
    obtain ⟨g, o, rfl, ha⟩ := hrow (by intro h; simp at h; subst h; simp at hr)
    have c0 := ha.cell (i := at_ + k) (cs := r.v) (by simp [hr]) (j := 0) (u := .int .u8 r.c.toNat) rfl
    simp only [Nat.add_zero] at c0
    obtain ⟨n, hn⟩ : ∃ n, n = R.length := ⟨_, rfl⟩
    rw [← hn] at c1 hi hlc
    have e1 : (at_ : Int) + k < n := by omega
    have e4 : ¬ (n : Int) ≤ (at_ : Int) + k := by omega
    have e2 : (0 : Int) ≤ (at_ : Int) + k := by omega
    have e3 : ((at_ : Int) + k).toNat = at_ + k := by omega
    clear hr ha hrow hn
    go_enter Tryz.func106, Tryz.ntmps106
    go_wp2_with fail
    go_region
    go_wp2_with fail
    go_region
    all_goals
      go_wp2
      go_ret
      exact ⟨rfl, 2, rfl⟩
  · rw [chAt_ge (by rw [cs_len]; omega)]
    obtain ⟨n, hn⟩ : ∃ n, n = R.length := ⟨_, rfl⟩
    rw [← hn] at c1 hi
    have e1 : ¬ (at_ : Int) + k < n := by omega
    have e2 : (n : Int) ≤ (at_ : Int) + k := by omega
    clear hrow hn
    go_enter Tryz.func106, Tryz.ntmps106
    go_wp2_with fail
    go_region
    all_goals
      go_wp2
      go_ret
      exact ⟨rfl, 1, rfl⟩
end Go.Proofs.YtfaoamdlknlgpaaGreat

/- lex's has and span. -/
namespace Go.Proofs.YtfaoamdlknlgpaaGreat
open Go.RowKit
set_option linter.unusedVariables false

theorem drewN_below (w : World) (q : Nat) : Below w.heap.size w (w.drewN q) := below_drewN (Below.refl _ w) q

theorem WkAt.below {w w' : World} {b : Nat} {R : List Rn} {lo : Option Addr} {cap at_ : Nat} (h : WkAt w b R lo cap at_) (hb : Below w.heap.size w w') : WkAt w' b R lo cap at_ :=
  ⟨kept_cell hb h.l, kept_cell hb h.here, h.row.below hb, h.lcap, h.len, h.atl⟩

theorem drewN_add (w : World) (p q : Nat) : (w.drewN p).drewN q = w.drewN (p + q) := by
  induction q with
  | zero => rfl
  | succ q ih => exact congrArg World.drew ih

/-- is a text the next characters? (the texts asked for have no 0 in them, but the empty one) -/
def hasL (A : List UInt8) (i : Nat) (p : List UInt8) : Bool := decide (i + p.length ≤ A.length) && (List.range p.length).all fun j => chAt A (i + j) == p.getD j 0

set_option maxRecDepth 100000 in
theorem has_any (b : Nat) (R : List Rn) (lo : Option Addr) (cap at_ : Nat) (s : ByteArray) (hs : s.size ≤ 10) (w : World) (h : WkAt w b R lo cap at_) :
    Calls Tryz.prog 103 #[.pointer (some ⟨b, 0, none⟩), .string s] w fun e w' => e = .returned (.bool (hasL (cs R) at_ s.data.toList)) ∧ ∃ q, w' = w.drewN q := by
  have HW := fun q => h.below (drewN_below w q)
  obtain ⟨c1, c2, hrow, hlc, hlen, hat⟩ := h
  obtain ⟨n, hn⟩ : ∃ n, n = R.length := ⟨_, rfl⟩
  have HN : Hid (R.length = n) := Lib.hid hn.symm
  have HR : Hid (hasL (cs R) at_ s.data.toList = (decide (at_ + s.size ≤ n) && (List.range s.size).all fun j => chAt (cs R) (at_ + j) == s.data.toList.getD j 0)) := Lib.hid (by
    unfold hasL
    rw [cs_len, ← hn, ← Lib.size_eq])
  obtain ⟨res, hres⟩ : ∃ res, res = hasL (cs R) at_ s.data.toList := ⟨_, rfl⟩
  rw [← hres] at HR ⊢
  clear hres
  rw [← hn] at c1 hlc hlen
  have q1 : IntKind.i64.wrap ((at_ : Int) + s.size) = (at_ : Int) + s.size := IntWalk.i64_in _ (by omega)
  clear hn
  go_enter Tryz.func103, Tryz.ntmps103
  by_cases hl : at_ + s.size ≤ n
  · have e1 : ¬ (n : Int) < (at_ : Int) + s.size := by omega
    go_wp2_with fail
    go_quiet (fail)
    go_wp2_with fail
    go_loopg [21] s.size (fun u v w9 => ∃ k : Nat, u = s.size - k ∧ k ≤ s.size ∧ v = .int .i64 k ∧ (∃ q, w9 = w.drewN q) ∧ Hid (∀ j, j < k → chAt (cs R) (at_ + j) = s.data.toList.getD j 0))
    case atStart => exact ⟨0, rfl, Nat.zero_le _, rfl, ⟨_, rfl⟩, Lib.hid (fun j hj => absurd hj (Nat.not_lt_zero _))⟩
    case round =>
      obtain ⟨k, rfl, hk, rfl, ⟨q, hq⟩, hall⟩ := hrel
      have hW := HW q
      rw [← hq] at hW
      replace hq := Lib.hid hq
      obtain ⟨d1, d2, hrow2, _, _, _⟩ := hW
      rw [HN.out] at d1
      by_cases hlt : k < s.size
      · have hji : (k : Int) < (s.size : Int) := by omega
        obtain ⟨r, hr⟩ : ∃ r, R[at_ + k]? = some r := ⟨R[at_ + k]'(by rw [HN.out]; omega), by simp⟩
        have hrc := cs_at hr
        obtain ⟨g, o, rfl, ha⟩ := hrow2 (by intro h; simp at h; subst h; simp at hr)
        have c0 := ha.cell (i := at_ + k) (cs := r.v) (by simp [hr]) (j := 0) (u := .int .u8 r.c.toNat) rfl
        simp only [Nat.add_zero] at c0
        have q2 : IntKind.i64.wrap ((at_ : Int) + k) = (at_ : Int) + k := IntWalk.i64_in _ (by omega)
        have e2 : (at_ : Int) + k < n := by omega
        have e3 : (0 : Int) ≤ (at_ : Int) + k := by omega
        have e4 : ((at_ : Int) + k).toNat = at_ + k := by omega
        have HG : Hid (s.data.toList.getD k 0 = s[k]'hlt) := Lib.hid (by
          rw [List.getD_eq_getElem?_getD, List.getElem?_eq_getElem (by rw [← Lib.size_eq]; exact hlt)]
          rfl)
        replace hr := Lib.hid hr
        replace hrc := Lib.hid hrc
        clear ha hrow2
        by_cases hm : (r.c.toNat : Int) = ((s[k]'hlt).toNat : Int)
        · have hm' : ((r.c.toNat : Int) == ((s[k]'hlt).toNat : Int)) = true := by simpa using hm
          have hnew : chAt (cs R) (at_ + k) = s.data.toList.getD k 0 := by rw [HG.out, hrc.out]; exact (u8eq _ _).2 hm
          replace hnew := Lib.hid hnew
          replace hm := Lib.hid hm
          clear HG
          go_wp2_with fail
          go_quiet (fail)
          go_wp2_with fail
          go_roundg (s.size - (k + 1))
          case measure => omega
          case rel =>
            refine ⟨k + 1, rfl, by omega, by go_num, ⟨q + nq, by rw [hq.out, drewN_add]⟩, Lib.hid ?_⟩
            intro m hmj
            by_cases hmm : m = k
            · subst hmm; exact hnew.out
            · exact hall.out m (by omega)
        · have hm' : ((r.c.toNat : Int) == ((s[k]'hlt).toNat : Int)) = false := by simpa using hm
          have hnew : chAt (cs R) (at_ + k) ≠ s.data.toList.getD k 0 := by rw [HG.out, hrc.out]; intro e; exact hm ((u8eq _ _).1 e)
          have hres : Hid (res = false) := Lib.hid (by
            rw [HR.out, Bool.and_eq_false_iff]
            right
            rw [List.all_eq_false]
            exact ⟨k, List.mem_range.2 hlt, by simpa using hnew⟩)
          replace hnew := Lib.hid hnew
          replace hm := Lib.hid hm
          clear HG
          go_wp2_with fail
          go_quiet (fail)
          go_wp2
          go_ret
          exact ⟨by rw [hres.out]; rfl, q + nq, by rw [hq.out, drewN_add]⟩
      · have hres : Hid (res = true) := Lib.hid (by
          rw [HR.out, Bool.and_eq_true]
          refine ⟨decide_eq_true hl, List.all_eq_true.2 fun j hj => ?_⟩
          have := hall.out j (by have := List.mem_range.1 hj; omega)
          simpa using this)
        have hjf : ¬ (k : Int) < (s.size : Int) := by omega
        go_wp2
        go_ret
        exact ⟨by rw [hres.out]; rfl, q, hq.out⟩
  · have e1 : (n : Int) < (at_ : Int) + s.size := by omega
    have hres : Hid (res = false) := Lib.hid (by
      rw [HR.out, Bool.and_eq_false_iff]
      exact .inl (decide_eq_false hl))
    go_wp2_with fail
    go_quiet (fail)
    go_wp2
    go_ret
    exact ⟨by rw [hres.out]; rfl, _, rfl⟩
end Go.Proofs.YtfaoamdlknlgpaaGreat
