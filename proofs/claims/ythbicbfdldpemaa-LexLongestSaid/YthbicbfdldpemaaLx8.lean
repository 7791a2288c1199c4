/- oxbowref4's Lines: how lines lie in memory. -/
import Derived.Test.YthbicbfdldpemaaLxSpec2
import Derived.Deep.AppendLies
import Derived.Deep.RegionLaw
namespace Go.Proofs.Ythbicbfdldpemaa
open Go.RowKit
set_option linter.unusedVariables false

def tkC (file : ByteArray) (t : Tk) : List Value := [.int .i64 t.kind, .string ⟨t.text.toArray⟩, .bool t.space, .string file, .int .i64 t.f, .int .i64 t.t, .bool false, .slice none 0 0]
def dgC (file : ByteArray) (d : Dg) : List Value := [.int .i64 d.code, .string file, .int .i64 d.f, .int .i64 d.t]

theorem E43 : EI Try.prog 25 43 (.agg #[.int .i64 0, .string ⟨#[]⟩, .bool false, .string ⟨#[]⟩, .int .i64 0, .int .i64 0, .bool false, .slice none 0 0]) 8 96 := ⟨Try.underlying25, by kernel_rfl, rfl, by decide⟩
theorem E38 : EI Try.prog 30 38 (.agg #[.int .i64 0, .string ⟨#[]⟩, .int .i64 0, .int .i64 0]) 4 40 := ⟨Try.underlying30, by kernel_rfl, rfl, by decide⟩
theorem E86 : EI Try.prog 52 86 (.agg #[.slice none 0 0, .int .i64 0, .int .i64 0, .bool false]) 4 48 := ⟨Try.underlying52, by kernel_rfl, rfl, by decide⟩

/-- a line's cells; its tokens lie in a row of tokens below S -/
def LnAt (w : World) (S : Nat) (file : ByteArray) (ln : Ln) (c : List Value) : Prop :=
  ∃ ao cap, c = [.slice ao ln.toks.length cap, .int .i64 ln.f, .int .i64 ln.t, .bool ln.op] ∧ ln.toks.length ≤ cap ∧ (ln.toks ≠ [] → ∃ b o x fz, ao = some ⟨b, o, none⟩ ∧ b < S ∧ w.heap[b]? = some (.cells x 43 fz) ∧ RowAt w 8 b o (ln.toks.map (tkC file)))

inductive LnsAt (w : World) (S : Nat) (file : ByteArray) : List Ln → List (List Value) → Prop
  | nil : LnsAt w S file [] []
  | cons {l : Ln} {c : List Value} {ls : List Ln} {css : List (List Value)} (h : LnAt w S file l c) (r : LnsAt w S file ls css) : LnsAt w S file (l :: ls) (c :: css)

def KeptTok (S : Nat) (w w' : World) : Prop := ∀ b, b < S → ∀ x fz, w.heap[b]? = some (.cells x 43 fz) → w'.heap[b]? = some (.cells x 43 fz)

theorem KeptTok.trans {S : Nat} {a b c : World} (h : KeptTok S a b) (k : KeptTok S b c) : KeptTok S a c := fun i hi x fz hx => k i hi x fz (h i hi x fz hx)
theorem KeptTok.below {S : Nat} {w w' : World} (h : Below S w w') : KeptTok S w w' := fun i hi x fz hx => (h.block i hi).trans hx
theorem KeptTok.others {S : Nat} {e : TypeId} {c : Option Nat} {w w' : World} (h : Lib.OthersKept e c w w') (he : e ≠ 43) (hc : ∀ b, c = some b → ∀ x fz, w.heap[b]? ≠ some (.cells x 43 fz)) : KeptTok S w w' := by
  intro i hi x fz hx
  refine h i _ hx ?_ ?_
  · intro e1
    exact hc i e1.symm x fz hx
  · intro y fz' e1
    injection e1 with _ e2 _
    exact he e2.symm
theorem KeptTok.setCell {S b : Nat} {w : World} {y : Array Value} {e : TypeId} {fz : Nat × Nat} (h : w.heap[b]? = some (.cells y e fz)) (he : e ≠ 43) (j : Nat) (u : Value) : KeptTok S w (w.setCell ⟨b, j, none⟩ u) := by
  intro i hi x fz' hx
  rw [Below.heap_setCell]
  · exact hx
  · rintro rfl
    rw [h] at hx
    simp at hx
    exact he hx.2.1
theorem KeptTok.setRow {S b : Nat} {w : World} {y : Array Value} {e : TypeId} {fz : Nat × Nat} (h : w.heap[b]? = some (.cells y e fz)) (he : e ≠ 43) (cs : Array Value) : KeptTok S w (w.setRow b cs) := by
  intro i hi x fz' hx
  rw [setRow_other]
  · exact hx
  · rintro rfl
    rw [h] at hx
    simp at hx
    exact he hx.2.1

theorem LnAt.kept {w w' : World} {S : Nat} {file : ByteArray} {ln : Ln} {c : List Value} (h : LnAt w S file ln c) (k : KeptTok S w w') : LnAt w' S file ln c := by
  obtain ⟨ao, cap, rfl, h1, h2⟩ := h
  refine ⟨ao, cap, rfl, h1, fun hne => ?_⟩
  obtain ⟨b, o, x, fz, rfl, hb, hx, hr⟩ := h2 hne
  have hx' := k b hb x fz hx
  refine ⟨b, o, x, fz, rfl, hb, hx', fun i cs hi j u hj => ?_⟩
  exact (World.cell?_of_block (a := ⟨b, o + i * 8 + j, none⟩) (hx'.trans hx.symm)).trans (hr i cs hi j u hj)

theorem LnAt.mono {w : World} {S S' : Nat} {file : ByteArray} {ln : Ln} {c : List Value} (h : LnAt w S file ln c) (k : S ≤ S') : LnAt w S' file ln c := by
  obtain ⟨ao, cap, rfl, h1, h2⟩ := h
  refine ⟨ao, cap, rfl, h1, fun hne => ?_⟩
  obtain ⟨b, o, x, fz, e, hb, hx, hr⟩ := h2 hne
  exact ⟨b, o, x, fz, e, Nat.lt_of_lt_of_le hb k, hx, hr⟩

theorem LnsAt.kept {w w' : World} {S : Nat} {file : ByteArray} {ls : List Ln} {css : List (List Value)} (h : LnsAt w S file ls css) (k : KeptTok S w w') : LnsAt w' S file ls css := by
  induction h with
  | nil => exact .nil
  | cons h _ ih => exact .cons (h.kept k) ih

theorem LnsAt.mono {w : World} {S S' : Nat} {file : ByteArray} {ls : List Ln} {css : List (List Value)} (h : LnsAt w S file ls css) (k : S ≤ S') : LnsAt w S' file ls css := by
  induction h with
  | nil => exact .nil
  | cons h _ ih => exact .cons (h.mono k) ih

theorem LnsAt.snoc {w : World} {S : Nat} {file : ByteArray} {ls : List Ln} {css : List (List Value)} (h : LnsAt w S file ls css) {l : Ln} {c : List Value} (hl : LnAt w S file l c) : LnsAt w S file (ls ++ [l]) (css ++ [c]) := by
  induction h with
  | nil => exact .cons hl .nil
  | cons h _ ih => exact .cons h ih

theorem LnsAt.len {w : World} {S : Nat} {file : ByteArray} {ls : List Ln} {css : List (List Value)} (h : LnsAt w S file ls css) : css.length = ls.length := by
  induction h with
  | nil => rfl
  | cons _ _ ih => simp [ih]

/-- the line that is being read, as a finished one -/
theorem LnAt.of_own {w : World} {B : Nat} {file : ByteArray} {v : Value} {toks : List Tk} (h : Own w B 43 8 v (toks.map (tkC file))) (f t : Nat) (op : Bool) : LnAt w w.heap.size file ⟨toks, f, t, op⟩ [v, .int .i64 f, .int .i64 t, .bool op] := by
  obtain ⟨ao, cap, rfl, h1, _, hrow, _⟩ := h.rown (n := toks.length) (by simp)
  refine ⟨ao, cap, rfl, h1, fun hne => ?_⟩
  obtain ⟨b, o, rfl, hat⟩ := hrow (by simpa using hne)
  obtain ⟨x, fz, hx⟩ : ∃ x fz, w.heap[b]? = some (.cells x 43 fz) := by
    rcases h.1.2 with ⟨hv, _⟩ | ⟨g, cap', cur, hv, _, hg, _⟩
    · simp at hv
    · simp only [Value.slice.injEq, Option.some.injEq] at hv
      obtain ⟨hv1, _⟩ := hv
      simp only [Addr.mk.injEq] at hv1
      rw [hv1.1]
      exact ⟨_, _, hg⟩
  exact ⟨b, o, x, fz, rfl, (Array.getElem?_eq_some_iff.1 hx).1, hx, hat⟩

/-- what lies in memory while lines are read: the line that is being read in block H -/
structure LsAt (w0 w : World) (H : Nat) (file : ByteArray) (s : LS) (vo vd vn : Value) : Prop where
  lines : ∃ S lcs, H + 1 ≤ S ∧ S ≤ w.heap.size ∧ Own w S 43 8 vn (s.toks.map (tkC file)) ∧ Own w (H + 1) 86 4 vo lcs ∧ LnsAt w S file s.out lcs
  diags : Own w (H + 1) 38 4 vd (s.diags.map (dgC file))
  here : w.heap[H]? = some (.cells #[vn, .int .i64 s.from_, .int .i64 0, .bool false] 86 (0, 0))
  below : Below H w0 w
end Go.Proofs.Ythbicbfdldpemaa
