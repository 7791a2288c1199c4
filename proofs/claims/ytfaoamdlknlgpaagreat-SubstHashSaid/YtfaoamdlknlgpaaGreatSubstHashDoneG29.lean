/- Texts of this seat's proofs, laid into one file. -/
import Derived.Test.YtfaoamdlknlgpaaGreatSubstHashDoneG11
import Derived.Deep.LoopGhost
import Derived.Deep.Cut
import Derived.Deep.CutRange
import Derived.Deep.CutBlock
/- macro's parameters: the walk. -/
namespace Go.Proofs.YtfaoamdlknlgpaaGreat
open Go.RowKit
set_option linter.unusedVariables false

open Classical in
theorem wp_scope_ghost {P : Program} {a : Act} {w : World} {Q : Exit → Act → World → Prop} {c rest : Code} (l : Nat) (J : Nat → Act → World → Prop) (hf : findLabel c l = some (.seq .skip rest))
    (first : (Hid (∀ n a w, J n a w → rest.wp P (Exit.jump l (fun a w => ∃ n, J n a w) Q) a w)) → c.wp P (Exit.jump l (fun a w => ∃ n, J n a w) Q) a w)
    (pass : ∀ n a w, J n a w → rest.wp P (Exit.jump l (fun a' w' => ∃ n', n' < n ∧ J n' a' w') Q) a w) : (Code.scope c).wp P Q a w := by
  refine wp_scope_loop l (fun a w => ∃ n, J n a w) (fun a w => leastOf (fun n => J n a w)) hf ?_ ?_
  · intro h
    exact first (Lib.hid (fun n a w hj => h.out a w ⟨n, hj⟩))
  · rintro a w hj
    have hl := leastOf_spec hj
    refine Code.wp_mono ?_ (pass _ a w hl.1)
    intro e a' w' q
    cases e <;> first
      | exact q
      | exact ⟨q.1, ⟨_, q.2.choose_spec.2⟩, Nat.lt_of_le_of_lt ((leastOf_spec ⟨_, q.2.choose_spec.2⟩).2 _ q.2.choose_spec.2) q.2.choose_spec.1⟩

theorem tok8b {w : World} {rb o : Nat} {t : Tm} {v : Value} {c : List Value} {css : List (List Value)} (h : RowAt w 8 rb o (c :: tmC t v :: css)) :
    w.cell? ⟨rb, o + 8, none⟩ = some (.int .i64 t.kind) ∧ w.cell? ⟨rb, o + 9, none⟩ = some (.string t.text) ∧ w.cell? ⟨rb, o + 10, none⟩ = some (.bool t.sp) ∧ w.cell? ⟨rb, o + 11, none⟩ = some (.string t.file) ∧ w.cell? ⟨rb, o + 12, none⟩ = some (.int .i64 t.f) ∧ w.cell? ⟨rb, o + 13, none⟩ = some (.int .i64 t.t) ∧ w.cell? ⟨rb, o + 14, none⟩ = some (.bool t.made) ∧ w.cell? ⟨rb, o + 15, none⟩ = some v :=
  tok8 (o := o + 8) (t := t) (v := v) (css := css) (by have := h.drop 1; simpa using this)

theorem mc_set1 {w : World} {b : Nat} {a0 a1 a2 a3 a4 a5 a6 a7 : Value} {e : TypeId} {fz : Nat × Nat} (h : w.heap[b]? = some (.cells #[a0, a1, a2, a3, a4, a5, a6, a7] e fz)) (u : Value) :
    (w.setCell ⟨b, 1, none⟩ u).heap[b]? = some (.cells #[a0, u, a2, a3, a4, a5, a6, a7] e fz) := by
  rw [setCell_eq_setRow _ _ _ _ _ _ _ h, setRow_heap _ _ _ _ _ _ h]
  rfl
theorem mc_set2 {w : World} {b : Nat} {a0 a1 a2 a3 a4 a5 a6 a7 : Value} {e : TypeId} {fz : Nat × Nat} (h : w.heap[b]? = some (.cells #[a0, a1, a2, a3, a4, a5, a6, a7] e fz)) (u : Value) :
    (w.setCell ⟨b, 2, none⟩ u).heap[b]? = some (.cells #[a0, a1, u, a3, a4, a5, a6, a7] e fz) := by
  rw [setCell_eq_setRow _ _ _ _ _ _ _ h, setRow_heap _ _ _ _ _ _ h]
  rfl
theorem mc_set3 {w : World} {b : Nat} {a0 a1 a2 a3 a4 a5 a6 a7 : Value} {e : TypeId} {fz : Nat × Nat} (h : w.heap[b]? = some (.cells #[a0, a1, a2, a3, a4, a5, a6, a7] e fz)) (u : Value) :
    (w.setCell ⟨b, 3, none⟩ u).heap[b]? = some (.cells #[a0, a1, a2, u, a4, a5, a6, a7] e fz) := by
  rw [setCell_eq_setRow _ _ _ _ _ _ _ h, setRow_heap _ _ _ _ _ _ h]
  rfl
theorem mc_set4 {w : World} {b : Nat} {a0 a1 a2 a3 a4 a5 a6 a7 : Value} {e : TypeId} {fz : Nat × Nat} (h : w.heap[b]? = some (.cells #[a0, a1, a2, a3, a4, a5, a6, a7] e fz)) (u : Value) :
    (w.setCell ⟨b, 4, none⟩ u).heap[b]? = some (.cells #[a0, a1, a2, a3, u, a5, a6, a7] e fz) := by
  rw [setCell_eq_setRow _ _ _ _ _ _ _ h, setRow_heap _ _ _ _ _ _ h]
  rfl

theorem paramsL_short {T : List Tm} {va : Bool} {ps : List ByteArray} (h : T.length < 2) : paramsL T va ps = none := by
  match T, h with
  | [], _ => rfl
  | [_], _ => rfl

theorem E9 : EI Tryz.prog 45 9 (.string ⟨#[]⟩) 1 16 := ⟨Tryz.underlying45, by kernel_rfl, rfl, by decide⟩

theorem par_row {w : World} {b rb o k : Nat} {T T2 : List (Tm × Value)} {p0 p1 : Tm × Value} (HT : ∀ w', Below b w w' → RowAt w' 8 rb o (tvC p0 :: tvC p1 :: T2.map tvC)) (hT3 : T2 = T.drop (k + 2)) : ∀ w', Below b w w' → Row w' 8 (some ⟨rb, o + 16, none⟩) ((T.drop (k + 2)).map tvC) := by
  intro w' hb' _
  have := (HT w' hb').drop 2
  rw [← hT3]
  exact ⟨rb, o + 16, rfl, this⟩

/-- what params gives -/
def ParPost (T : List (Tm × Value)) (b : Nat) (name file : ByteArray) (f t : Int) (w : World) (r : Option (List Tm × Bool × List ByteArray)) (e : Ending) (w' : World) : Prop :=
  match r with
  | none => e = .returned (.tuple #[.slice none 0 0, .bool false])
  | some (r, va, ps) => ∃ k ao' cap' psv, e = .returned (.tuple #[.slice ao' (T.length - k) cap', .bool true]) ∧ k ≤ T.length ∧ T.length - k ≤ cap' ∧ r = (T.drop k).map (·.1) ∧ (∀ w'', Below b w w'' → Row w'' 8 ao' ((T.drop k).map tvC)) ∧ Own w' (b + 1) 9 1 psv (ps.map fun p => [.string p]) ∧ w'.heap[b]? = some (.cells (mcC name true va psv (.slice none 0 0) file f t).toArray 53 (0, 0))

/-- what holds at the label: q tokens are left -/
def ParJ (T : List (Tm × Value)) (n b : Nat) (name file : ByteArray) (f t : Int) (w : World) (PT : Option (List Tm × Bool × List ByteArray)) (q : Nat) (a' : Act) (wr : World) : Prop :=
  ∃ (k : Nat) (va : Bool) (ps : List ByteArray) (ak : Option Addr) (C : Nat) (psv : Value) (u2 u3 u4 u5 u6 u7 u8 u9 u10 u11 u12 u13 u14 u15 u16 u17 u18 u19 u20 u21 u22 u23 u24 u25 u26 u27 u28 u29 u30 u31 u32 u33 u34 u35 u36 u37 u38 u39 u40 u41 u42 u43 u44 u45 u46 u47 u48 u49 u50 u51 u52 u53 u54 u55 u56 u57 u58 u59 u60 u61 u62 u63 u64 u65 u66 u67 u68 u69 u70 u71 u72 u73 u74 u75 u76 u77 u78 : Value), a' = { tmps := #[.pointer (some ⟨b, 0, none⟩), .slice ak q C, u2, u3, u4, u5, u6, u7, u8, u9, u10, u11, u12, u13, u14, u15, u16, u17, u18, u19, u20, u21, u22, u23, u24, u25, u26, u27, u28, u29, u30, u31, u32, u33, u34, u35, u36, u37, u38, u39, u40, u41, u42, u43, u44, u45, u46, u47, u48, u49, u50, u51, u52, u53, u54, u55, u56, u57, u58, u59, u60, u61, u62, u63, u64, u65, u66, u67, u68, u69, u70, u71, u72, u73, u74, u75, u76, u77, u78], defers := [] } ∧
    q + k = n ∧ q ≤ C ∧ Hid (∀ w', Below b w w' → Row w' 8 ak ((T.drop k).map tvC)) ∧ Below b w wr ∧ Own wr (b + 1) 9 1 psv (ps.map fun p => [.string p]) ∧ ps.length ≤ k ∧
    wr.heap[b]? = some (.cells #[.string name, .bool true, .bool va, psv, .slice none 0 0, .string file, .int .i64 f, .int .i64 t] 53 (0, 0)) ∧ Hid (PT = paramsL ((T.drop k).map (·.1)) va ps)

end Go.Proofs.YtfaoamdlknlgpaaGreat
