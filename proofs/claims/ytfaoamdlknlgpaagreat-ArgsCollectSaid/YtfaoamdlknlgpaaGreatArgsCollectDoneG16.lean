/- Texts of this seat's proofs, laid into one file. -/
import Derived.Test.YtfaoamdlknlgpaaGreatArgsCollectDoneG15
import Derived.Test.YtfaoamdlknlgpaaGreatArgsCollectDoneG11
import Derived.Test.YtfaoamdlknlgpaaGreatArgsCollectDoneG4
/- lex's next: two labels in a scope, what next gives. -/
namespace Go.Proofs.YtfaoamdlknlgpaaGreat
open Go.RowKit
set_option linter.unusedVariables false

/-- two labels: one that is jumped back to, one that is jumped on to -/
def _root_.Go.Exit.jump2 (l : Nat) (J : Act → World → Prop) (l0 : Nat) (J0 : Act → World → Prop) (Q : Exit → Act → World → Prop) : Exit → Act → World → Prop
  | .goto l', a, w => (l' = l ∧ J a w) ∨ (l' = l0 ∧ J0 a w)
  | e, a, w => Q e a w

theorem wp_scope_two {P : Program} {a : Act} {w : World} {Q : Exit → Act → World → Prop} {c rest rest0 : Code} (l l0 : Nat) (J : Nat → Act → World → Prop) (J0 : Act → World → Prop) (hf : findLabel c l = some rest) (hf0 : findLabel c l0 = some rest0)
    (first : (Hid (∀ n a w, J n a w → rest.wp P (Exit.jump2 l (fun a w => ∃ n, J n a w) l0 J0 Q) a w)) → c.wp P (Exit.jump2 l (fun a w => ∃ n, J n a w) l0 J0 Q) a w)
    (pass : ∀ n a w, J n a w → rest.wp P (Exit.jump2 l (fun a' w' => ∃ n', n' < n ∧ J n' a' w') l0 J0 Q) a w)
    (last : ∀ a w, J0 a w → rest0.wp P (Exit.noGoto Q) a w) : (Code.scope c).wp P Q a w := by
  intro b k cs
  have hg : gotoIn l (.inScope c :: k) = some (.code rest :: .inScope c :: k) := by simp [gotoIn, hf]
  have hg0 : gotoIn l0 (.inScope c :: k) = some (.code rest0 :: .inScope c :: k) := by simp [gotoIn, hf0]
  have key0 : ∀ a w, J0 a w → ∃ e a' w', Q e a' w' ∧ Arrives P (lone (b.at a (.code rest0 :: .inScope c :: k)) cs w) b k cs e a' w' := by
    intro a w hJ
    obtain ⟨e, a₁, w₁, hq, harr⟩ := last a w hJ b (.inScope c :: k) cs
    cases e with
    | normal => exact ⟨.normal, a₁, w₁, hq, Steps.trans harr (.one step_inScope)⟩
    | exit id => exact ⟨.exit id, a₁, w₁, hq, fun k' hk => harr k' (by simp [exitTo, hk])⟩
    | goto l' => exact hq.elim
    | ret => exact ⟨_, a₁, w₁, hq, harr⟩
    | panic ch => exact ⟨_, a₁, w₁, hq, harr⟩
    | outgrown => exact ⟨_, a₁, w₁, hq, harr⟩
  have key : ∀ n a w, J n a w → ∃ e a' w', Q e a' w' ∧ Arrives P (lone (b.at a (.code rest :: .inScope c :: k)) cs w) b k cs e a' w' := by
    intro n
    induction n using Nat.strongRecOn with
    | _ n ih =>
      intro a w hJ
      obtain ⟨e, a₁, w₁, hq, harr⟩ := pass n a w hJ b (.inScope c :: k) cs
      cases e with
      | normal => exact ⟨.normal, a₁, w₁, hq, Steps.trans harr (.one step_inScope)⟩
      | exit id => exact ⟨.exit id, a₁, w₁, hq, fun k' hk => harr k' (by simp [exitTo, hk])⟩
      | goto l' =>
        rcases hq with ⟨rfl, n', hlt, hJ'⟩ | ⟨rfl, hJ'⟩
        · obtain ⟨e₂, a₂, w₂, hq₂, harr₂⟩ := ih n' hlt a₁ w₁ hJ'
          exact ⟨e₂, a₂, w₂, hq₂, .of_steps (harr _ hg) harr₂⟩
        · obtain ⟨e₂, a₂, w₂, hq₂, harr₂⟩ := key0 a₁ w₁ hJ'
          exact ⟨e₂, a₂, w₂, hq₂, .of_steps (harr _ hg0) harr₂⟩
      | ret => exact ⟨_, a₁, w₁, hq, harr⟩
      | panic ch => exact ⟨_, a₁, w₁, hq, harr⟩
      | outgrown => exact ⟨_, a₁, w₁, hq, harr⟩
  have first' := first (Lib.hid fun n a w h => Code.wp_mono (fun e a' w' q => by
    cases e <;> first
      | exact q
      | (rcases q with ⟨q1, n', _, q2⟩ | q
         · exact .inl ⟨q1, n', q2⟩
         · exact .inr q)) (pass n a w h))
  obtain ⟨e, a₁, w₁, hq, harr⟩ := first' b (.inScope c :: k) cs
  cases e with
  | normal => exact ⟨.normal, a₁, w₁, hq, .head step_scope (Steps.trans harr (.one step_inScope))⟩
  | exit id => exact ⟨.exit id, a₁, w₁, hq, fun k' hk => .head step_scope (harr k' (by simp [exitTo, hk]))⟩
  | goto l' =>
    rcases hq with ⟨rfl, n', hJ'⟩ | ⟨rfl, hJ'⟩
    · obtain ⟨e₂, a₂, w₂, hq₂, harr₂⟩ := key n' a₁ w₁ hJ'
      exact ⟨e₂, a₂, w₂, hq₂, .of_steps (.head step_scope (harr _ hg)) harr₂⟩
    · obtain ⟨e₂, a₂, w₂, hq₂, harr₂⟩ := key0 a₁ w₁ hJ'
      exact ⟨e₂, a₂, w₂, hq₂, .of_steps (.head step_scope (harr _ hg0)) harr₂⟩
  | ret => exact ⟨_, a₁, w₁, hq, .of_steps (.one step_scope) harr⟩
  | panic ch => exact ⟨_, a₁, w₁, hq, .of_steps (.one step_scope) harr⟩
  | outgrown => exact ⟨_, a₁, w₁, hq, .of_steps (.one step_scope) harr⟩

theorem wp_scope_two' {P : Program} {a : Act} {w : World} {Q : Exit → Act → World → Prop} {c rest rest0 : Code} (l l0 : Nat) (J : Nat → Act → World → Prop) (J0 : Act → World → Prop) (hf : findLabel c l = some (.seq .skip rest)) (hf0 : findLabel c l0 = some (.seq .skip rest0))
    (first : (Hid (∀ n a w, J n a w → rest.wp P (Exit.jump2 l (fun a w => ∃ n, J n a w) l0 J0 Q) a w)) → c.wp P (Exit.jump2 l (fun a w => ∃ n, J n a w) l0 J0 Q) a w)
    (pass : ∀ n a w, J n a w → rest.wp P (Exit.jump2 l (fun a' w' => ∃ n', n' < n ∧ J n' a' w') l0 J0 Q) a w)
    (last : ∀ a w, J0 a w → rest0.wp P (Exit.noGoto Q) a w) : (Code.scope c).wp P Q a w :=
  wp_scope_two l l0 J J0 hf hf0 (fun _ => first (Lib.hid fun n a w h => Code.wp_mono (fun e a' w' q => by
    cases e <;> first
      | exact q
      | (rcases q with ⟨q1, n', _, q2⟩ | q
         · exact .inl ⟨q1, n', q2⟩
         · exact .inr q)) (pass n a w h))) (fun n a w h => wp_seq (wp_skip (pass n a w h))) (fun a w h => wp_seq (wp_skip (last a w h)))

theorem frame_eta : ∀ (xs : List Value), xs = (List.range xs.length).map (fun i => xs.getD i undef) := by
  intro xs
  apply List.ext_getElem
  · simp
  · intro i h1 h2
    simp [List.getD_eq_getElem?_getD, List.getElem?_eq_getElem h1]

theorem frame121 {xs : List Value} (h : xs.length = 121) : ∃ F : Nat → Value, xs = [F 0, F 1, F 2, F 3, F 4, F 5, F 6, F 7, F 8, F 9, F 10, F 11, F 12, F 13, F 14, F 15, F 16, F 17, F 18, F 19, F 20, F 21, F 22, F 23, F 24, F 25, F 26, F 27, F 28, F 29, F 30, F 31, F 32, F 33, F 34, F 35, F 36, F 37, F 38, F 39, F 40, F 41, F 42, F 43, F 44, F 45, F 46, F 47, F 48, F 49, F 50, F 51, F 52, F 53, F 54, F 55, F 56, F 57, F 58, F 59, F 60, F 61, F 62, F 63, F 64, F 65, F 66, F 67, F 68, F 69, F 70, F 71, F 72, F 73, F 74, F 75, F 76, F 77, F 78, F 79, F 80, F 81, F 82, F 83, F 84, F 85, F 86, F 87, F 88, F 89, F 90, F 91, F 92, F 93, F 94, F 95, F 96, F 97, F 98, F 99, F 100, F 101, F 102, F 103, F 104, F 105, F 106, F 107, F 108, F 109, F 110, F 111, F 112, F 113, F 114, F 115, F 116, F 117, F 118, F 119, F 120] := by
  refine ⟨fun i => xs.getD i undef, ?_⟩
  have := frame_eta xs
  rw [h] at this
  exact this

theorem frame125 {xs : List Value} (h : xs.length = 125) : ∃ F : Nat → Value, xs = [F 0, F 1, F 2, F 3, F 4, F 5, F 6, F 7, F 8, F 9, F 10, F 11, F 12, F 13, F 14, F 15, F 16, F 17, F 18, F 19, F 20, F 21, F 22, F 23, F 24, F 25, F 26, F 27, F 28, F 29, F 30, F 31, F 32, F 33, F 34, F 35, F 36, F 37, F 38, F 39, F 40, F 41, F 42, F 43, F 44, F 45, F 46, F 47, F 48, F 49, F 50, F 51, F 52, F 53, F 54, F 55, F 56, F 57, F 58, F 59, F 60, F 61, F 62, F 63, F 64, F 65, F 66, F 67, F 68, F 69, F 70, F 71, F 72, F 73, F 74, F 75, F 76, F 77, F 78, F 79, F 80, F 81, F 82, F 83, F 84, F 85, F 86, F 87, F 88, F 89, F 90, F 91, F 92, F 93, F 94, F 95, F 96, F 97, F 98, F 99, F 100, F 101, F 102, F 103, F 104, F 105, F 106, F 107, F 108, F 109, F 110, F 111, F 112, F 113, F 114, F 115, F 116, F 117, F 118, F 119, F 120, F 121, F 122, F 123, F 124] := by
  refine ⟨fun i => xs.getD i undef, ?_⟩
  have := frame_eta xs
  rw [h] at this
  exact this

/-- what next goes by -/
structure NS where
  (i : Nat) (ds : List Dg) (sp : Bool) (q : Int) (op : Bool)

def AtIn (R : List Rn) (s : NS) : Prop := s.i < R.length ∧ chAt (cs R) s.i ≠ 10

inductive Skips (R : List Rn) : NS → NS → Prop
  | refl (s : NS) : Skips R s s
  | white {s t : NS} (h : Skips R s t) (hi : AtIn R t) (hw : whiteB (chAt (cs R) t.i) = true) : Skips R s ⟨t.i + 1, t.ds, true, t.q, t.op⟩
  | com {s t : NS} (h : Skips R s t) (hi : AtIn R t) (hw : whiteB (chAt (cs R) t.i) = false) (hc : t.i < (commentL (cs R) t.i).1) : Skips R s ⟨(commentL (cs R) t.i).1, t.ds ++ if (commentL (cs R) t.i).2 then [⟨1, rF R t.i, rT R (t.i + 1)⟩] else [], true, t.q, (commentL (cs R) t.i).2⟩

def AtTok (R : List Rn) (s : NS) : Prop := AtIn R s ∧ whiteB (chAt (cs R) s.i) = false ∧ ¬ s.i < (commentL (cs R) s.i).1

def tokN (R : List Rn) (s : NS) : Tk := ⟨(nextL (cs R) s.i).1, ((cs R).drop s.i).take ((nextL (cs R) s.i).2.1 - s.i), s.sp, rF R s.i, rT R ((nextL (cs R) s.i).2.1 - 1)⟩
def posN (R : List Rn) (s : NS) : Nat := s.i + (lettersL (cs R) s.i).toNat
def afterTok (R : List Rn) (s : NS) : NS := ⟨(nextL (cs R) s.i).2.1, s.ds ++ (if tellB (cs R) s.i s.q then [⟨2, rF R (posN R s), rT R (posN R s)⟩] else []), false, if tellB (cs R) s.i s.q then (posN R s : Int) else s.q, false⟩

theorem Skips.bound {R : List Rn} {s t : NS} (h : Skips R s t) (hs : s.i ≤ R.length) : s.i ≤ t.i ∧ t.i ≤ R.length ∧ t.ds.length + s.i ≤ s.ds.length + t.i := by
  induction h with
  | refl => omega
  | white h hi hw ih =>
    have := hi.1
    have := ih
    simp only
    omega
  | com h hi hw hc ih =>
    have h1 := commentL_len (A := cs R) (by rw [cs_len]; exact hi.1)
    rw [cs_len] at h1
    have := ih
    simp only [List.length_append]
    split
    · simp only [List.length_cons, List.length_nil]; omega
    · simp only [List.length_nil]; omega

theorem KeptX.kb {w1 w3 wr : World} (h : KeptX w1 w3) (hb : Below w1.heap.size w3 wr) : KeptX w1 wr :=
  ⟨Nat.le_trans h.1 hb.size, fun k x e fz hx h1 h2 => (hb.block k (lt_of_block hx)).trans (h.2 k x e fz hx h1 h2)⟩

theorem cells8x {w : World} {b : Nat} {a0 a1 a2 a3 a4 a5 a6 a7 : Value} {e : TypeId} {fz : Nat × Nat} (h : w.heap[b]? = some (.cells #[a0, a1, a2, a3, a4, a5, a6, a7] e fz)) :
    w.cell? ⟨b, 0, none⟩ = some a0 ∧ w.cell? ⟨b, 1, none⟩ = some a1 ∧ w.cell? ⟨b, 2, none⟩ = some a2 ∧ w.cell? ⟨b, 3, none⟩ = some a3 ∧ w.cell? ⟨b, 4, none⟩ = some a4 ∧ w.cell? ⟨b, 5, none⟩ = some a5 ∧ w.cell? ⟨b, 6, none⟩ = some a6 ∧ w.cell? ⟨b, 7, none⟩ = some a7 :=
  ⟨by simpa using Lib.cell_of_heap h 0, by simpa using Lib.cell_of_heap h 1, by simpa using Lib.cell_of_heap h 2, by simpa using Lib.cell_of_heap h 3, by simpa using Lib.cell_of_heap h 4, by simpa using Lib.cell_of_heap h 5, by simpa using Lib.cell_of_heap h 6, by simpa using Lib.cell_of_heap h 7⟩

theorem com_open_end {A : List UInt8} {i : Nat} (h : (commentL A i).2 = true) : (commentL A i).1 = A.length := by
  revert h
  unfold commentL
  split
  · intro h; cases h
  · split
    · intro h; cases h
    · split
      · intro h; cases h
      · cases hc : comEnd (i + 2) (A.drop (i + 2)) with
        | none => intro _; rfl
        | some e => intro h; cases h

theorem set_at {w : World} {T : Nat} {xs : Array Value} {e : TypeId} {fz : Nat × Nat} (h : w.heap[T]? = some (.cells xs e fz)) (j : Nat) (u : Value) : (w.setCell ⟨T, j, none⟩ u).heap[T]? = some (.cells (xs.setIfInBounds j u) e fz) := by
  rw [setCell_eq_setRow _ _ _ _ _ _ _ h, setRow_heap _ _ _ _ _ _ h]

/-- all eight cells of a token are written -/
def set8 (w : World) (T : Nat) (b0 b1 b2 b3 b4 b5 b6 b7 : Value) : World := ((((((((w.setCell ⟨T, 0, none⟩ b0).setCell ⟨T, 1, none⟩ b1).setCell ⟨T, 2, none⟩ b2).setCell ⟨T, 3, none⟩ b3).setCell ⟨T, 4, none⟩ b4).setCell ⟨T, 5, none⟩ b5).setCell ⟨T, 6, none⟩ b6).setCell ⟨T, 7, none⟩ b7)

theorem set8_at {w : World} {T : Nat} {a0 a1 a2 a3 a4 a5 a6 a7 b0 b1 b2 b3 b4 b5 b6 b7 : Value} {e : TypeId} {fz : Nat × Nat} (h : w.heap[T]? = some (.cells #[a0, a1, a2, a3, a4, a5, a6, a7] e fz)) : (set8 w T b0 b1 b2 b3 b4 b5 b6 b7).heap[T]? = some (.cells #[b0, b1, b2, b3, b4, b5, b6, b7] e fz) := by
  have := (set_at (set_at (set_at (set_at (set_at (set_at (set_at (set_at h 0 b0) 1 b1) 2 b2) 3 b3) 4 b4) 5 b5) 6 b6) 7 b7)
  simpa [set8] using this

theorem set8_below {w W0 : World} {B T : Nat} {b0 b1 b2 b3 b4 b5 b6 b7 : Value} (h : Below B W0 w) (hB : B ≤ T) : Below B W0 (set8 w T b0 b1 b2 b3 b4 b5 b6 b7) :=
  ((((((((h.setCell (p := ⟨T, 0, none⟩) hB b0).setCell (p := ⟨T, 1, none⟩) hB b1).setCell (p := ⟨T, 2, none⟩) hB b2).setCell (p := ⟨T, 3, none⟩) hB b3).setCell (p := ⟨T, 4, none⟩) hB b4).setCell (p := ⟨T, 5, none⟩) hB b5).setCell (p := ⟨T, 6, none⟩) hB b6).setCell (p := ⟨T, 7, none⟩) hB b7)

theorem set8_other {w : World} {T k : Nat} {b0 b1 b2 b3 b4 b5 b6 b7 : Value} (h : k ≠ T) : (set8 w T b0 b1 b2 b3 b4 b5 b6 b7).heap[k]? = w.heap[k]? := by
  unfold set8
  rw [Below.heap_setCell _ _ _ _ h, Below.heap_setCell _ _ _ _ h, Below.heap_setCell _ _ _ _ h, Below.heap_setCell _ _ _ _ h, Below.heap_setCell _ _ _ _ h, Below.heap_setCell _ _ _ _ h, Below.heap_setCell _ _ _ _ h, Below.heap_setCell _ _ _ _ h]

theorem set8_eq {w : World} {T : Nat} {b0 b1 b2 b3 b4 b5 b6 b7 : Value} : ((((((((w.setCell ⟨T, 0, none⟩ b0).setCell ⟨T, 1, none⟩ b1).setCell ⟨T, 2, none⟩ b2).setCell ⟨T, 3, none⟩ b3).setCell ⟨T, 4, none⟩ b4).setCell ⟨T, 5, none⟩ b5).setCell ⟨T, 6, none⟩ b6).setCell ⟨T, 7, none⟩ b7) = set8 w T b0 b1 b2 b3 b4 b5 b6 b7 := rfl

theorem set8_cell {w : World} {T b j : Nat} {v b0 b1 b2 b3 b4 b5 b6 b7 : Value} (h : b ≠ T) (hc : w.cell? ⟨b, j, none⟩ = some v) : ((((((((w.setCell ⟨T, 0, none⟩ b0).setCell ⟨T, 1, none⟩ b1).setCell ⟨T, 2, none⟩ b2).setCell ⟨T, 3, none⟩ b3).setCell ⟨T, 4, none⟩ b4).setCell ⟨T, 5, none⟩ b5).setCell ⟨T, 6, none⟩ b6).setCell ⟨T, 7, none⟩ b7).cell? ⟨b, j, none⟩ = some v :=
  (World.cell?_of_block (set8_other h)).trans hc

theorem Own.swap {w w' : World} {B e sz T : Nat} {v : Value} {css : List (List Value)} (h : Own w B e sz v css) (hT : ∀ x fz, w.heap[T]? ≠ some (.cells x e fz)) (ho : ∀ k, k ≠ T → w'.heap[k]? = w.heap[k]?) : Own w' B e sz v css := by
  refine ⟨⟨h.1.1, ?_⟩, h.2⟩
  rcases h.1.2 with h0 | ⟨g, cap, cur, hv, hg1, hg, r⟩
  · exact .inl h0
  · refine .inr ⟨g, cap, cur, hv, hg1, (ho g ?_).trans hg, r⟩
    rintro rfl
    exact hT _ _ hg

theorem LwAt.swap {W0 w w' : World} {b T : Nat} {file : ByteArray} {n : Nat} {lo : Option Addr} {cap at_ : Nat} {vd : Value} {ds : List Dg} {sp : Bool} {q : Int} {y : Array Value} {fz : Nat × Nat} (h : LwAt W0 w b file n lo cap at_ vd ds sp q) (hT : w.heap[T]? = some (.cells y 34 fz)) (ho : ∀ k, k ≠ T → w'.heap[k]? = w.heap[k]?) (hB : Below T w w') (hbT : b < T) : LwAt W0 w' b file n lo cap at_ vd ds sp q :=
  ⟨(ho b (Nat.ne_of_lt hbT)).trans h.cells, h.below.swap hT (by decide) ho hB (Nat.le_of_lt hbT), h.diags.swap (fun x fz' e => by rw [hT] at e; simp only [Option.some.injEq, Obj.cells.injEq] at e; exact absurd e.2.1 (by decide)) ho⟩

theorem Bel.kb {b : Nat} {W0 w w' : World} {b1 B1 B2 : Nat} {l : List UInt8} (h : Bel b W0 w) (hb : Bld w B1 b1 l) (hk : Kb B2 b1 w w') (hbB : b ≤ B2) : Bel b W0 w' := by
  refine ⟨h.lo.trans (hk.below.mono hbB), fun k x fz hx => ?_⟩
  have hx2 := h.rn k x fz hx
  refine hk.others k _ hx2 ?_ ?_
  · intro e1
    obtain rfl := Option.some.inj e1
    obtain ⟨p, v', hbk⟩ : ∃ p v', w.heap[k]? = some (.cells #[p, v'] 74 (0, 0)) := by
      rcases hb with ⟨_, v', h1, _⟩ | ⟨_, v', h1, _⟩
      · exact ⟨_, v', h1⟩
      · exact ⟨_, v', h1⟩
    rw [hx2] at hbk
    simp only [Option.some.injEq, Obj.cells.injEq] at hbk
    exact absurd hbk.2.1 (by decide)
  · intro c fz' e1
    simp only [Obj.cells.injEq] at e1
    exact absurd e1.2.1 (by decide)

theorem LwAt.kb {W0 w w' : World} {b b1 B1 B2 : Nat} {file : ByteArray} {n : Nat} {lo : Option Addr} {cap at_ : Nat} {vd : Value} {ds : List Dg} {sp : Bool} {q : Int} {l : List UInt8} (h : LwAt W0 w b file n lo cap at_ vd ds sp q) (hb : Bld w B1 b1 l) (hk : Kb B2 b1 w w') (hbB : b < B2) : LwAt W0 w' b file n lo cap at_ vd ds sp q :=
  ⟨(hk.below.block b hbB).trans h.cells, h.below.kb hb hk (Nat.le_of_lt hbB), own_kb h.diags hb (by decide) (by decide) hk⟩

/-- ahead of a token's store -/
structure MidAt (W0 w7 x : World) (b : Nat) (file : ByteArray) (n : Nat) (lo : Option Addr) (cap at_ : Nat) (vd : Value) (ds : List Dg) (sp : Bool) (q : Int) (T : Nat) (l : List UInt8) (zt : Array Value) : Prop where
  lw : LwAt W0 x b file n lo cap at_ vd ds sp q
  bl : Bld x (T + 1) (T + 1) l
  be : Below (T + 1) w7 x
  tk : x.heap[T]? = some (.cells zt 34 (0, 0))
  sz : T + 2 ≤ x.heap.size

theorem MidAt.after {W0 w7 x x' : World} {b : Nat} {file : ByteArray} {n : Nat} {lo : Option Addr} {cap at_ : Nat} {vd : Value} {ds : List Dg} {sp : Bool} {q : Int} {T : Nat} {l : List UInt8} {zt : Array Value} (h : MidAt W0 w7 x b file n lo cap at_ vd ds sp q T l zt) (hb : Below x.heap.size x x') : MidAt W0 w7 x' b file n lo cap at_ vd ds sp q T l zt :=
  ⟨h.lw.after hb, h.bl.below hb, h.be.trans (hb.mono (by have := h.sz; omega)), (hb.block T (lt_of_block h.tk)).trans h.tk, Nat.le_trans h.sz hb.size⟩

theorem MidAt.kb {W0 w7 x x' : World} {b : Nat} {file : ByteArray} {n : Nat} {lo : Option Addr} {cap at_ : Nat} {vd : Value} {ds : List Dg} {sp : Bool} {q : Int} {T : Nat} {l l' : List UInt8} {zt : Array Value} (h : MidAt W0 w7 x b file n lo cap at_ vd ds sp q T l zt) (hbT : b < T) (hbl : Bld x' (T + 1) (T + 1) l') (hk : Kb (T + 1) (T + 1) x x') : MidAt W0 w7 x' b file n lo cap at_ vd ds sp q T l' zt :=
  ⟨h.lw.kb h.bl hk (by omega), hbl, h.be.trans hk.below, (hk.below.block T (by omega)).trans h.tk, Nat.le_trans h.sz hk.below.size⟩

theorem LwAt.space {W0 w : World} {b : Nat} {file : ByteArray} {n : Nat} {lo : Option Addr} {cap at_ : Nat} {vd : Value} {ds : List Dg} {sp : Bool} {q : Int} (h : LwAt W0 w b file n lo cap at_ vd ds sp q) (sp2 : Bool) :
    LwAt W0 (w.setCell ⟨b, 4, none⟩ (.bool sp2)) b file n lo cap at_ vd ds sp2 q :=
  ⟨lw_set4 h.cells _, h.below.set h.cells (by decide) (Nat.le_refl _) 4 _, h.diags.setBelow (Nat.lt_succ_self _) _⟩
end Go.Proofs.YtfaoamdlknlgpaaGreat
