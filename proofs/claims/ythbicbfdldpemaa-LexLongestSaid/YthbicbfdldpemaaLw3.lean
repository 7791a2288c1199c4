/- lex's span. -/
import Derived.Test.YthbicbfdldpemaaLw2
import Derived.Test.YthbicbfdldpemaaLxSpec2
import Derived.Test.YthbicbfdldpemaaLx8
namespace Go.Proofs.Ythbicbfdldpemaa
open Go.RowKit
set_option linter.unusedVariables false

theorem rF_at {R : List Rn} {i : Nat} {r : Rn} (h : R[i]? = some r) : rF R i = r.f := by simp [rF, h]
theorem rT_at {R : List Rn} {i : Nat} {r : Rn} (h : R[i]? = some r) : rT R i = r.t := by simp [rT, h]

set_option maxRecDepth 100000 in
theorem span_any (b : Nat) (R : List Rn) (lo : Option Addr) (cap at_ : Nat) (file : ByteArray) (i k : Nat) (hi : i < R.length) (hk : k < R.length) (w : World) (h : WkAt w b R lo cap at_) (hf : w.cell? ⟨b, 0, none⟩ = some (.string file)) :
    Calls Try.prog 89 #[.pointer (some ⟨b, 0, none⟩), .int .i64 i, .int .i64 ((k : Int) + 1)] w fun e w' => e = .returned (.agg #[.string file, .int .i64 (rF R i), .int .i64 (rT R k)]) ∧ Below w.heap.size w w' := by
  obtain ⟨ri, hri⟩ : ∃ r, R[i]? = some r := ⟨R[i], by simp [hi]⟩
  obtain ⟨rk, hrk⟩ : ∃ r, R[k]? = some r := ⟨R[k], by simp [hk]⟩
  rw [rF_at hri, rT_at hrk]
  obtain ⟨c1, c2, hrow, hlc, hlen, hat⟩ := h
  obtain ⟨g, o, rfl, ha⟩ := hrow (by intro h; simp at h; subst h; simp at hri)
  have c3 := ha.cell (i := i) (cs := ri.v) (by simp [hri]) (j := 1) (u := .int .i64 ri.f) rfl
  have c4 := ha.cell (i := k) (cs := rk.v) (by simp [hrk]) (j := 2) (u := .int .i64 rk.t) rfl
  obtain ⟨n, hn⟩ : ∃ n, n = R.length := ⟨_, rfl⟩
  rw [← hn] at c1 hi hk hlc
  have e1 : (i : Int) < n := by omega
  have e2 : (k : Int) < n := by omega
  have e3 : IntKind.i64.wrap ((k : Int) + 1 - 1) = k := by rw [show (k : Int) + 1 - 1 = k by omega]; exact IntWalk.i64_in _ (by omega)
  have e5 : IntKind.i64.wrap (k : Int) = k := IntWalk.i64_in _ (by omega)
  have ho : ∀ o, Below w.heap.size w (w.alloc o) := fun o => (Below.refl _ w).alloc (Nat.le_refl _) o
  have d1 := fun o => kept_cell (ho o) c1
  have d3 := fun o => kept_cell (ho o) c3
  have d4 := fun o => kept_cell (ho o) c4
  have df := fun o => kept_cell (ho o) hf
  clear hri hrk ha hrow hn c2
  go_enter Try.func89, Try.ntmps89
  go_wp2_with fail
  go_region
  all_goals
    go_wp2
    have hn := heap_alloc_new w (.cells #[.string file, .int .i64 ri.f, .int .i64 rk.t] 27)
    have m0 := Lib.cell_of_heap hn 0
    have m1 := Lib.cell_of_heap hn 1
    have m2 := Lib.cell_of_heap hn 2
    refine bodyPost_ret (v := .agg #[.string file, .int .i64 ri.f, .int .i64 rk.t]) (by simp [results, Try.results89, go_sem, m0, m1, m2]) rfl ⟨rfl, (ho _).drew⟩

/-! ## what lies in memory while a text is gone through -/

/-- all cells but those of diagnostics and of the walk itself are kept -/
def KeptX (w w' : World) : Prop := w.heap.size ≤ w'.heap.size ∧ ∀ (k : Nat) (x : Array Value) (e : TypeId) (fz : Nat × Nat), w.heap[k]? = some (Obj.cells x e fz) → e ≠ 38 → e ≠ 94 → w'.heap[k]? = some (Obj.cells x e fz)

theorem KeptX.refl (w : World) : KeptX w w := ⟨Nat.le_refl _, fun _ _ _ _ h _ _ => h⟩
theorem KeptX.trans {a b c : World} (h : KeptX a b) (k : KeptX b c) : KeptX a c := ⟨Nat.le_trans h.1 k.1, fun i x e fz hx h1 h2 => k.2 i x e fz (h.2 i x e fz hx h1 h2) h1 h2⟩
theorem KeptX.below {w w' : World} (h : Below w.heap.size w w') : KeptX w w' := ⟨h.size, fun k x e fz hx _ _ => (h.block k (lt_of_block hx)).trans hx⟩
theorem KeptX.set {w : World} {b : Nat} {y : Array Value} {fz : Nat × Nat} (h : w.heap[b]? = some (.cells y 94 fz)) (j : Nat) (u : Value) : KeptX w (w.setCell ⟨b, j, none⟩ u) := by
  refine ⟨by simp, fun k x e fz' hx h1 h2 => ?_⟩
  by_cases hk : k = b
  · subst hk
    rw [h] at hx
    simp only [Option.some.injEq, Obj.cells.injEq] at hx
    exact absurd hx.2.1.symm h2
  · exact (Below.heap_setCell w ⟨b, j, none⟩ u k hk).trans hx
theorem KeptX.app {w w' : World} {B sz : Nat} {v : Value} {css : List (List Value)} (h : Own w B 38 sz v css) (hg : w.grownBy w' v.ownBlock) : KeptX w w' := by
  refine ⟨hg.size, fun k x e fz hx h1 h2 => ?_⟩
  rw [hg.block k (lt_of_block hx)]
  · exact hx
  · intro e1
    obtain ⟨c, fz', hc⟩ := h.size_lt k e1.symm
    rw [hx] at hc
    simp only [Option.some.injEq, Obj.cells.injEq] at hc
    exact h1 hc.2.1

theorem Own.keptX {w w' : World} {B e sz : Nat} {v : Value} {css : List (List Value)} (h : Own w B e sz v css) (k : KeptX w w') (h1 : e ≠ 38) (h2 : e ≠ 94) : Own w' B e sz v css := by
  refine ⟨⟨h.1.1, ?_⟩, h.2⟩
  rcases h.1.2 with h0 | ⟨g, cap, cur, hv, hg1, hg, r⟩
  · exact .inl h0
  · exact .inr ⟨g, cap, cur, hv, hg1, k.2 g _ _ _ hg h1 h2, r⟩

/-- the characters' blocks are kept -/
def KeptRn (w w' : World) : Prop := ∀ (k : Nat) (x : Array Value) (fz : Nat × Nat), w.heap[k]? = some (Obj.cells x 97 fz) → w'.heap[k]? = some (Obj.cells x 97 fz)

structure Bel (b : Nat) (W0 w : World) : Prop where
  lo : Below b W0 w
  rn : KeptRn W0 w

theorem Bel.refl (b : Nat) (w : World) : Bel b w w := ⟨Below.refl _ _, fun _ _ _ h => h⟩

theorem Bel.after {b : Nat} {W0 w w' : World} (h : Bel b W0 w) (hb : Below w.heap.size w w') (hl : b ≤ w.heap.size) : Bel b W0 w' :=
  ⟨h.lo.trans (hb.mono hl), fun k x fz hx => (hb.block k (lt_of_block (h.rn k x fz hx))).trans (h.rn k x fz hx)⟩

theorem Bel.swap {b T : Nat} {W0 w w' : World} {y : Array Value} {e : TypeId} {fz : Nat × Nat} (h : Bel b W0 w) (hT : w.heap[T]? = some (.cells y e fz)) (he : e ≠ 97) (ho : ∀ k, k ≠ T → w'.heap[k]? = w.heap[k]?) (hB : Below T w w') (hbT : b ≤ T) : Bel b W0 w' := by
  refine ⟨h.lo.trans (hB.mono hbT), fun k x fz' hx => ?_⟩
  have hk := h.rn k x fz' hx
  refine (ho k ?_).trans hk
  rintro rfl
  rw [hT] at hk
  simp only [Option.some.injEq, Obj.cells.injEq] at hk
  exact he hk.2.1

theorem Bel.set {b T : Nat} {W0 w : World} {y : Array Value} {e : TypeId} {fz : Nat × Nat} (h : Bel b W0 w) (hT : w.heap[T]? = some (.cells y e fz)) (he : e ≠ 97) (hbT : b ≤ T) (j : Nat) (u : Value) : Bel b W0 (w.setCell ⟨T, j, none⟩ u) :=
  h.swap hT he (fun k hk => Below.heap_setCell _ _ _ _ hk) ((Below.refl _ _).setCell (p := ⟨T, j, none⟩) (Nat.le_refl _) _) hbT

theorem Bel.app {b : Nat} {W0 w w' : World} {B e sz : Nat} {v : Value} {css : List (List Value)} (h : Bel b W0 w) (ho : Own w B e sz v css) (he : e ≠ 97) (hg : w.grownBy w' v.ownBlock) (hbB : b ≤ B) (hl : b ≤ w.heap.size) : Bel b W0 w' := by
  refine ⟨bapp h.lo (ho.mono hbB) hg hl, fun k x fz hx => ?_⟩
  have hk := h.rn k x fz hx
  refine (hg.block k (lt_of_block hk) ?_).trans hk
  intro e1
  obtain ⟨c, fz', hc⟩ := ho.size_lt k e1.symm
  rw [hk] at hc
  simp only [Option.some.injEq, Obj.cells.injEq] at hc
  exact he hc.2.1.symm

/-- the walk: its block, what it has told so far -/
structure LwAt (W0 w : World) (b : Nat) (file : ByteArray) (n : Nat) (lo : Option Addr) (cap at_ : Nat) (vd : Value) (ds : List Dg) (sp : Bool) (q : Int) : Prop where
  cells : w.heap[b]? = some (.cells #[.string file, .slice lo n cap, .int .i64 at_, vd, .bool sp, .int .i64 q] 94 (0, 0))
  below : Bel b W0 w
  diags : Own w (b + 1) 38 4 vd (ds.map (dgC file))

theorem cells6 {w : World} {b : Nat} {a0 a1 a2 a3 a4 a5 : Value} {e : TypeId} {fz : Nat × Nat} (h : w.heap[b]? = some (.cells #[a0, a1, a2, a3, a4, a5] e fz)) :
    w.cell? ⟨b, 0, none⟩ = some a0 ∧ w.cell? ⟨b, 1, none⟩ = some a1 ∧ w.cell? ⟨b, 2, none⟩ = some a2 ∧ w.cell? ⟨b, 3, none⟩ = some a3 ∧ w.cell? ⟨b, 4, none⟩ = some a4 ∧ w.cell? ⟨b, 5, none⟩ = some a5 :=
  ⟨by simpa using Lib.cell_of_heap h 0, by simpa using Lib.cell_of_heap h 1, by simpa using Lib.cell_of_heap h 2, by simpa using Lib.cell_of_heap h 3, by simpa using Lib.cell_of_heap h 4, by simpa using Lib.cell_of_heap h 5⟩

theorem lw_set2 {w : World} {b : Nat} {a0 a1 a2 a3 a4 a5 : Value} {e : TypeId} {fz : Nat × Nat} (h : w.heap[b]? = some (.cells #[a0, a1, a2, a3, a4, a5] e fz)) (u : Value) :
    (w.setCell ⟨b, 2, none⟩ u).heap[b]? = some (.cells #[a0, a1, u, a3, a4, a5] e fz) := by
  rw [setCell_eq_setRow _ _ _ _ _ _ _ h, setRow_heap _ _ _ _ _ _ h]
  rfl
theorem lw_set3 {w : World} {b : Nat} {a0 a1 a2 a3 a4 a5 : Value} {e : TypeId} {fz : Nat × Nat} (h : w.heap[b]? = some (.cells #[a0, a1, a2, a3, a4, a5] e fz)) (u : Value) :
    (w.setCell ⟨b, 3, none⟩ u).heap[b]? = some (.cells #[a0, a1, a2, u, a4, a5] e fz) := by
  rw [setCell_eq_setRow _ _ _ _ _ _ _ h, setRow_heap _ _ _ _ _ _ h]
  rfl
theorem lw_set4 {w : World} {b : Nat} {a0 a1 a2 a3 a4 a5 : Value} {e : TypeId} {fz : Nat × Nat} (h : w.heap[b]? = some (.cells #[a0, a1, a2, a3, a4, a5] e fz)) (u : Value) :
    (w.setCell ⟨b, 4, none⟩ u).heap[b]? = some (.cells #[a0, a1, a2, a3, u, a5] e fz) := by
  rw [setCell_eq_setRow _ _ _ _ _ _ _ h, setRow_heap _ _ _ _ _ _ h]
  rfl
theorem lw_set5 {w : World} {b : Nat} {a0 a1 a2 a3 a4 a5 : Value} {e : TypeId} {fz : Nat × Nat} (h : w.heap[b]? = some (.cells #[a0, a1, a2, a3, a4, a5] e fz)) (u : Value) :
    (w.setCell ⟨b, 5, none⟩ u).heap[b]? = some (.cells #[a0, a1, a2, a3, a4, u] e fz) := by
  rw [setCell_eq_setRow _ _ _ _ _ _ _ h, setRow_heap _ _ _ _ _ _ h]
  rfl

theorem LwAt.after {W0 w w' : World} {b : Nat} {file : ByteArray} {n : Nat} {lo : Option Addr} {cap at_ : Nat} {vd : Value} {ds : List Dg} {sp : Bool} {q : Int} (h : LwAt W0 w b file n lo cap at_ vd ds sp q) (hb : Below w.heap.size w w') : LwAt W0 w' b file n lo cap at_ vd ds sp q :=
  ⟨(hb.block _ (lt_of_block h.cells)).trans h.cells, h.below.after hb (Nat.le_of_lt (lt_of_block h.cells)), h.diags.below hb⟩

theorem LwAt.at {W0 w : World} {b : Nat} {file : ByteArray} {n : Nat} {lo : Option Addr} {cap at_ : Nat} {vd : Value} {ds : List Dg} {sp : Bool} {q : Int} (h : LwAt W0 w b file n lo cap at_ vd ds sp q) (at2 : Nat) :
    LwAt W0 (w.setCell ⟨b, 2, none⟩ (.int .i64 at2)) b file n lo cap at2 vd ds sp q :=
  ⟨lw_set2 h.cells _, h.below.set h.cells (by decide) (Nat.le_refl _) 2 _, h.diags.setBelow (Nat.lt_succ_self _) _⟩

/-- the parts that are only read -/
theorem LwAt.wk {W0 w : World} {b : Nat} {file : ByteArray} {R : List Rn} {lo : Option Addr} {cap at_ : Nat} {vd : Value} {ds : List Dg} {sp : Bool} {q : Int} (h : LwAt W0 w b file R.length lo cap at_ vd ds sp q) (HR : ∀ w', Bel b W0 w' → Row w' 3 lo (R.map Rn.v)) (hc : R.length ≤ cap) (hl : R.length ≤ 2000000) (ha : at_ ≤ 4000000) : WkAt w b R lo cap at_ :=
  ⟨(cells6 h.cells).2.1, (cells6 h.cells).2.2.1, HR w h.below, hc, hl, ha⟩
end Go.Proofs.Ythbicbfdldpemaa
