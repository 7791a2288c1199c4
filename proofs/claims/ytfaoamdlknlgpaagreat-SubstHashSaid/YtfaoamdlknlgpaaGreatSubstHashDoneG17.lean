/- Texts of this seat's proofs, laid into one file. -/
import Derived.Test.YtfaoamdlknlgpaaGreatSubstHashDoneG10
import Derived.Deep.LoopGhost
import Derived.Test.YtfaoamdlknlgpaaGreatSubstHashDoneG6
import Derived.BigQuiet
/- lex's has and span. -/
namespace Go.Proofs.YtfaoamdlknlgpaaGreat
open Go.RowKit
set_option linter.unusedVariables false

theorem drewN_below (w : World) (q : Nat) : Below w.heap.size w (w.drewN q) := below_drewN (Below.refl _ w) q

theorem WkAt.below {w w' : World} {b : Nat} {R : List Rn} {lo : Option Addr} {cap at_ : Nat} (h : WkAt w b R lo cap at_) (hb : Below w.heap.size w w') : WkAt w' b R lo cap at_ :=
  ⟨kept_cell hb h.l, kept_cell hb h.here, h.row.below hb, h.lcap, h.len, h.atl⟩

theorem drewN_add (w : World) (p q : Nat) : (w.drewN p).drewN q = w.drewN (p + q) := by
  induction q with
  | zero => rfl
  | succ q ih => exact congrArg World.drew ih

/-- is a text the next characters? (the texts asked for have no 0 in them, but the empty one) -/
def hasL (A : List UInt8) (i : Nat) (p : List UInt8) : Bool := decide (i + p.length ≤ A.length) && (List.range p.length).all fun j => chAt A (i + j) == p.getD j 0

set_option maxRecDepth 100000 in
theorem has_any (b : Nat) (R : List Rn) (lo : Option Addr) (cap at_ : Nat) (s : ByteArray) (hs : s.size ≤ 10) (w : World) (h : WkAt w b R lo cap at_) :
    Calls Tryz.prog 103 #[.pointer (some ⟨b, 0, none⟩), .string s] w fun e w' => e = .returned (.bool (hasL (cs R) at_ s.data.toList)) ∧ ∃ q, w' = w.drewN q := by
  have HW := fun q => h.below (drewN_below w q)
  obtain ⟨c1, c2, hrow, hlc, hlen, hat⟩ := h
  obtain ⟨n, hn⟩ : ∃ n, n = R.length := ⟨_, rfl⟩
  have HN : Hid (R.length = n) := Lib.hid hn.symm
  have HR : Hid (hasL (cs R) at_ s.data.toList = (decide (at_ + s.size ≤ n) && (List.range s.size).all fun j => chAt (cs R) (at_ + j) == s.data.toList.getD j 0)) := Lib.hid (by
    unfold hasL
    rw [cs_len, ← hn, ← Lib.size_eq])
  obtain ⟨res, hres⟩ : ∃ res, res = hasL (cs R) at_ s.data.toList := ⟨_, rfl⟩
  rw [← hres] at HR ⊢
  clear hres
  rw [← hn] at c1 hlc hlen
  have q1 : IntKind.i64.wrap ((at_ : Int) + s.size) = (at_ : Int) + s.size := IntWalk.i64_in _ (by omega)
  clear hn
  go_enter Tryz.func103, Tryz.ntmps103
  by_cases hl : at_ + s.size ≤ n
  · have e1 : ¬ (n : Int) < (at_ : Int) + s.size := by omega
    go_wp2_with fail
    go_quiet (fail)
    go_wp2_with fail
    go_loopg [21] s.size (fun u v w9 => ∃ k : Nat, u = s.size - k ∧ k ≤ s.size ∧ v = .int .i64 k ∧ (∃ q, w9 = w.drewN q) ∧ Hid (∀ j, j < k → chAt (cs R) (at_ + j) = s.data.toList.getD j 0))
    case atStart => exact ⟨0, rfl, Nat.zero_le _, rfl, ⟨_, rfl⟩, Lib.hid (fun j hj => absurd hj (Nat.not_lt_zero _))⟩
    case round =>
      obtain ⟨k, rfl, hk, rfl, ⟨q, hq⟩, hall⟩ := hrel
      have hW := HW q
      rw [← hq] at hW
      replace hq := Lib.hid hq
      obtain ⟨d1, d2, hrow2, _, _, _⟩ := hW
      rw [HN.out] at d1
      by_cases hlt : k < s.size
      · have hji : (k : Int) < (s.size : Int) := by omega
        obtain ⟨r, hr⟩ : ∃ r, R[at_ + k]? = some r := ⟨R[at_ + k]'(by rw [HN.out]; omega), by simp⟩
        have hrc := cs_at hr
        obtain ⟨g, o, rfl, ha⟩ := hrow2 (by intro h; simp at h; subst h; simp at hr)
        have c0 := ha.cell (i := at_ + k) (cs := r.v) (by simp [hr]) (j := 0) (u := .int .u8 r.c.toNat) rfl
        simp only [Nat.add_zero] at c0
        have q2 : IntKind.i64.wrap ((at_ : Int) + k) = (at_ : Int) + k := IntWalk.i64_in _ (by omega)
        have e2 : (at_ : Int) + k < n := by omega
        have e3 : (0 : Int) ≤ (at_ : Int) + k := by omega
        have e4 : ((at_ : Int) + k).toNat = at_ + k := by omega
        have HG : Hid (s.data.toList.getD k 0 = s[k]'hlt) := Lib.hid (by
          rw [List.getD_eq_getElem?_getD, List.getElem?_eq_getElem (by rw [← Lib.size_eq]; exact hlt)]
          rfl)
        replace hr := Lib.hid hr
        replace hrc := Lib.hid hrc
        clear ha hrow2
        by_cases hm : (r.c.toNat : Int) = ((s[k]'hlt).toNat : Int)
        · have hm' : ((r.c.toNat : Int) == ((s[k]'hlt).toNat : Int)) = true := by simpa using hm
          have hnew : chAt (cs R) (at_ + k) = s.data.toList.getD k 0 := by rw [HG.out, hrc.out]; exact (u8eq _ _).2 hm
          replace hnew := Lib.hid hnew
          replace hm := Lib.hid hm
          clear HG
          go_wp2_with fail
          go_quiet (fail)
          go_wp2_with fail
          go_roundg (s.size - (k + 1))
          case measure => omega
          case rel =>
            refine ⟨k + 1, rfl, by omega, by go_num, ⟨q + nq, by rw [hq.out, drewN_add]⟩, Lib.hid ?_⟩
            intro m hmj
            by_cases hmm : m = k
            · subst hmm; exact hnew.out
            · exact hall.out m (by omega)
        · have hm' : ((r.c.toNat : Int) == ((s[k]'hlt).toNat : Int)) = false := by simpa using hm
          have hnew : chAt (cs R) (at_ + k) ≠ s.data.toList.getD k 0 := by rw [HG.out, hrc.out]; intro e; exact hm ((u8eq _ _).1 e)
          have hres : Hid (res = false) := Lib.hid (by
            rw [HR.out, Bool.and_eq_false_iff]
            right
            rw [List.all_eq_false]
            exact ⟨k, List.mem_range.2 hlt, by simpa using hnew⟩)
          replace hnew := Lib.hid hnew
          replace hm := Lib.hid hm
          clear HG
          go_wp2_with fail
          go_quiet (fail)
          go_wp2
          go_ret
          exact ⟨by rw [hres.out]; rfl, q + nq, by rw [hq.out, drewN_add]⟩
      · have hres : Hid (res = true) := Lib.hid (by
          rw [HR.out, Bool.and_eq_true]
          refine ⟨decide_eq_true hl, List.all_eq_true.2 fun j hj => ?_⟩
          have := hall.out j (by have := List.mem_range.1 hj; omega)
          simpa using this)
        have hjf : ¬ (k : Int) < (s.size : Int) := by omega
        go_wp2
        go_ret
        exact ⟨by rw [hres.out]; rfl, q, hq.out⟩
  · have e1 : (n : Int) < (at_ : Int) + s.size := by omega
    have hres : Hid (res = false) := Lib.hid (by
      rw [HR.out, Bool.and_eq_false_iff]
      exact .inl (decide_eq_false hl))
    go_wp2_with fail
    go_quiet (fail)
    go_wp2
    go_ret
    exact ⟨by rw [hres.out]; rfl, _, rfl⟩
end Go.Proofs.YtfaoamdlknlgpaaGreat

/- lex's span. -/
namespace Go.Proofs.YtfaoamdlknlgpaaGreat
open Go.RowKit
set_option linter.unusedVariables false

theorem rF_at {R : List Rn} {i : Nat} {r : Rn} (h : R[i]? = some r) : rF R i = r.f := by simp [rF, h]
theorem rT_at {R : List Rn} {i : Nat} {r : Rn} (h : R[i]? = some r) : rT R i = r.t := by simp [rT, h]

set_option maxRecDepth 100000 in
theorem span_any (b : Nat) (R : List Rn) (lo : Option Addr) (cap at_ : Nat) (file : ByteArray) (i k : Nat) (hi : i < R.length) (hk : k < R.length) (w : World) (h : WkAt w b R lo cap at_) (hf : w.cell? ⟨b, 0, none⟩ = some (.string file)) :
    Calls Tryz.prog 90 #[.pointer (some ⟨b, 0, none⟩), .int .i64 i, .int .i64 ((k : Int) + 1)] w fun e w' => e = .returned (.agg #[.string file, .int .i64 (rF R i), .int .i64 (rT R k)]) ∧ Below w.heap.size w w' := by
  obtain ⟨ri, hri⟩ : ∃ r, R[i]? = some r := ⟨R[i], by simp [hi]⟩
  obtain ⟨rk, hrk⟩ : ∃ r, R[k]? = some r := ⟨R[k], by simp [hk]⟩
  rw [rF_at hri, rT_at hrk]
  obtain ⟨c1, c2, hrow, hlc, hlen, hat⟩ := h
  obtain ⟨g, o, rfl, ha⟩ := hrow (by intro h; simp at h; subst h; simp at hri)
  have c3 := ha.cell (i := i) (cs := ri.v) (by simp [hri]) (j := 1) (u := .int .i64 ri.f) rfl
  have c4 := ha.cell (i := k) (cs := rk.v) (by simp [hrk]) (j := 2) (u := .int .i64 rk.t) rfl
  obtain ⟨n, hn⟩ : ∃ n, n = R.length := ⟨_, rfl⟩
  rw [← hn] at c1 hi hk hlc
  have e1 : (i : Int) < n := by omega
  have e2 : (k : Int) < n := by omega
  have e3 : IntKind.i64.wrap ((k : Int) + 1 - 1) = k := by rw [show (k : Int) + 1 - 1 = k by omega]; exact IntWalk.i64_in _ (by omega)
  have e5 : IntKind.i64.wrap (k : Int) = k := IntWalk.i64_in _ (by omega)
  have ho : ∀ o, Below w.heap.size w (w.alloc o) := fun o => (Below.refl _ w).alloc (Nat.le_refl _) o
  have d1 := fun o => kept_cell (ho o) c1
  have d3 := fun o => kept_cell (ho o) c3
  have d4 := fun o => kept_cell (ho o) c4
  have df := fun o => kept_cell (ho o) hf
  clear hri hrk ha hrow hn c2
  go_enter Tryz.func90, Tryz.ntmps90
  go_wp2_with fail
  go_region
  all_goals
    go_wp2
    have hn := heap_alloc_new w (.cells #[.string file, .int .i64 ri.f, .int .i64 rk.t] 31)
    have m0 := Lib.cell_of_heap hn 0
    have m1 := Lib.cell_of_heap hn 1
    have m2 := Lib.cell_of_heap hn 2
    refine bodyPost_ret (v := .agg #[.string file, .int .i64 ri.f, .int .i64 rk.t]) (by simp [results, Tryz.results90, go_sem, m0, m1, m2]) rfl ⟨rfl, (ho _).drew⟩

/-! ## what lies in memory while a text is gone through -/

/-- all cells but those of diagnostics and of the walk itself are kept -/
def KeptX (w w' : World) : Prop := w.heap.size ≤ w'.heap.size ∧ ∀ (k : Nat) (x : Array Value) (e : TypeId) (fz : Nat × Nat), w.heap[k]? = some (Obj.cells x e fz) → e ≠ 68 → e ≠ 122 → w'.heap[k]? = some (Obj.cells x e fz)

theorem KeptX.refl (w : World) : KeptX w w := ⟨Nat.le_refl _, fun _ _ _ _ h _ _ => h⟩
theorem KeptX.trans {a b c : World} (h : KeptX a b) (k : KeptX b c) : KeptX a c := ⟨Nat.le_trans h.1 k.1, fun i x e fz hx h1 h2 => k.2 i x e fz (h.2 i x e fz hx h1 h2) h1 h2⟩
theorem KeptX.below {w w' : World} (h : Below w.heap.size w w') : KeptX w w' := ⟨h.size, fun k x e fz hx _ _ => (h.block k (lt_of_block hx)).trans hx⟩
theorem KeptX.set {w : World} {b : Nat} {y : Array Value} {fz : Nat × Nat} (h : w.heap[b]? = some (.cells y 122 fz)) (j : Nat) (u : Value) : KeptX w (w.setCell ⟨b, j, none⟩ u) := by
  refine ⟨by simp, fun k x e fz' hx h1 h2 => ?_⟩
  by_cases hk : k = b
  · subst hk
    rw [h] at hx
    simp only [Option.some.injEq, Obj.cells.injEq] at hx
    exact absurd hx.2.1.symm h2
  · exact (Below.heap_setCell w ⟨b, j, none⟩ u k hk).trans hx
theorem KeptX.app {w w' : World} {B sz : Nat} {v : Value} {css : List (List Value)} (h : Own w B 68 sz v css) (hg : w.grownBy w' v.ownBlock) : KeptX w w' := by
  refine ⟨hg.size, fun k x e fz hx h1 h2 => ?_⟩
  rw [hg.block k (lt_of_block hx)]
  · exact hx
  · intro e1
    obtain ⟨c, fz', hc⟩ := h.size_lt k e1.symm
    rw [hx] at hc
    simp only [Option.some.injEq, Obj.cells.injEq] at hc
    exact h1 hc.2.1

theorem Own.keptX {w w' : World} {B e sz : Nat} {v : Value} {css : List (List Value)} (h : Own w B e sz v css) (k : KeptX w w') (h1 : e ≠ 68) (h2 : e ≠ 122) : Own w' B e sz v css := by
  refine ⟨⟨h.1.1, ?_⟩, h.2⟩
  rcases h.1.2 with h0 | ⟨g, cap, cur, hv, hg1, hg, r⟩
  · exact .inl h0
  · exact .inr ⟨g, cap, cur, hv, hg1, k.2 g _ _ _ hg h1 h2, r⟩

/-- the characters' blocks are kept -/
def KeptRn (w w' : World) : Prop := ∀ (k : Nat) (x : Array Value) (fz : Nat × Nat), w.heap[k]? = some (Obj.cells x 123 fz) → w'.heap[k]? = some (Obj.cells x 123 fz)

structure Bel (b : Nat) (W0 w : World) : Prop where
  lo : Below b W0 w
  rn : KeptRn W0 w

theorem Bel.refl (b : Nat) (w : World) : Bel b w w := ⟨Below.refl _ _, fun _ _ _ h => h⟩

theorem Bel.after {b : Nat} {W0 w w' : World} (h : Bel b W0 w) (hb : Below w.heap.size w w') (hl : b ≤ w.heap.size) : Bel b W0 w' :=
  ⟨h.lo.trans (hb.mono hl), fun k x fz hx => (hb.block k (lt_of_block (h.rn k x fz hx))).trans (h.rn k x fz hx)⟩

theorem Bel.swap {b T : Nat} {W0 w w' : World} {y : Array Value} {e : TypeId} {fz : Nat × Nat} (h : Bel b W0 w) (hT : w.heap[T]? = some (.cells y e fz)) (he : e ≠ 123) (ho : ∀ k, k ≠ T → w'.heap[k]? = w.heap[k]?) (hB : Below T w w') (hbT : b ≤ T) : Bel b W0 w' := by
  refine ⟨h.lo.trans (hB.mono hbT), fun k x fz' hx => ?_⟩
  have hk := h.rn k x fz' hx
  refine (ho k ?_).trans hk
  rintro rfl
  rw [hT] at hk
  simp only [Option.some.injEq, Obj.cells.injEq] at hk
  exact he hk.2.1

theorem Bel.set {b T : Nat} {W0 w : World} {y : Array Value} {e : TypeId} {fz : Nat × Nat} (h : Bel b W0 w) (hT : w.heap[T]? = some (.cells y e fz)) (he : e ≠ 123) (hbT : b ≤ T) (j : Nat) (u : Value) : Bel b W0 (w.setCell ⟨T, j, none⟩ u) :=
  h.swap hT he (fun k hk => Below.heap_setCell _ _ _ _ hk) ((Below.refl _ _).setCell (p := ⟨T, j, none⟩) (Nat.le_refl _) _) hbT

theorem Bel.app {b : Nat} {W0 w w' : World} {B e sz : Nat} {v : Value} {css : List (List Value)} (h : Bel b W0 w) (ho : Own w B e sz v css) (he : e ≠ 123) (hg : w.grownBy w' v.ownBlock) (hbB : b ≤ B) (hl : b ≤ w.heap.size) : Bel b W0 w' := by
  refine ⟨bapp h.lo (ho.mono hbB) hg hl, fun k x fz hx => ?_⟩
  have hk := h.rn k x fz hx
  refine (hg.block k (lt_of_block hk) ?_).trans hk
  intro e1
  obtain ⟨c, fz', hc⟩ := ho.size_lt k e1.symm
  rw [hk] at hc
  simp only [Option.some.injEq, Obj.cells.injEq] at hc
  exact he hc.2.1.symm

/-- the walk: its block, what it has told so far -/
structure LwAt (W0 w : World) (b : Nat) (file : ByteArray) (n : Nat) (lo : Option Addr) (cap at_ : Nat) (vd : Value) (ds : List Dg) (sp : Bool) (q : Int) : Prop where
  cells : w.heap[b]? = some (.cells #[.string file, .slice lo n cap, .int .i64 at_, vd, .bool sp, .int .i64 q] 122 (0, 0))
  below : Bel b W0 w
  diags : Own w (b + 1) 68 4 vd (ds.map (dgC file))

theorem cells6 {w : World} {b : Nat} {a0 a1 a2 a3 a4 a5 : Value} {e : TypeId} {fz : Nat × Nat} (h : w.heap[b]? = some (.cells #[a0, a1, a2, a3, a4, a5] e fz)) :
    w.cell? ⟨b, 0, none⟩ = some a0 ∧ w.cell? ⟨b, 1, none⟩ = some a1 ∧ w.cell? ⟨b, 2, none⟩ = some a2 ∧ w.cell? ⟨b, 3, none⟩ = some a3 ∧ w.cell? ⟨b, 4, none⟩ = some a4 ∧ w.cell? ⟨b, 5, none⟩ = some a5 :=
  ⟨by simpa using Lib.cell_of_heap h 0, by simpa using Lib.cell_of_heap h 1, by simpa using Lib.cell_of_heap h 2, by simpa using Lib.cell_of_heap h 3, by simpa using Lib.cell_of_heap h 4, by simpa using Lib.cell_of_heap h 5⟩

theorem lw_set2 {w : World} {b : Nat} {a0 a1 a2 a3 a4 a5 : Value} {e : TypeId} {fz : Nat × Nat} (h : w.heap[b]? = some (.cells #[a0, a1, a2, a3, a4, a5] e fz)) (u : Value) :
    (w.setCell ⟨b, 2, none⟩ u).heap[b]? = some (.cells #[a0, a1, u, a3, a4, a5] e fz) := by
  rw [setCell_eq_setRow _ _ _ _ _ _ _ h, setRow_heap _ _ _ _ _ _ h]
  rfl
theorem lw_set3 {w : World} {b : Nat} {a0 a1 a2 a3 a4 a5 : Value} {e : TypeId} {fz : Nat × Nat} (h : w.heap[b]? = some (.cells #[a0, a1, a2, a3, a4, a5] e fz)) (u : Value) :
    (w.setCell ⟨b, 3, none⟩ u).heap[b]? = some (.cells #[a0, a1, a2, u, a4, a5] e fz) := by
  rw [setCell_eq_setRow _ _ _ _ _ _ _ h, setRow_heap _ _ _ _ _ _ h]
  rfl
theorem lw_set4 {w : World} {b : Nat} {a0 a1 a2 a3 a4 a5 : Value} {e : TypeId} {fz : Nat × Nat} (h : w.heap[b]? = some (.cells #[a0, a1, a2, a3, a4, a5] e fz)) (u : Value) :
    (w.setCell ⟨b, 4, none⟩ u).heap[b]? = some (.cells #[a0, a1, a2, a3, u, a5] e fz) := by
  rw [setCell_eq_setRow _ _ _ _ _ _ _ h, setRow_heap _ _ _ _ _ _ h]
  rfl
theorem lw_set5 {w : World} {b : Nat} {a0 a1 a2 a3 a4 a5 : Value} {e : TypeId} {fz : Nat × Nat} (h : w.heap[b]? = some (.cells #[a0, a1, a2, a3, a4, a5] e fz)) (u : Value) :
    (w.setCell ⟨b, 5, none⟩ u).heap[b]? = some (.cells #[a0, a1, a2, a3, a4, u] e fz) := by
  rw [setCell_eq_setRow _ _ _ _ _ _ _ h, setRow_heap _ _ _ _ _ _ h]
  rfl

theorem LwAt.after {W0 w w' : World} {b : Nat} {file : ByteArray} {n : Nat} {lo : Option Addr} {cap at_ : Nat} {vd : Value} {ds : List Dg} {sp : Bool} {q : Int} (h : LwAt W0 w b file n lo cap at_ vd ds sp q) (hb : Below w.heap.size w w') : LwAt W0 w' b file n lo cap at_ vd ds sp q :=
  ⟨(hb.block _ (lt_of_block h.cells)).trans h.cells, h.below.after hb (Nat.le_of_lt (lt_of_block h.cells)), h.diags.below hb⟩

theorem LwAt.at {W0 w : World} {b : Nat} {file : ByteArray} {n : Nat} {lo : Option Addr} {cap at_ : Nat} {vd : Value} {ds : List Dg} {sp : Bool} {q : Int} (h : LwAt W0 w b file n lo cap at_ vd ds sp q) (at2 : Nat) :
    LwAt W0 (w.setCell ⟨b, 2, none⟩ (.int .i64 at2)) b file n lo cap at2 vd ds sp q :=
  ⟨lw_set2 h.cells _, h.below.set h.cells (by decide) (Nat.le_refl _) 2 _, h.diags.setBelow (Nat.lt_succ_self _) _⟩

/-- the parts that are only read -/
theorem LwAt.wk {W0 w : World} {b : Nat} {file : ByteArray} {R : List Rn} {lo : Option Addr} {cap at_ : Nat} {vd : Value} {ds : List Dg} {sp : Bool} {q : Int} (h : LwAt W0 w b file R.length lo cap at_ vd ds sp q) (HR : ∀ w', Bel b W0 w' → Row w' 3 lo (R.map Rn.v)) (hc : R.length ≤ cap) (hl : R.length ≤ 2000000) (ha : at_ ≤ 4000000) : WkAt w b R lo cap at_ :=
  ⟨(cells6 h.cells).2.1, (cells6 h.cells).2.2.1, HR w h.below, hc, hl, ha⟩
end Go.Proofs.YtfaoamdlknlgpaaGreat

/- lex's closes. -/
namespace Go.Proofs.YtfaoamdlknlgpaaGreat
open Go.RowKit
set_option linter.unusedVariables false

theorem quo_nl {q : UInt8} {A : List UInt8} {j : Nat} (h : j < A.length) (h10 : chAt A j = 10) : quoL q j (A.drop j) = 0 := by rw [quo_step h, if_pos h10]

theorem quo_esc {q : UInt8} {A : List UInt8} {j : Nat} (hq : q ≠ 92) (h : j < A.length) (h92 : chAt A j = 92) : quoL q j (A.drop j) = if j + 1 < A.length ∧ chAt A (j + 1) = 10 then 0 else quoL q (j + 2) (A.drop (j + 2)) := by
  rw [quo_step h, if_neg (by rw [h92]; decide)]
  by_cases h1 : j + 1 < A.length
  · by_cases h2 : chAt A (j + 1) = 10
    · rw [if_neg (by simp [h2]), if_neg (by rw [h92]; exact fun e => hq e.symm), if_pos ⟨h1, h2⟩, quo_nl h1 h2]
    · rw [if_pos ⟨h92, h1, h2⟩, if_neg (by simp [h2])]
  · rw [if_neg (by simp [h1]), if_neg (by rw [h92]; exact fun e => hq e.symm), if_neg (by simp [h1]), quo_end (by omega), quo_end (by omega)]

theorem quo_hit {q : UInt8} {A : List UInt8} {j : Nat} (h : j < A.length) (h10 : chAt A j ≠ 10) (h92 : chAt A j ≠ 92) : quoL q j (A.drop j) = if chAt A j = q then j + 1 else quoL q (j + 1) (A.drop (j + 1)) := by
  rw [quo_step h, if_neg h10, if_neg (by simp [h92])]

/-- what closes gives -/
def closesL (A : List UInt8) (at_ n : Nat) : Nat := if quotedL A (at_ + n) = 0 then 0 else quotedL A (at_ + n) - at_

def ClosesPost (A : List UInt8) (at_ n : Nat) (w : World) (e : Ending) (w' : World) : Prop := e = .returned (.int .i64 (closesL A at_ n)) ∧ ∃ q, w' = w.drewN q

set_option maxHeartbeats 2000000 in
set_option maxRecDepth 100000 in
theorem closes_any (b : Nat) (R : List Rn) (lo : Option Addr) (cap at_ n : Nat) (hl : R.length ≤ 1000001) (ha : at_ ≤ 1000010) (hn : n ≤ 10) (hq : chAt (cs R) (at_ + n) = 34 ∨ chAt (cs R) (at_ + n) = 39) (w : World) (h : WkAt w b R lo cap at_) :
    Calls Tryz.prog 117 #[.pointer (some ⟨b, 0, none⟩), .int .i64 n] w fun e w' => ClosesPost (cs R) at_ n w e w' := by
  have HP := fun (k : Nat) (hk : k ≤ 4000000) (w' : World) (hb : Below w.heap.size w w') => peek_any b R lo cap at_ k hk w' (h.below hb)
  have HW := fun w' (hb : Below w.heap.size w w') => h.below hb
  obtain ⟨m, hm⟩ : ∃ m, m = R.length := ⟨_, rfl⟩
  have HN : Hid (R.length = m) := Lib.hid hm.symm
  have HA : Hid ((cs R).length = m) := Lib.hid (by rw [cs_len, hm])
  obtain ⟨qc, hqc⟩ : ∃ qc, qc = chAt (cs R) (at_ + n) := ⟨_, rfl⟩
  have hq92 : qc ≠ 92 := by rw [hqc]; rcases hq with h | h <;> rw [h] <;> decide
  have hlt0 : at_ + n < m := by
    rcases Nat.lt_or_ge (at_ + n) m with h | h
    · exact h
    · rw [chAt_ge (by rw [HA.out]; exact h)] at hq; rcases hq with h | h <;> exact absurd h (by decide)
  have HQ : Hid (quotedL (cs R) (at_ + n) = quoL qc (at_ + n + 1) ((cs R).drop (at_ + n + 1))) := Lib.hid (by rw [hqc]; rfl)
  have HP0 := HP n (by omega) w (Below.refl _ _)
  rw [← hqc] at HP0
  rw [← hm] at hl
  replace HP := Lib.hid HP
  replace HW := Lib.hid HW
  replace HP0 := Lib.hid HP0
  clear hm hqc hq h
  go_enter Tryz.func117, Tryz.ntmps117
  go_wp2_with fail
  refine HP0.out.mono ?_
  rintro e w1 ⟨rfl, k1, hw1⟩
  have hb1 : Below w.heap.size w w1 := by rw [hw1]; exact drewN_below w k1
  replace hw1 := Lib.hid hw1
  go_wp2_with fail
  go_loopg [6] (m + 20 - (at_ + n + 1)) (fun u v wr => ∃ i : Nat, u = m + 20 - (at_ + i) ∧ n + 1 ≤ i ∧ at_ + i ≤ m + 20 ∧ v = .int .i64 i ∧ (∃ q, wr = w.drewN q) ∧ Hid (quotedL (cs R) (at_ + n) = quoL qc (at_ + i) ((cs R).drop (at_ + i))))
  case atStart => exact ⟨n + 1, rfl, Nat.le_refl _, by omega, by go_num, ⟨k1, hw1.out⟩, Lib.hid HQ.out⟩
  case round =>
    obtain ⟨i, rfl, hi1, hi2, rfl, ⟨q, hq⟩, HT⟩ := hrel
    have hbr : Below w.heap.size w wr := by rw [hq]; exact drewN_below w q
    replace hq := Lib.hid hq
    obtain ⟨c1, c2, _, _, _, _⟩ := HW.out wr hbr
    rw [HN.out] at c1
    have q1 : IntKind.i64.wrap ((at_ : Int) + i) = (at_ : Int) + i := IntWalk.i64_in _ (by omega)
    have q2 : IntKind.i64.wrap ((at_ : Int) + i + 1) = (at_ : Int) + i + 1 := IntWalk.i64_in _ (by omega)
    have q3 : IntKind.i64.wrap ((i : Int) + 1) = (i : Int) + 1 := IntWalk.i64_in _ (by omega)
    by_cases hlt : at_ + i < m
    · have e1 : (at_ : Int) + i < m := by omega
      obtain ⟨x, hx⟩ : ∃ x : Int, x = (chAt (cs R) (at_ + i)).toNat := ⟨_, rfl⟩
      go_wp2_with fail
      go_quiet (fail)
      have hbq : Below w.heap.size w (wr.drewN nq) := below_drewN hbr nq
      have hwq : wr.drewN nq = w.drewN (q + nq) := by rw [hq.out, drewN_add]
      generalize wr.drewN nq = wq at *
      have HPi := HP.out i (by omega) wq hbq
      rw [← hx] at HPi
      replace HPi := Lib.hid HPi
      replace hwq := Lib.hid hwq
      go_wp2_with fail
      refine HPi.out.mono ?_
      rintro e w2 ⟨rfl, k2, hw2⟩
      have hb2 : Below w.heap.size w w2 := by rw [hw2]; exact below_drewN hbq k2
      have hw2' : w2 = w.drewN (q + nq + k2) := by rw [hw2, hwq.out, drewN_add]
      replace hw2 := Lib.hid hw2'
      clear hw2' c1 c2
      obtain ⟨c1, c2, _, _, _, _⟩ := HW.out w2 hb2
      rw [HN.out] at c1
      by_cases x10 : x = 10
      · have hc : chAt (cs R) (at_ + i) = 10 := (u8eq _ _).2 (by rw [← hx]; exact x10)
        have hres : Hid (closesL (cs R) at_ n = 0) := Lib.hid (by unfold closesL; rw [HT.out, quo_nl (by rw [HA.out]; exact hlt) hc]; rfl)
        subst x10
        clear hc
        replace hx := Lib.hid hx
        go_wp2
        go_ret
        exact ⟨by rw [hres.out]; rfl, _, hw2.out⟩
      · have y10 : (x == 10) = false := by simpa using x10
        by_cases x92 : x = 92
        · have hc : chAt (cs R) (at_ + i) = 92 := (u8eq _ _).2 (by rw [← hx]; exact x92)
          have hes := quo_esc hq92 (A := cs R) (j := at_ + i) (by rw [HA.out]; exact hlt) hc
          rw [HA.out] at hes
          subst x92
          clear hc
          replace hx := Lib.hid hx
          by_cases hlt1 : at_ + i + 1 < m
          · have e2 : (at_ : Int) + i + 1 < m := by omega
            obtain ⟨y, hy⟩ : ∃ y : Int, y = (chAt (cs R) (at_ + i + 1)).toNat := ⟨_, rfl⟩
            have HPj := fun nq2 => HP.out (i + 1) (by omega) (w2.drewN nq2) (below_drewN hb2 nq2)
            rw [show at_ + (i + 1) = at_ + i + 1 by omega, ← hy, show ((i + 1 : Nat) : Int) = (i : Int) + 1 by omega] at HPj
            replace HPj := Lib.hid HPj
            by_cases z10 : y = 10
            · have hc2 : chAt (cs R) (at_ + i + 1) = 10 := (u8eq _ _).2 (by rw [← hy]; exact z10)
              rw [if_pos ⟨hlt1, hc2⟩] at hes
              have hres : Hid (closesL (cs R) at_ n = 0) := Lib.hid (by unfold closesL; rw [HT.out, hes]; rfl)
              subst z10
              clear hc2 hes
              replace hy := Lib.hid hy
              go_wp2_with fail
              go_quiet (first | (go_at_call 106; exact Calls.quiet_of (HPj.out _)))
              go_wp2
              go_ret
              exact ⟨by rw [hres.out]; rfl, _, by rw [hw2.out, drewN_add]⟩
            · have hc2 : ¬ chAt (cs R) (at_ + i + 1) = 10 := by intro e; exact z10 (by rw [hy, e]; rfl)
              rw [if_neg (fun h => hc2 h.2)] at hes
              have z10' : (y == 10) = false := by simpa using z10
              have HT2 : Hid (quotedL (cs R) (at_ + n) = quoL qc (at_ + (i + 2)) ((cs R).drop (at_ + (i + 2)))) := Lib.hid (HT.out.trans hes)
              clear hc2 hes
              replace hy := Lib.hid hy
              go_wp2_with fail
              go_quiet (first | (go_at_call 106; exact Calls.quiet_of (HPj.out _)))
              go_wp2_with fail
              go_roundg (m + 20 - (at_ + (i + 2)))
              case measure => omega
              case rel => exact ⟨i + 2, rfl, by omega, by omega, by go_num, ⟨_, by rw [hw2.out, drewN_add]⟩, HT2⟩
          · have e2 : decide ((at_ : Int) + i + 1 < m) = false := decide_eq_false (by omega)
            rw [if_neg (fun h => hlt1 h.1)] at hes
            have HT2 : Hid (quotedL (cs R) (at_ + n) = quoL qc (at_ + (i + 2)) ((cs R).drop (at_ + (i + 2)))) := Lib.hid (HT.out.trans hes)
            clear hes
            go_wp2_with fail
            go_quiet (fail)
            go_wp2_with fail
            go_roundg (m + 20 - (at_ + (i + 2)))
            case measure => omega
            case rel => exact ⟨i + 2, rfl, by omega, by omega, by go_num, ⟨_, by rw [hw2.out, drewN_add]⟩, HT2⟩
        · have y92 : (x == 92) = false := by simpa using x92
          have hhit := quo_hit (q := qc) (A := cs R) (j := at_ + i) (by rw [HA.out]; exact hlt) (fun e => x10 (by rw [hx, e]; rfl)) (fun e => x92 (by rw [hx, e]; rfl))
          by_cases xq : x = qc.toNat
          · have hc : chAt (cs R) (at_ + i) = qc := (u8eq _ _).2 (by rw [← hx]; exact xq)
            rw [if_pos hc] at hhit
            have hres : Hid (closesL (cs R) at_ n = i + 1) := Lib.hid (by unfold closesL; rw [HT.out, hhit, if_neg (by omega)]; omega)
            have xqb : (x == (qc.toNat : Int)) = true := by simpa using xq
            clear hc hhit
            replace xq := Lib.hid xq
            replace hx := Lib.hid hx
            go_wp2
            go_ret
            exact ⟨by rw [hres.out]; rfl, _, hw2.out⟩
          · have hc : ¬ chAt (cs R) (at_ + i) = qc := by intro e; exact xq (by rw [hx, e])
            rw [if_neg hc] at hhit
            have HT2 : Hid (quotedL (cs R) (at_ + n) = quoL qc (at_ + (i + 1)) ((cs R).drop (at_ + (i + 1)))) := Lib.hid (HT.out.trans hhit)
            have xqb : (x == (qc.toNat : Int)) = false := by simpa using xq
            clear hc hhit
            replace hx := Lib.hid hx
            go_wp2_with fail
            go_roundg (m + 20 - (at_ + (i + 1)))
            case measure => omega
            case rel => exact ⟨i + 1, rfl, by omega, by omega, by go_num, ⟨_, hw2.out⟩, HT2⟩
    · have e1 : ¬ (at_ : Int) + i < m := by omega
      have hres : Hid (closesL (cs R) at_ n = 0) := Lib.hid (by unfold closesL; rw [HT.out, quo_end (by rw [HA.out]; omega)]; rfl)
      go_wp2_with fail
      go_quiet (fail)
      go_wp2
      go_ret
      exact ⟨by rw [hres.out]; rfl, _, by rw [hq.out, drewN_add]⟩
end Go.Proofs.YtfaoamdlknlgpaaGreat
