/- lex's line. -/
import Derived.Test.YthbicbfdldpemaaLw13
import Derived.Test.YthbicbfdldpemaaLw15
namespace Go.Proofs.Ythbicbfdldpemaa
open Go.RowKit
set_option linter.unusedVariables false

theorem LwAt.swapE {W0 w w' : World} {b T : Nat} {file : ByteArray} {n : Nat} {lo : Option Addr} {cap at_ : Nat} {vd : Value} {ds : List Dg} {sp : Bool} {q : Int} {y : Array Value} {e : TypeId} {fz : Nat × Nat} (h : LwAt W0 w b file n lo cap at_ vd ds sp q) (hT : w.heap[T]? = some (.cells y e fz)) (he : e ≠ 38) (he2 : e ≠ 97) (ho : ∀ k, k ≠ T → w'.heap[k]? = w.heap[k]?) (hB : Below T w w') (hbT : b < T) : LwAt W0 w' b file n lo cap at_ vd ds sp q :=
  ⟨(ho b (Nat.ne_of_lt hbT)).trans h.cells, h.below.swap hT he2 ho hB (Nat.le_of_lt hbT), h.diags.swap (fun x fz' e1 => by rw [hT] at e1; simp only [Option.some.injEq, Obj.cells.injEq] at e1; exact absurd e1.2.1 he) ho⟩

theorem LwAt.setT {W0 w : World} {b T : Nat} {file : ByteArray} {n : Nat} {lo : Option Addr} {cap at_ : Nat} {vd : Value} {ds : List Dg} {sp : Bool} {q : Int} {y : Array Value} {e : TypeId} {fz : Nat × Nat} (h : LwAt W0 w b file n lo cap at_ vd ds sp q) (hT : w.heap[T]? = some (.cells y e fz)) (he : e ≠ 38) (he2 : e ≠ 97) (hbT : b < T) (j : Nat) (u : Value) : LwAt W0 (w.setCell ⟨T, j, none⟩ u) b file n lo cap at_ vd ds sp q :=
  h.swapE hT he he2 (fun k hk => Below.heap_setCell _ _ _ _ hk) ((Below.refl _ _).setCell (p := ⟨T, j, none⟩) (Nat.le_refl _) _) hbT

theorem LwAt.app {W0 w w' : World} {b B e sz : Nat} {file : ByteArray} {n : Nat} {lo : Option Addr} {cap at_ : Nat} {vd v : Value} {css : List (List Value)} {ds : List Dg} {sp : Bool} {q : Int} (h : LwAt W0 w b file n lo cap at_ vd ds sp q) (ho : Own w B e sz v css) (he : e ≠ 38) (he2 : e ≠ 97) (hg : w.grownBy w' v.ownBlock) (hbB : b < B) : LwAt W0 w' b file n lo cap at_ vd ds sp q :=
  ⟨(hg.block b (lt_of_block h.cells) (fun e1 => by have := ho.ge _ e1.symm; omega)).trans h.cells, h.below.app ho he2 hg (Nat.le_of_lt hbB) (Nat.le_of_lt (lt_of_block h.cells)), own_kt0 h.diags (Ne.symm he) (others_app ho hg)⟩

theorem KeptX.grown {w0 w w' : World} {r : Option Nat} (h : KeptX w0 w) (hg : w.grownBy w' r) (hr : ∀ k, r = some k → w0.heap.size ≤ k) : KeptX w0 w' :=
  ⟨Nat.le_trans h.1 hg.size, fun k x e fz hx h1 h2 => (hg.block k (Nat.lt_of_lt_of_le (lt_of_block hx) h.1) (fun e1 => by have := hr k e1.symm; have := lt_of_block hx; omega)).trans (h.2 k x e fz hx h1 h2)⟩

theorem KeptX.setT {w0 w : World} {T : Nat} (h : KeptX w0 w) (hT : w0.heap.size ≤ T) (j : Nat) (u : Value) : KeptX w0 (w.setCell ⟨T, j, none⟩ u) :=
  h.kb ((Below.refl _ _).setCell (p := ⟨T, j, none⟩) hT _)

theorem cells4x {w : World} {b : Nat} {a0 a1 a2 a3 : Value} {e : TypeId} {fz : Nat × Nat} (h : w.heap[b]? = some (.cells #[a0, a1, a2, a3] e fz)) :
    w.cell? ⟨b, 0, none⟩ = some a0 ∧ w.cell? ⟨b, 1, none⟩ = some a1 ∧ w.cell? ⟨b, 2, none⟩ = some a2 ∧ w.cell? ⟨b, 3, none⟩ = some a3 :=
  ⟨by simpa using Lib.cell_of_heap h 0, by simpa using Lib.cell_of_heap h 1, by simpa using Lib.cell_of_heap h 2, by simpa using Lib.cell_of_heap h 3⟩

/-- a line's four cells are written -/
def set4w (w : World) (T : Nat) (b0 b1 b2 b3 : Value) : World := (((w.setCell ⟨T, 0, none⟩ b0).setCell ⟨T, 1, none⟩ b1).setCell ⟨T, 2, none⟩ b2).setCell ⟨T, 3, none⟩ b3

theorem set4w_at {w : World} {T : Nat} {a0 a1 a2 a3 b0 b1 b2 b3 : Value} {e : TypeId} {fz : Nat × Nat} (h : w.heap[T]? = some (.cells #[a0, a1, a2, a3] e fz)) : (set4w w T b0 b1 b2 b3).heap[T]? = some (.cells #[b0, b1, b2, b3] e fz) := by
  have := set_at (set_at (set_at (set_at h 0 b0) 1 b1) 2 b2) 3 b3
  simpa [set4w] using this
theorem set4w_below {w W0 : World} {B T : Nat} {b0 b1 b2 b3 : Value} (h : Below B W0 w) (hB : B ≤ T) : Below B W0 (set4w w T b0 b1 b2 b3) :=
  (((h.setCell (p := ⟨T, 0, none⟩) hB b0).setCell (p := ⟨T, 1, none⟩) hB b1).setCell (p := ⟨T, 2, none⟩) hB b2).setCell (p := ⟨T, 3, none⟩) hB b3
theorem set4w_other {w : World} {T k : Nat} {b0 b1 b2 b3 : Value} (h : k ≠ T) : (set4w w T b0 b1 b2 b3).heap[k]? = w.heap[k]? := by
  unfold set4w
  rw [Below.heap_setCell _ _ _ _ h, Below.heap_setCell _ _ _ _ h, Below.heap_setCell _ _ _ _ h, Below.heap_setCell _ _ _ _ h]

def LinePost (W0 : World) (b : Nat) (file : ByteArray) (R : List Rn) (n : Nat) (lo : Option Addr) (cap : Nat) (s0 : NS) (w : World) (e : Ending) (w' : World) : Prop :=
  ∃ t u l vn, Toks R s0 t l ∧ Skips R t u ∧ ¬ AtIn R u ∧ KeptX w w' ∧ e = .returned (.agg #[vn, .int .i64 0, .int .i64 0, .bool u.op]) ∧ LwS W0 b file n lo cap u w' ∧ Own w' (w.heap.size + 1) 43 8 vn (l.map (tkC file))

/-- what holds at the loop's head -/
def LineAt (W0 : World) (b : Nat) (file : ByteArray) (R : List Rn) (n : Nat) (lo : Option Addr) (cap : Nat) (s0 : NS) (w wr : World) (T : Nat) (t : NS) (l : List Tk) (vd vn : Value) : Prop :=
  Toks R s0 t l ∧ t.op = false ∧ LwAt W0 wr b file n lo cap t.i vd t.ds t.sp t.q ∧ KeptX w wr ∧ wr.heap[T]? = some (.cells #[vn, .int .i64 0, .int .i64 0, .bool false] 60 (0, 0)) ∧ Own wr (T + 1) 43 8 vn (l.map (tkC file))

set_option maxHeartbeats 2000000 in
set_option maxRecDepth 100000 in
theorem line_any (W0 : World) (b : Nat) (file : ByteArray) (R : List Rn) (lo : Option Addr) (cap i0 : Nat) (vd : Value) (ds0 : List Dg) (sp : Bool) (q0 : Int) (HR : ∀ w', Bel b W0 w' → Row w' 3 lo (R.map Rn.v)) (hcap : R.length ≤ cap) (hl : R.length ≤ 1000001) (ha : i0 ≤ R.length) (hd : ds0.length ≤ i0 + 3) (w : World) (h : LwAt W0 w b file R.length lo cap i0 vd ds0 sp q0) :
    Calls Try.prog 51 #[.pointer (some ⟨b, 0, none⟩)] w fun e w' => LinePost W0 b file R R.length lo cap ⟨i0, ds0, false, q0, false⟩ w e w' := by
  have HNx := fun (t : NS) vd' w' (h1 : t.i ≤ R.length) (h2 : t.ds.length ≤ t.i + 3) (h3 : t.op = false) (h' : LwAt W0 w' b file R.length lo cap t.i vd' t.ds t.sp t.q) => next_any W0 b file R lo cap vd' t HR hcap hl h1 h2 h3 w' h'
  have HTB := fun (t : NS) (l : List Tk) (h' : Toks R ⟨i0, ds0, false, q0, false⟩ t l) => h'.bound ha
  obtain ⟨n, hn⟩ : ∃ n, n = R.length := ⟨_, rfl⟩
  have HN : Hid (R.length = n) := Lib.hid hn.symm
  rw [← hn] at hl ha h hcap HNx HTB ⊢
  replace HNx := Lib.hid HNx
  replace HTB := Lib.hid HTB
  clear hn HR
  obtain ⟨T, hTT⟩ : ∃ T, T = w.heap.size := ⟨_, rfl⟩
  have hbT : b < T := by rw [hTT]; exact lt_of_block h.cells
  obtain ⟨w2, hw2⟩ : ∃ w2, w2 = (w.alloc (.cells #[.slice none 0 0, .int .i64 0, .int .i64 0, .bool false] 60)).setCell ⟨b, 4, none⟩ (.bool false) := ⟨_, rfl⟩
  have hA := h.after ((Below.refl _ w).alloc (Nat.le_refl _) (.cells #[.slice none 0 0, .int .i64 0, .int .i64 0, .bool false] 60))
  have h2 : LwAt W0 w2 b file n lo cap i0 vd ds0 false q0 := by rw [hw2]; exact hA.space false
  have hX2 : KeptX w w2 := by rw [hw2]; exact (KeptX.below ((Below.refl _ w).alloc (Nat.le_refl _) _)).trans (KeptX.set hA.cells _ _)
  have hT2 : w2.heap[T]? = some (.cells #[.slice none 0 0, .int .i64 0, .int .i64 0, .bool false] 60 (0, 0)) := by
    rw [hw2, Below.heap_setCell _ _ _ _ (show T ≠ b by omega), hTT]
    exact heap_alloc_new w _
  have HS : Hid (LineAt W0 b file R n lo cap ⟨i0, ds0, false, q0, false⟩ w w2 T ⟨i0, ds0, false, q0, false⟩ [] vd (.slice none 0 0)) := Lib.hid ⟨.nil _, rfl, h2, hX2, hT2, Own.nil _ _ _ _⟩
  obtain ⟨c0, c1, c2, c3, c4, c5⟩ := cells6 hA.cells
  have fr := fun j => Lib.frozen_of_heap hA.cells j
  clear h2 hX2 hT2
  go_enter Try.func51, Try.ntmps51
  replace hw2 := Lib.hid hw2
  replace hTT := Lib.hid hTT
  go_wp2_with fail
  rw [← hTT.out, show ((w.alloc (.cells #[.slice none 0 0, .int .i64 0, .int .i64 0, .bool false] 60)).setCell ⟨b, 4, none⟩ (.bool false)) = w2 from hw2.out.symm]
  clear c0 c1 c2 c3 c4 c5 fr hA
  go_loopg [] (n - i0) (fun u wr => ∃ (t : NS) (l : List Tk) (vd' vn : Value), u = n - t.i ∧ LineAt W0 b file R n lo cap ⟨i0, ds0, false, q0, false⟩ w wr T t l vd' vn)
  case atStart => exact ⟨_, _, _, _, rfl, HS.out⟩
  case round =>
    obtain ⟨t, l, vd', vn, rfl, hTk, hop, hL, hX, hT, hO⟩ := hrel
    have hB := HTB.out t l hTk
    obtain ⟨vao, vcap, rfl, _, _, _, _⟩ := hO.rown (n := l.length) (by simp)
    have HC := HNx.out t vd' wr hB.2.1 (by have := hB.2.2; omega) hop hL
    unfold NextPost at HC
    replace HC := Lib.hid HC
    go_wp2_with fail
    refine HC.out.mono ?_
    rintro e w5 ⟨s, hsk, hX5, hend | htok⟩
    · obtain ⟨hne, rfl, vd5, h5⟩ := hend
      have hX6 := (hX.trans hX5).trans (KeptX.below ((Below.refl _ w5).alloc (Nat.le_refl _) (.cells #[.int .i64 0, .string ⟨#[]⟩, .bool false, .string ⟨#[]⟩, .int .i64 0, .int .i64 0, .bool false, .slice none 0 0] 43)))
      have hT6 : (w5.alloc (.cells #[.int .i64 0, .string ⟨#[]⟩, .bool false, .string ⟨#[]⟩, .int .i64 0, .int .i64 0, .bool false, .slice none 0 0] 43)).heap[T]? = _ := (Lib.alloc_old _ _ _ (lt_of_block (hX5.2 T _ _ _ hT (by decide) (by decide)))).trans (hX5.2 T _ _ _ hT (by decide) (by decide))
      have h6 := h5.after ((Below.refl _ w5).alloc (Nat.le_refl _) (.cells #[.int .i64 0, .string ⟨#[]⟩, .bool false, .string ⟨#[]⟩, .int .i64 0, .int .i64 0, .bool false, .slice none 0 0] 43))
      have hO6 := (hO.keptX hX5 (by decide) (by decide)).alloc (.cells #[.int .i64 0, .string ⟨#[]⟩, .bool false, .string ⟨#[]⟩, .int .i64 0, .int .i64 0, .bool false, .slice none 0 0] 43)
      obtain ⟨d0, d1, d2, d3⟩ := cells4x hT6
      have fr := fun j => Lib.frozen_of_heap hT6 j
      clear hX5 hX hL hT hO h5
      have hT7 := set_at hT6 3 (.bool s.op)
      simp only [List.setIfInBounds_toArray, List.set_cons_zero, List.set_cons_succ] at hT7
      have h7 := h6.setT hT6 (by decide) (by decide) hbT 3 (.bool s.op)
      have hX7 := hX6.setT (by rw [← hTT.out]; exact Nat.le_refl _) 3 (.bool s.op)
      have hO7 := hO6.setBelow (b := T) (j := 3) (Nat.lt_succ_self _) (.bool s.op)
      unfold zeroTok
      go_upto_region 19 with fail
      obtain ⟨w7, hw7⟩ : ∃ w7, w7 = (w5.alloc (.cells #[.int .i64 0, .string ⟨#[]⟩, .bool false, .string ⟨#[]⟩, .int .i64 0, .int .i64 0, .bool false, .slice none 0 0] 43)).setCell ⟨T, 3, none⟩ (.bool s.op) := ⟨_, rfl⟩
      rw [← hw7] at hT7 h7 hX7 hO7 ⊢
      clear hw7 hX6 hT6 h6 hO6 d0 d1 d2 d3 fr
      obtain ⟨d0, d1, d2, d3⟩ := cells4x hT7
      have fr := fun j => Lib.frozen_of_heap hT7 j
      have g8 := set4w_at (b0 := .slice vao l.length vcap) (b1 := .int .i64 0) (b2 := .int .i64 0) (b3 := .bool s.op) hT7
      have hB8 := set4w_below (w := w7) (b0 := .slice vao l.length vcap) (b1 := .int .i64 0) (b2 := .int .i64 0) (b3 := .bool s.op) (Below.refl T w7) (Nat.le_refl T)
      have h8 := h7.swapE hT7 (by decide) (by decide) (fun k hk => set4w_other hk) hB8 hbT
      have hX8 := hX7.kb (by rw [← hTT.out]; exact hB8)
      have hO8 := hO7.swap (fun x fz e1 => by rw [hT7] at e1; simp at e1) (fun k hk => set4w_other (b0 := .slice vao l.length vcap) (b1 := .int .i64 0) (b2 := .int .i64 0) (b3 := .bool s.op) hk)
      have hfin : Hid (LinePost W0 b file R n lo cap ⟨i0, ds0, false, q0, false⟩ w (.returned (.agg #[.slice vao l.length vcap, .int .i64 0, .int .i64 0, .bool s.op])) (set4w w7 T (.slice vao l.length vcap) (.int .i64 0) (.int .i64 0) (.bool s.op))) := Lib.hid ⟨t, s, l, _, hTk, hsk, hne, hX8, rfl, ⟨vd5, h8⟩, by rw [← hTT.out]; exact hO8⟩
      clear hB8 h8 hX8 hO8 hT7 h7 hX7 hO7
      obtain ⟨m0, m1, m2, m3⟩ := cells4x g8
      clear g8
      unfold set4w at m0 m1 m2 m3
      go_wp2
      refine bodyPost_ret (v := .agg #[.slice vao l.length vcap, .int .i64 0, .int .i64 0, .bool s.op]) (by simp [results, Try.results51, go_sem, m0, m1, m2, m3]) rfl hfin.out
    · obtain ⟨hat, rfl, vd5, h5⟩ := htok
      have hTk2 := hTk.snoc hsk hat
      have hsi := (hsk.bound (by rw [HN.out]; exact hB.2.1)).1
      have hle := hat.len
      have hA1 : t.i < (afterTok R s).i ∧ (afterTok R s).i ≤ n := by rw [HN.out] at hle; exact ⟨Nat.lt_of_le_of_lt hsi hle.1, hle.2⟩
      have hA2 : (afterTok R s).op = false := rfl
      obtain ⟨A, hA⟩ : ∃ A, A = afterTok R s := ⟨_, rfl⟩
      obtain ⟨tk, htk⟩ : ∃ tk, tk = tokN R s := ⟨_, rfl⟩
      rw [← hA] at h5 hA1 hA2 hTk2
      rw [← htk] at hTk2 ⊢
      clear hA htk hat hle hsi hsk
      replace hTk2 := Lib.hid hTk2
      have hX6 := (hX.trans hX5).trans (KeptX.below ((Below.refl _ w5).alloc (Nat.le_refl _) (.cells #[.int .i64 tk.kind, .string ⟨tk.text.toArray⟩, .bool tk.space, .string file, .int .i64 tk.f, .int .i64 tk.t, .bool false, .slice none 0 0] 43)))
      have hT6 : (w5.alloc (.cells #[.int .i64 tk.kind, .string ⟨tk.text.toArray⟩, .bool tk.space, .string file, .int .i64 tk.f, .int .i64 tk.t, .bool false, .slice none 0 0] 43)).heap[T]? = _ := (Lib.alloc_old _ _ _ (lt_of_block (hX5.2 T _ _ _ hT (by decide) (by decide)))).trans (hX5.2 T _ _ _ hT (by decide) (by decide))
      have hT5 := lt_of_block (hX5.2 T _ _ _ hT (by decide) (by decide))
      have h6 := h5.after ((Below.refl _ w5).alloc (Nat.le_refl _) (.cells #[.int .i64 tk.kind, .string ⟨tk.text.toArray⟩, .bool tk.space, .string file, .int .i64 tk.f, .int .i64 tk.t, .bool false, .slice none 0 0] 43))
      have hO6 := (hO.keptX hX5 (by decide) (by decide)).alloc (.cells #[.int .i64 tk.kind, .string ⟨tk.text.toArray⟩, .bool tk.space, .string file, .int .i64 tk.f, .int .i64 tk.t, .bool false, .slice none 0 0] 43)
      obtain ⟨d0, d1, d2, d3⟩ := cells4x hT6
      have fr := fun j => Lib.frozen_of_heap hT6 j
      clear hX5 hX hL hT hO h5
      have hT7 := set_at hT6 3 (.bool false)
      simp only [List.setIfInBounds_toArray, List.set_cons_zero, List.set_cons_succ] at hT7
      have h7 := h6.setT hT6 (by decide) (by decide) hbT 3 (.bool false)
      have hX7 := hX6.setT (by rw [← hTT.out]; exact Nat.le_refl _) 3 (.bool false)
      have hO7 := hO6.setBelow (b := T) (j := 3) (Nat.lt_succ_self _) (.bool false)
      have hG7 : ((w5.alloc (.cells #[.int .i64 tk.kind, .string ⟨tk.text.toArray⟩, .bool tk.space, .string file, .int .i64 tk.f, .int .i64 tk.t, .bool false, .slice none 0 0] 43)).setCell ⟨T, 3, none⟩ (.bool false)).heap[w5.heap.size]? = _ := (Below.heap_setCell _ _ _ _ (Nat.ne_of_gt hT5)).trans (heap_alloc_new w5 _)
      have hsz7 : T + 1 ≤ ((w5.alloc (.cells #[.int .i64 tk.kind, .string ⟨tk.text.toArray⟩, .bool tk.space, .string file, .int .i64 tk.f, .int .i64 tk.t, .bool false, .slice none 0 0] 43)).setCell ⟨T, 3, none⟩ (.bool false)).heap.size := by simp [World.setCell]; omega
      replace hT5 := Lib.hid hT5
      replace hsz7 := Lib.hid hsz7
      unfold tkC
      obtain ⟨e0, e1, e2, e3⟩ := cells4x hT7
      obtain ⟨g0, g1, g2, g3, g4, g5, g6, g7⟩ := cells8x hG7
      have hneT : (Value.slice vao l.length vcap).ownBlock ≠ some T := by intro e; have := hO7.ge _ e; omega
      have hlenT : (l.map (tkC file)).length + 1 ≤ 1000000000 := by rw [List.length_map]; omega
      go_wp2_with (at_builtin; go_must (refine wpList_append1 E43 rfl rfl hO7 rfl rfl (news := [.int .i64 tk.kind, .string ⟨tk.text.toArray⟩, .bool tk.space, .string file, .int .i64 tk.f, .int .i64 tk.t, .bool false, .slice none 0 0]) (by simp) rfl (by simp [Value.oneCell']) hlenT (by decide) hsz7.out ?_); intro v9 w9 hown9 hg9; have hT9 := (hg9.block T hsz7.out (fun e => hneT e.symm)).trans hT7; obtain ⟨z0, z1, z2, z3⟩ := cells4x hT9; have zf := fun j => Lib.frozen_of_heap hT9 j; obtain ⟨ao9, cap9, rfl, _, _, _, _⟩ := hown9.rown (n := l.length + 1) (by simp))
      go_roundg (n - A.i)
      case measure => omega
      case rel =>
        have hT10 := set_at hT9 0 (.slice ao9 (l.length + 1) cap9)
        simp only [List.setIfInBounds_toArray, List.set_cons_zero] at hT10
        refine ⟨A, l ++ [tk], vd5, .slice ao9 (l.length + 1) cap9, rfl, hTk2.out, hA2, (h7.app hO7 (by decide) (by decide) hg9 (Nat.lt_succ_of_lt hbT)).setT hT9 (by decide) (by decide) hbT 0 _, (hX7.grown hg9 (fun k e => by have := hO7.ge k e; have := hTT.out; omega)).setT (by rw [← hTT.out]; exact Nat.le_refl _) 0 _, hT10, ?_⟩
        have := hown9.setBelow (b := T) (j := 0) (Nat.lt_succ_self _) (.slice ao9 (l.length + 1) cap9)
        rw [List.map_append]
        exact this
end Go.Proofs.Ythbicbfdldpemaa
