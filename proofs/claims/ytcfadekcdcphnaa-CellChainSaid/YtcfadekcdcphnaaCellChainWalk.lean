/- CellChain: the walk. -/
import Derived.Test.YtcfadekcdcphnaaCe11
import Derived.Test.YtcfadekcdcphnaaCe12
import Derived.Deep.CutRange
import Derived.Deep.Cut
import Derived.Deep.RegionHeld3
namespace Go.Proofs.Ytcfadekcdcphnaa
open Go.RowKit
set_option linter.unusedVariables false

theorem infoInt : (Try.prog.info? 3).map (fun i => (i.zero, i.size, i.bytes)) = some (some (.int .i64 0), 1, 8) := by kernel_rfl
theorem infoCellP : (Try.prog.info? 27).map (fun i => (i.zero, i.size, i.bytes)) = some (some (.pointer none), 1, 8) := by kernel_rfl

/-- the first loop, at round i -/
structure LoopC (w0 w : World) (N n i : Nat) : Prop where
  at_ : ChainAt w N n i 0
  zero : ∀ t, t < n → w.cell? ⟨N, t, none⟩ = some (.int .i64 0)
  psz : ∃ ps, w.heap[N + 2]? = some (.cells ps 27 (0, 0)) ∧ ps.size = n
  var : w.heap[vB N i]? = some (.cells #[.int .i64 i] 3 (0, 0))
  size : w.heap.size = N + 5 + 2 * i
  below : Below N w0 w

theorem loopC_start {w W : World} {n : Nat} {CI CP : Array Value} (hCI : CI = madeCells #[Value.int .i64 0] n) (hCP : CP = madeCells #[Value.pointer none] n)
    (hW : W = ((((w.alloc (.cells CI 3)).alloc (.cells #[.slice (some ⟨w.heap.size, 0, none⟩) n n] 23)).alloc (.cells CP 27)).alloc (.cells #[.slice (some ⟨w.heap.size + 2, 0, none⟩) n n] 26)).alloc (.cells #[.int .i64 0] 3)) : LoopC w W w.heap.size n 0 := by
  obtain ⟨A1, hA1⟩ : ∃ A, A = w.alloc (.cells CI 3) := ⟨_, rfl⟩
  obtain ⟨A2, hA2⟩ : ∃ A, A = A1.alloc (.cells #[.slice (some ⟨w.heap.size, 0, none⟩) n n] 23) := ⟨_, rfl⟩
  obtain ⟨A3, hA3⟩ : ∃ A, A = A2.alloc (.cells CP 27) := ⟨_, rfl⟩
  obtain ⟨A4, hA4⟩ : ∃ A, A = A3.alloc (.cells #[.slice (some ⟨w.heap.size + 2, 0, none⟩) n n] 26) := ⟨_, rfl⟩
  rw [← hA1, ← hA2, ← hA3, ← hA4] at hW
  have s1 : A1.heap.size = w.heap.size + 1 := by rw [hA1]; simp
  have s2 : A2.heap.size = w.heap.size + 2 := by rw [hA2]; simp [s1]
  have s3 : A3.heap.size = w.heap.size + 3 := by rw [hA3]; simp [s2]
  have s4 : A4.heap.size = w.heap.size + 4 := by rw [hA4]; simp [s3]
  have s5 : W.heap.size = w.heap.size + 5 := by rw [hW]; simp [s4]
  have e1 : A1.heap[w.heap.size]? = some (.cells CI 3 (0, 0)) := by rw [hA1]; exact heap_alloc_new w _
  have e2 : A2.heap[w.heap.size + 1]? = some (.cells #[.slice (some ⟨w.heap.size, 0, none⟩) n n] 23 (0, 0)) := by rw [hA2, ← s1]; exact heap_alloc_new A1 _
  have e3 : A3.heap[w.heap.size + 2]? = some (.cells CP 27 (0, 0)) := by rw [hA3, ← s2]; exact heap_alloc_new A2 _
  have e4 : A4.heap[w.heap.size + 3]? = some (.cells #[.slice (some ⟨w.heap.size + 2, 0, none⟩) n n] 26 (0, 0)) := by rw [hA4, ← s3]; exact heap_alloc_new A3 _
  have e5 : W.heap[w.heap.size + 4]? = some (.cells #[.int .i64 0] 3 (0, 0)) := by rw [hW, ← s4]; exact heap_alloc_new A4 _
  have u2 : ∀ k, k < w.heap.size + 1 → A2.heap[k]? = A1.heap[k]? := fun k hk => by rw [hA2]; exact Lib.alloc_old _ _ _ (by omega)
  have u3 : ∀ k, k < w.heap.size + 2 → A3.heap[k]? = A2.heap[k]? := fun k hk => by rw [hA3]; exact Lib.alloc_old _ _ _ (by omega)
  have u4 : ∀ k, k < w.heap.size + 3 → A4.heap[k]? = A3.heap[k]? := fun k hk => by rw [hA4]; exact Lib.alloc_old _ _ _ (by omega)
  have u5 : ∀ k, k < w.heap.size + 4 → W.heap[k]? = A4.heap[k]? := fun k hk => by rw [hW]; exact Lib.alloc_old _ _ _ (by omega)
  have f1 : W.heap[w.heap.size]? = some (.cells CI 3 (0, 0)) := by rw [u5 _ (by omega), u4 _ (by omega), u3 _ (by omega), u2 _ (by omega)]; exact e1
  have f2 := (u5 (w.heap.size + 1) (by omega)).trans ((u4 (w.heap.size + 1) (by omega)).trans ((u3 (w.heap.size + 1) (by omega)).trans e2))
  have f3 := (u5 (w.heap.size + 2) (by omega)).trans ((u4 (w.heap.size + 2) (by omega)).trans e3)
  have f4 := (u5 (w.heap.size + 3) (by omega)).trans e4
  have zI : CI.size = n := by rw [hCI]; exact size_madeCells _ _
  have zP : CP.size = n := by rw [hCP]; exact size_madeCells _ _
  have gI : ∀ t, t < n → CI[t]? = some (.int .i64 0) := fun t ht => by rw [hCI, ← Array.getElem?_toList, toList_madeCells_one, List.getElem?_replicate, if_pos ht]
  refine ⟨⟨⟨CI, f1, zI, fun t ht => absurd ht (by omega)⟩, f2, ⟨CP, f3, fun t ht => absurd ht (by omega)⟩, f4, fun t ht => absurd ht (by omega), fun t ht => absurd ht (by omega)⟩, fun t ht => by rw [cells_get f1]; exact gI t ht, ⟨CP, f3, zP⟩, e5, s5, ?_⟩
  rw [hW, hA4, hA3, hA2, hA1]
  exact (((((Below.refl _ w).alloc (Nat.le_refl _) _).alloc (by simp) _).alloc (by simp; omega) _).alloc (by simp; omega) _).alloc (by simp; omega) _

/-- behind the making of cell i -/
structure LoopM (w0 w : World) (N n i : Nat) : Prop where
  at_ : ChainAt w N n (i + 1) 0
  zero : ∀ t, t < n → w.cell? ⟨N, t, none⟩ = some (.int .i64 0)
  psz : ∃ ps, w.heap[N + 2]? = some (.cells ps 27 (0, 0)) ∧ ps.size = n
  size : w.heap.size = N + 6 + 2 * i
  below : Below N w0 w

theorem loopC_mid {w0 w wc : World} {N n i : Nat} {O : Obj} (h : LoopC w0 w N n i) (hin : i < n)
    (hO : O = .cells (cellC 0 0 (.func (.func 18) #[] (chainL N i)) 0 ByteArray.empty) 55)
    (hw : wc = ((w.setCell ⟨N + 2, i, none⟩ (.pointer (some ⟨w.heap.size, 0, none⟩))).alloc O).drew) : LoopM w0 wc N n i := by
  obtain ⟨ps, h1, h2⟩ := h.psz
  have hz := h.size
  have hg : w.heap.size = gB N i := by unfold gB; omega
  obtain ⟨D, hD⟩ : ∃ D, D = w.setCell ⟨N + 2, i, none⟩ (.pointer (some ⟨w.heap.size, 0, none⟩)) := ⟨_, rfl⟩
  rw [← hD] at hw
  have sD : D.heap.size = w.heap.size := by rw [hD, World.size_setCell]
  have dN : D.heap[N + 2]? = some (.cells (ps.setIfInBounds i (.pointer (some ⟨w.heap.size, 0, none⟩))) 27 (0, 0)) := by rw [hD]; exact heap_set_cells h1
  have dO : ∀ k, k ≠ N + 2 → D.heap[k]? = w.heap[k]? := fun k hk => by rw [hD]; exact Below.heap_setCell _ _ _ _ hk
  have cO : ∀ k, k < w.heap.size → wc.heap[k]? = D.heap[k]? := fun k hk => by rw [hw]; exact Lib.alloc_old _ _ _ (by omega)
  have cg : wc.heap[gB N i]? = some O := by rw [hw, ← hg, ← sD]; exact heap_alloc_new D O
  have key : ∀ {b : Nat} {o : Obj}, w.heap[b]? = some o → b ≠ N + 2 → wc.heap[b]? = some o := fun {b o} e hb => (cO b (lt_of_block e)).trans ((dO b hb).trans e)
  have cN : wc.heap[N + 2]? = some (.cells (ps.setIfInBounds i (.pointer (some ⟨w.heap.size, 0, none⟩))) 27 (0, 0)) := (cO _ (by omega)).trans dN
  obtain ⟨cs, k1, k2, k3⟩ := h.at_.cnt
  obtain ⟨ps', k4, k5⟩ := h.at_.row
  rw [h1] at k4
  have hps : ps' = ps := by
    simp only [Option.some.injEq, Obj.cells.injEq] at k4
    exact k4.1.symm
  subst hps
  have hc0 : ∀ t, t < n → wc.cell? ⟨N, t, none⟩ = some (.int .i64 0) := fun t ht => by
    have := h.zero t ht
    rw [cells_get k1] at this
    rw [cells_get (key k1 (by omega))]
    exact this
  refine ⟨⟨⟨cs, key k1 (by omega), k2, fun t ht => ?_⟩, key h.at_.cbox (by omega), ⟨_, cN, fun t ht => ?_⟩, key h.at_.abox (by omega), fun t ht => ?_, fun t ht => ?_⟩, hc0, ⟨_, cN, by simp [h2]⟩, ?_, ?_⟩
  · rw [if_neg (by omega)]
    have := h.zero t (by omega)
    rw [cells_get k1] at this
    exact this
  · by_cases e : t = i
    · subst e
      rw [Array.getElem?_setIfInBounds_self_of_lt (by omega), hg]
    · rw [Array.getElem?_setIfInBounds_ne (by omega)]
      exact k5 t (by omega)
  · by_cases e : t = i
    · subst e
      exact key h.var (by unfold vB; omega)
    · exact key (h.at_.idx t (by omega)) (by unfold vB; omega)
  · by_cases e : t = i
    · subst e
      rw [cg, hO]
      rfl
    · exact key (h.at_.cell t (by omega)) (by unfold gB; omega)
  · rw [hw]
    show (D.alloc O).heap.size = _
    simp only [World.alloc, Array.size_push]
    omega
  · rw [hw]
    refine Below.drew ?_
    refine Below.alloc ?_ (by rw [sD]; omega) _
    rw [hD]
    exact h.below.setCell (by simp) _

theorem loopC_next {w0 w wd : World} {N n i : Nat} (h : LoopM w0 w N n i) (hin : i < n) (hw : wd = w.alloc (.cells #[.int .i64 ((i : Int) + 1)] 3)) : LoopC w0 wd N n (i + 1) := by
  have hz := h.size
  have hb : Below w.heap.size w wd := by rw [hw]; exact (Below.refl _ w).alloc (Nat.le_refl _) _
  obtain ⟨ps, h1, h2⟩ := h.psz
  refine ⟨h.at_.below hb, fun t ht => kept_cell hb (h.zero t ht), ⟨ps, (hb.block _ (lt_of_block h1)).trans h1, h2⟩, ?_, ?_, ?_⟩
  · rw [hw, show vB N (i + 1) = w.heap.size by unfold vB; omega]
    exact heap_alloc_new w _
  · rw [hw]
    simp only [World.alloc, Array.size_push]
    omega
  · exact h.below.trans (hb.mono (by omega))

/-- Get of any of the cells, all of them told up to m -/
theorem get_all {w : World} {N n i m : Nat} (hn : n ≤ 40) (h : ChainAt w N n n m) (hin : i < n) :
    Calls Try.prog 12 #[.pointer (some ⟨gB N i, 0, none⟩)] w fun e w' => e = .returned (.string (dotsB (i + 1))) ∧ ChainAt w' N n n (max m (i + 1)) ∧ Below N w w' := by
  have hl : ChainAt w N n (i + 1) (min m (i + 1)) := h.low (by omega) (fun t ht => by omega)
  refine (get_chain hn i (min m (i + 1)) w hin (by omega) hl).mono ?_
  rintro e w' ⟨rfl, h', hf⟩
  refine ⟨rfl, ?_, hf.below⟩
  obtain ⟨cs, k1, k2, k3⟩ := h.cnt
  obtain ⟨ps, k4, k5⟩ := h.row
  obtain ⟨cs', q1, q2, q3⟩ := h'.cnt
  have key : ∀ {b : Nat} {o : Obj}, w.heap[b]? = some o → b ≠ N → (∀ t, t ≤ i → b ≠ gB N t) → w'.heap[b]? = some o := fun {b o} e h1 h2 => (hf.kept b h1 h2 (lt_of_block e)).trans e
  refine ⟨⟨cs', q1, q2, fun t ht => ?_⟩, h'.cbox, ⟨ps, key k4 (by omega) (fun t _ => by unfold gB; omega), k5⟩, h'.abox, fun t ht => ?_, fun t ht => ?_⟩
  · by_cases hti : t ≤ i
    · rw [q3 t (by omega), if_pos (by omega), if_pos (by omega)]
    · rw [← cells_get q1, hf.cnts t (by omega), cells_get k1, k3 t ht]
      by_cases htm : t < m
      · rw [if_pos htm, if_pos (by omega)]
      · rw [if_neg htm, if_neg (by omega)]
  · exact key (h.idx t ht) (by unfold vB; omega) (fun u _ => by unfold gB vB; omega)
  · by_cases hti : t ≤ i
    · rw [h'.cell t (by omega)]
      unfold chainC
      rw [if_pos (by omega), if_pos (by omega), if_pos (by omega), if_pos (by omega)]
    · rw [key (h.cell t ht) (by unfold gB; omega) (fun u hu => by unfold gB; omega)]
      unfold chainC
      by_cases htm : t < m
      · rw [if_pos htm, if_pos htm, if_pos (by omega), if_pos (by omega)]
      · rw [if_neg htm, if_neg htm, if_neg (by omega), if_neg (by omega)]

/-- what the law's last loop reads -/
theorem chain_reads {w : World} {N n m : Nat} (h : ChainAt w N n n m) : w.cell? ⟨N + 1, 0, none⟩ = some (.slice (some ⟨N, 0, none⟩) n n) ∧ w.cell? ⟨N + 3, 0, none⟩ = some (.slice (some ⟨N + 2, 0, none⟩) n n) ∧
    ∀ t, t < n → w.cell? ⟨N, t, none⟩ = some (.int .i64 (if t < m then 1 else 0)) ∧ w.cell? ⟨N + 2, t, none⟩ = some (.pointer (some ⟨gB N t, 0, none⟩)) ∧ w.cell? ⟨gB N t, 4, none⟩ = some (.int .u32 (if t < m then 1 else 0)) := by
  obtain ⟨cs, k1, k2, k3⟩ := h.cnt
  obtain ⟨ps, k4, k5⟩ := h.row
  exact ⟨Lib.cell_of_heap h.cbox 0, Lib.cell_of_heap h.abox 0, fun t ht => ⟨(cells_get k1).trans (k3 t ht), (cells_get k4).trans (k5 t ht), Lib.cell_of_heap (h.cell t ht) 4⟩⟩

set_option maxRecDepth 100000 in
set_option maxHeartbeats 8000000 in
theorem cellChain_walk (a0 : Int) (w0 : (Lit.int .i64 a0).wf = true) (a1 : Int) (w1 : (Lit.int .i64 a1).wf = true) (a2 : Int) (w2 : (Lit.int .i64 a2).wf = true) (w : World) :
    Calls Try.prog 5 #[.int .i64 a0, .int .i64 a1, .int .i64 a2] w fun e w' => e = .returned (.bool true) ∧ Below w.heap.size w w' := by
  have ha1 := i64_arg w1
  have ha2 := i64_arg w2
  clear w0 w1 w2
  by_cases hlo : a0 < 1
  · have HW := Lib.hid (awake_any w)
    go_enter Try.func5, Try.ntmps5
    go_wp2_with fail
    refine HW.out.mono ?_
    rintro e w' ⟨rfl, hb⟩
    replace hb := Lib.hid hb
    go_wp2
    go_ret
    exact ⟨rfl, hb.out⟩
  by_cases hhi : 40 < a0
  · have HW := Lib.hid (awake_any w)
    go_enter Try.func5, Try.ntmps5
    go_wp2_with fail
    refine HW.out.mono ?_
    rintro e w' ⟨rfl, hb⟩
    replace hb := Lib.hid hb
    go_wp2
    go_ret
    exact ⟨rfl, hb.out⟩
  obtain ⟨n, rfl⟩ : ∃ n : Nat, a0 = n := ⟨a0.toNat, by omega⟩
  have hn1 : 1 ≤ n := by omega
  have hn2 : n ≤ 40 := by omega
  have mkI := run_make_row' (P := Try.prog) 23 3 (.int .i64 0) 8 Try.underlying23 infoInt rfl .i64 .i64 n (by omega) (by omega)
  have mkP := run_make_row' (P := Try.prog) 26 27 (.pointer none) 8 Try.underlying26 infoCellP rfl .i64 .i64 n (by omega) (by omega)
  obtain ⟨CI, hCI⟩ : ∃ C, C = madeCells #[Value.int .i64 0] n := ⟨_, rfl⟩
  obtain ⟨CP, hCP⟩ : ∃ C, C = madeCells #[Value.pointer none] n := ⟨_, rfl⟩
  rw [← hCI] at mkI
  rw [← hCP] at mkP
  replace hCI := Lib.hid hCI
  replace hCP := Lib.hid hCP
  go_enter Try.func5, Try.ntmps5
  go_wp2_with fail
  rw [show w.heap.size + 1 + 1 + 1 + 1 = w.heap.size + 4 from rfl, show w.heap.size + 1 + 1 + 1 = w.heap.size + 3 from rfl, show w.heap.size + 1 + 1 = w.heap.size + 2 from rfl]
  obtain ⟨wL, hwL⟩ : ∃ W, W = ((((w.alloc (.cells CI 3)).alloc (.cells #[.slice (some ⟨w.heap.size, 0, none⟩) n n] 23)).alloc (.cells CP 27)).alloc (.cells #[.slice (some ⟨w.heap.size + 2, 0, none⟩) n n] 26)).alloc (.cells #[.int .i64 0] 3) := ⟨_, rfl⟩
  rw [← hwL]
  have L0 := Lib.hid (loopC_start hCI.out hCP.out hwL)
  replace hwL := Lib.hid hwL
  obtain ⟨N, hN⟩ : ∃ N, N = w.heap.size := ⟨_, rfl⟩
  rw [← hN] at L0 ⊢
  replace hN := Lib.hid hN
  go_loopg [9] n (fun q v9 w9 => ∃ i : Nat, q = n - i ∧ i ≤ n ∧ v9 = .pointer (some ⟨vB N i, 0, none⟩) ∧ Hid (LoopC w w9 N n i))
  case atStart => exact ⟨0, rfl, Nat.zero_le _, rfl, L0⟩
  case round =>
    obtain ⟨i, hq, hi, rfl, hk⟩ := hrel
    replace hq := hq.symm
    subst hq
    have c0 : wr.cell? ⟨vB N i, 0, none⟩ = some (.int .i64 i) := Lib.cell_of_heap hk.out.var 0
    have c2 : wr.cell? ⟨N + 3, 0, none⟩ = some (.slice (some ⟨N + 2, 0, none⟩) n n) := Lib.cell_of_heap hk.out.at_.abox 0
    have hsz := Lib.hid hk.out.size
    by_cases hin : i < n
    · have hin' : (i : Int) < n := by omega
      obtain ⟨ps, hps, hpn⟩ := hk.out.psz
      obtain ⟨pv, hpv⟩ : ∃ pv, ps[i]? = some pv := ⟨_, Array.getElem?_eq_getElem (by omega)⟩
      have c3 : wr.cell? ⟨N + 2, i, none⟩ = some pv := by rw [cells_get hps]; exact hpv
      have z3 : wr.frozen? ⟨N + 2, i, none⟩ = false := Lib.frozen_of_heap hps i
      replace hps := Lib.hid hps
      replace hpn := Lib.hid hpn
      replace hpv := Lib.hid hpv
      have HNew : Hid (∀ W, Calls Try.prog 8 #[.func (.func 18) #[] #[.pointer (some ⟨N + 1, 0, none⟩), .pointer (some ⟨vB N i, 0, none⟩), .pointer (some ⟨N + 3, 0, none⟩)]] W fun e w' => e = .returned (.pointer (some ⟨W.heap.size, 0, none⟩)) ∧ w' = W.alloc (.cells (cellC 0 0 (.func (.func 18) #[] #[.pointer (some ⟨N + 1, 0, none⟩), .pointer (some ⟨vB N i, 0, none⟩), .pointer (some ⟨N + 3, 0, none⟩)]) 0 ByteArray.empty) 55)) := Lib.hid fun W => new_any _ _ W
      go_wp2_with fail
      obtain ⟨O, hO⟩ : ∃ O, O = Obj.cells (cellC 0 0 (.func (.func 18) #[] #[.pointer (some ⟨N + 1, 0, none⟩), .pointer (some ⟨vB N i, 0, none⟩), .pointer (some ⟨N + 3, 0, none⟩)]) 0 ByteArray.empty) 55 := ⟨_, rfl⟩
      rw [← hO] at HNew
      replace hO := Lib.hid hO
      have c0a : (wr.alloc O).cell? ⟨vB N i, 0, none⟩ = some (.int .i64 i) := kept_cell ((Below.refl _ wr).alloc (Nat.le_refl _) O) c0
      have c2a : (wr.alloc O).cell? ⟨N + 3, 0, none⟩ = some (.slice (some ⟨N + 2, 0, none⟩) n n) := kept_cell ((Below.refl _ wr).alloc (Nat.le_refl _) O) c2
      have c3a : (wr.alloc O).cell? ⟨N + 2, i, none⟩ = some pv := kept_cell ((Below.refl _ wr).alloc (Nat.le_refl _) O) c3
      have z3a : (wr.alloc O).frozen? ⟨N + 2, i, none⟩ = false := by rw [World.frozen?_alloc_past _ _ _ (by have := hsz.out; omega)]; exact z3
      have hl2 : N + 2 < wr.heap.size := by have := hsz.out; omega
      have tv : True := trivial
      go_cut [] from 32 to 37 (fun wx => wx = ((wr.setCell ⟨N + 2, i, none⟩ (.pointer (some ⟨wr.heap.size, 0, none⟩))).alloc O).drew)
      case first =>
        go_region_with (go_at_call 8; (with_reducible refine (HNew.out _).mono ?_); rintro e w' ⟨rfl, hw'⟩; subst hw')
        all_goals
          go_wp2_with fail
          go_meet
          exact rfl
      case rest =>
        have hM := Lib.hid (loopC_mid hk.out hin (hO.out.trans rfl) hcut)
        clear hcut
        have m0 : wc.cell? ⟨vB N i, 0, none⟩ = some (.int .i64 i) := Lib.cell_of_heap (hM.out.at_.idx i (by omega)) 0
        have m2 : wc.cell? ⟨N + 3, 0, none⟩ = some (.slice (some ⟨N + 2, 0, none⟩) n n) := Lib.cell_of_heap hM.out.at_.abox 0
        obtain ⟨ps', hps1, hps2⟩ := hM.out.at_.row
        have m3 : wc.cell? ⟨N + 2, i, none⟩ = some (.pointer (some ⟨gB N i, 0, none⟩)) := by rw [cells_get hps1]; exact hps2 i (by omega)
        clear hps2 hps1 ps'
        have g1 : IntKind.i64.wrap ((i : Int) + 1) = (i : Int) + 1 := IntWalk.i64_in _ (by omega)
        have hM' := hM
        have f4 : Hid (n - (i + 1) < n - i) := Lib.hid (by omega)
        have hsz' : wc.heap.size = vB N (i + 1) := by have := hM.out.size; unfold vB; omega
        go_wp2_with fail
        go_roundg (n - (i + 1))
        case measure => exact f4.out
        case rel => exact ⟨i + 1, rfl, by omega, rfl, Lib.hid (loopC_next hM.out hin rfl)⟩
    · obtain rfl : i = n := by omega
      have hin' : ¬ (i : Int) < i := by omega
      have hA := Lib.hid hk.out.at_
      have hrx := rndX_range a1 i (by omega)
      have hry := rndX_range a2 i (by omega)
      obtain ⟨a, ha⟩ : ∃ a : Nat, (a : Int) = rndX a1 i := ⟨(rndX a1 i).toNat, by omega⟩
      obtain ⟨b, hb⟩ : ∃ b : Nat, (b : Int) = rndX a2 i := ⟨(rndX a2 i).toNat, by omega⟩
      have R1 : Hid (∀ W, Calls Try.prog 10 #[.int .i64 a1, .int .i64 i] W fun e w' => e = .returned (.int .i64 a) ∧ w' = W) := Lib.hid fun W => by rw [ha]; exact roundX_any a1 i (by omega) (by omega) ha1 W
      have R2 : Hid (∀ W, Calls Try.prog 10 #[.int .i64 a2, .int .i64 i] W fun e w' => e = .returned (.int .i64 b) ∧ w' = W) := Lib.hid fun W => by rw [hb]; exact roundX_any a2 i (by omega) (by omega) ha2 W
      rw [← ha] at hrx
      rw [← hb] at hry
      have hai : a < i := by omega
      have hbi : b < i := by omega
      have hai' : (a : Int) < i := by omega
      have hbi' : (b : Int) < i := by omega
      clear ha hb hrx hry
      go_wp2_with fail
      refine (R1.out _).mono ?_
      rintro e w' ⟨rfl, hw'⟩
      replace hw' := hw'.symm
      subst hw'
      go_wp2_with fail
      refine (R2.out _).mono ?_
      rintro e w' ⟨rfl, hw'⟩
      replace hw' := hw'.symm
      subst hw'
      clear R1 R2 c0 c2
      have HG : Hid (∀ W m j, ChainAt W N i i m → j < i → Calls Try.prog 12 #[.pointer (some ⟨gB N j, 0, none⟩)] W fun e w' => e = .returned (.string (dotsB (j + 1))) ∧ ChainAt w' N i i (max m (j + 1)) ∧ Below N W w') := Lib.hid fun W m j h hj => get_all hn2 h hj
      have hR : Hid (∀ W m, ChainAt W N i i m → W.cell? ⟨N + 3, 0, none⟩ = some (.slice (some ⟨N + 2, 0, none⟩) i i) ∧ W.cell? ⟨N + 2, a, none⟩ = some (.pointer (some ⟨gB N a, 0, none⟩)) ∧ W.cell? ⟨N + 2, b, none⟩ = some (.pointer (some ⟨gB N b, 0, none⟩))) := Lib.hid fun W m h => ⟨(chain_reads h).2.1, ((chain_reads h).2.2 a hai).2.1, ((chain_reads h).2.2 b hbi).2.1⟩
      have q1 : ChainAt wr.drew N i i 0 := hA.out.below (Below.refl _ wr).drew
      have y0 := hR.out _ _ hA.out
      have y1 := hR.out _ _ q1
      have hB0 := Lib.hid hk.out.below
      go_wp2_with fail
      go_region_held3 (fun x : World => x.cell? ⟨N + 3, 0, none⟩ = some (.slice (some ⟨N + 2, 0, none⟩) i i) ∧ x.cell? ⟨N + 2, a, none⟩ = some (.pointer (some ⟨gB N a, 0, none⟩)) ∧ x.cell? ⟨N + 2, b, none⟩ = some (.pointer (some ⟨gB N b, 0, none⟩))) (first | with_reducible exact y0 | with_reducible exact y1 | with_reducible exact y2 | with_reducible exact y3) (first
        | (go_at_call 12; (with_reducible refine (HG.out _ _ a q1 hai).mono ?_); rintro e w1 ⟨rfl, q2, k1⟩; have y2 := hR.out _ _ q2)
        | (go_at_call 12; (with_reducible refine (HG.out _ _ b q2 hbi).mono ?_); rintro e w2 ⟨rfl, q3, k2⟩; have y3 := hR.out _ _ q3))
      all_goals
        clear y0 y1 y2 y3 hR HG
        have hs1 : ((dotsB (a + 1)).size : Int) = (a : Int) + 1 := by rw [dotsB_size]; omega
        have hs2 : ((dotsB (b + 1)).size : Int) = (b : Int) + 1 := by rw [dotsB_size]; omega
        have g1 : IntKind.i64.wrap ((a : Int) + 1) = (a : Int) + 1 := IntWalk.i64_in _ (by omega)
        have g2 : IntKind.i64.wrap ((b : Int) + 1) = (b : Int) + 1 := IntWalk.i64_in _ (by omega)
        obtain ⟨M, hMx⟩ : ∃ M : Nat, max (a : Int) (b : Int) = (M : Int) := ⟨max a b, by omega⟩
        have hm3 : max (max 0 (a + 1)) (b + 1) = M + 1 := by omega
        rw [hm3] at q3
        have hK : Below N w w2 := (hB0.out.trans (Below.refl _ wr).drew).trans (k1.trans k2)
        replace hK := Lib.hid hK
        have HA := Lib.hid (awake_any w2)
        have hrd := Lib.hid (chain_reads q3)
        clear hm3 q1 q2 q3 k1 k2 hB0 hA hk hsz
        obtain ⟨x1, x2, _⟩ := hrd.out
        go_wp2_with fail
        go_loopg [14, 15] i (fun q v14 v15 w9 => ∃ t : Nat, q = i - t ∧ t ≤ i ∧ v14 = .int .i64 t ∧ w9 = w2)
        case atStart => exact ⟨0, rfl, Nat.zero_le _, rfl, rfl⟩
        case round =>
          obtain ⟨t, hq, ht, rfl, hwr⟩ := hrel
          replace hwr := hwr.symm
          subst hwr
          replace hq := hq.symm
          subst hq
          by_cases hti : t < i
          · have hti' : (t : Int) < (i : Int) := by omega
            have f4 : Hid (i - (t + 1) < i - t) := Lib.hid (by omega)
            have g3 : IntKind.i64.wrap ((t : Int) + 1) = (t : Int) + 1 := IntWalk.i64_in _ (by omega)
            obtain ⟨x3, x4, x5⟩ := hrd.out.2.2 t hti
            have HMd := Lib.hid (made_any w2 x5)
            by_cases htM : (t : Int) ≤ (M : Int)
            · have e1 : t < M + 1 := by omega
              rw [if_pos e1] at x3 HMd
              go_wp2_with fail
              all_goals
                refine HMd.out.mono ?_
                rintro e w' ⟨rfl, hw'⟩
                replace hw' := hw'.symm
                subst hw'
                go_wp2_with fail
                go_roundg (i - (t + 1))
                case measure => exact f4.out
                case rel => exact ⟨t + 1, rfl, by omega, rfl, rfl⟩
            · have e1 : ¬ t < M + 1 := by omega
              rw [if_neg e1] at x3 HMd
              go_wp2_with fail
              all_goals
                refine HMd.out.mono ?_
                rintro e w' ⟨rfl, hw'⟩
                replace hw' := hw'.symm
                subst hw'
                go_wp2_with fail
                go_roundg (i - (t + 1))
                case measure => exact f4.out
                case rel => exact ⟨t + 1, rfl, by omega, rfl, rfl⟩
          · obtain rfl : t = i := by omega
            have hti' : ¬ (t : Int) < (t : Int) := by omega
            go_wp2_with fail
            refine HA.out.mono ?_
            rintro e w' ⟨rfl, hb⟩
            replace hb := Lib.hid hb
            go_wp2
            go_ret
            have hN' := hN.out
            subst hN'
            exact ⟨rfl, hK.out.trans (hb.out.mono (hK.out.size))⟩
end Go.Proofs.Ytcfadekcdcphnaa
