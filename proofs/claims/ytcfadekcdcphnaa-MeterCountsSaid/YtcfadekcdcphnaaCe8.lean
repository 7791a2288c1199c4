/- The law's look at what the document fixes (chapter 23). -/
import Derived.Test.YtcfadekcdcphnaaCe3
import Derived.Test.YtcfadekcdcphnaaCe7
namespace Go.Proofs.Ytcfadekcdcphnaa
open Go.RowKit
set_option linter.unusedVariables false

theorem reset_nil (w : World) : Calls Try.prog 15 #[.pointer none] w fun e w' => e = .returned (.slice none 0 0) ∧ w' = w := by
  go_enter Try.func15, Try.ntmps15
  go_wp2
  go_ret
  exact ⟨rfl, rfl⟩

theorem awake1_any {b : Nat} (w : World) (h : w.heap[b]? = some (.cells #[.int .i64 0] 3 (0, 0))) :
    Calls Try.prog 19 #[.pointer (some ⟨b, 0, none⟩)] w fun e w' => e = .returned (.string ⟨#[109, 97, 100, 101]⟩) ∧ w' = w.setCell ⟨b, 0, none⟩ (.int .i64 1) := by
  have c0 := Lib.cell_of_heap h 0
  have f0 := Lib.frozen_of_heap h 0
  have c0' : w.cell? ⟨b, 0, none⟩ = some (.int .i64 0) := c0
  replace h := Lib.hid h
  go_enter Try.func19, Try.ntmps19
  go_wp2
  go_ret
  exact ⟨rfl, rfl⟩

/-- Get at the first asking, in awake -/
theorem get_awake {b g : Nat} {sv : ByteArray} (w : World) (hbg : b ≠ g) (hb : w.heap[b]? = some (.cells #[.int .i64 0] 3 (0, 0)))
    (e0 : w.heap[g]? = some (.cells (cellC 0 0 (.func (.func 19) #[] #[.pointer (some ⟨b, 0, none⟩)]) 0 sv) 55 (0, 0))) :
    Calls Try.prog 12 #[.pointer (some ⟨g, 0, none⟩)] w fun e wf => e = .returned (.string ⟨#[109, 97, 100, 101]⟩) ∧
      wf.heap[g]? = some (.cells (cellC 1 0 (.func (.func 19) #[] #[.pointer (some ⟨b, 0, none⟩)]) 1 ⟨#[109, 97, 100, 101]⟩) 55 (0, 0)) ∧ wf.heap[b]? = some (.cells #[.int .i64 1] 3 (0, 0)) ∧
      (∀ k, k ≠ g → k ≠ b → k < w.heap.size → wf.heap[k]? = w.heap[k]?) ∧ w.heap.size ≤ wf.heap.size ∧ ∀ B, B ≤ g → B ≤ b → Below B w wf := by
  have hg := lt_of_block e0
  have hlb := lt_of_block hb
  have hW0 : ∀ k, k < w.heap.size → k ≠ g → (askW g w).heap[k]? = w.heap[k]? := fun k hk hne => by
    unfold askW
    rw [Below.heap_setCell _ _ _ _ hne]
    exact Lib.alloc_old _ _ _ hk
  have hWg : (askW g w).heap[g]? = some (.cells (cellC 0 1 (.func (.func 19) #[] #[.pointer (some ⟨b, 0, none⟩)]) 0 sv) 55 (0, 0)) := by
    unfold askW
    exact heap_set ((Lib.alloc_old _ _ _ hg).trans e0)
  have hWx : (askW g w).heap[w.heap.size]? = some (.cells #[.pointer (some ⟨g, 0, none⟩)] 27 (0, 0)) := by
    unfold askW
    rw [Below.heap_setCell _ _ _ _ (by show w.heap.size ≠ g; omega)]
    exact heap_alloc_new w _
  have sW : (askW g w).heap.size = w.heap.size + 1 := by unfold askW; simp [World.size_setCell]
  have bW : ∀ B, B ≤ g → Below B w (askW g w) := fun B hB => by unfold askW; exact ((Below.refl B w).alloc (by omega) _).setCell hB _
  obtain ⟨W0, hWe⟩ : ∃ W0, W0 = askW g w := ⟨_, rfl⟩
  have HF := awake1_any W0.drew (b := b) (by show W0.heap[b]? = _; rw [hWe, hW0 b hlb hbg]; exact hb)
  have hQ : MakeQ (fun W => W = W0.drew.setCell ⟨b, 0, none⟩ (.int .i64 1)) g w.heap.size 19 #[.pointer (some ⟨b, 0, none⟩)] 1 sv := ⟨by
    rintro _ rfl
    rw [Below.heap_setCell _ _ _ _ (Ne.symm hbg)]
    show W0.heap[g]? = _
    rw [hWe]; exact hWg, by
    rintro _ rfl
    rw [Below.heap_setCell _ _ _ _ (by show w.heap.size ≠ b; omega)]
    show W0.heap[w.heap.size]? = _
    rw [hWe]; exact hWx⟩
  have HG := getter_awake (some ⟨b, 0, none⟩) W0 hQ (by rw [hWe]; exact hWx) (by rw [hWe]; exact hWg) HF
  refine (get_first w hQ e0 (by rw [← hWe]; exact HG)).mono ?_
  rintro e wf ⟨rfl, W, hW, t1, t2, t3, t4⟩
  subst hW
  have hWb : W0.drew.heap[b]? = some (.cells #[.int .i64 0] 3 (0, 0)) := by show W0.heap[b]? = _; rw [hWe, hW0 b hlb hbg]; exact hb
  refine ⟨rfl, t1, ?_, ?_, ?_, ?_⟩
  · rw [t2 b hbg]
    exact heap_set hWb
  · intro k h1 h2 hk
    rw [t2 k h1, Below.heap_setCell _ _ _ _ h2]
    show W0.heap[k]? = _
    rw [hWe]
    exact hW0 k hk h1
  · rw [t3, World.size_setCell]
    show _ ≤ W0.heap.size
    rw [hWe, sW]
    omega
  · intro B h1 h2
    have b1 := bW B h1
    rw [← hWe] at b1
    exact (b1.drew.setCell h2 _).trans (t4 B h1)

/-- what lies there ahead of the asking: the number, the cell, the meter -/
structure AwkAt (B : Nat) (b g gm : Nat) (x : Int) (cs : Array Value) (p : Option Addr) (L : List (ByteArray × Int)) (w0 w : World) : Prop where
  below : Below B w0 w
  num : w.heap[b]? = some (.cells #[.int .i64 x] 3 (0, 0))
  cell : w.heap[g]? = some (.cells cs 55 (0, 0))
  meter : MeterAt w gm p L

set_option maxRecDepth 100000 in
set_option maxHeartbeats 4000000 in
theorem awake_any (w : World) : Calls Try.prog 7 #[] w fun e w' => e = .returned (.bool true) ∧ Below w.heap.size w w' := by
  obtain ⟨b, hbe⟩ : ∃ b, b = w.heap.size := ⟨_, rfl⟩
  obtain ⟨g, hge⟩ : ∃ g, g = w.heap.size + 1 := ⟨_, rfl⟩
  obtain ⟨gm, hme⟩ : ∃ gm, gm = w.heap.size + 2 := ⟨_, rfl⟩
  have hbg : b ≠ g := by omega
  have hbm : b ≠ gm := by omega
  have hgm : g ≠ gm := by omega
  have H1 : Hid (Calls Try.prog 8 #[.func (.func 19) #[] #[.pointer (some ⟨w.heap.size, 0, none⟩)]] (w.alloc (.cells #[.int .i64 0] 3)) fun e w' => e = .returned (.pointer (some ⟨g, 0, none⟩)) ∧
      (Below w.heap.size w w' ∧ w'.heap.size = w.heap.size + 2 ∧ w'.heap[b]? = some (.cells #[.int .i64 0] 3 (0, 0)) ∧ w'.heap[g]? = some (.cells (cellC 0 0 (.func (.func 19) #[] #[.pointer (some ⟨b, 0, none⟩)]) 0 ByteArray.empty) 55 (0, 0)))) := Lib.hid ((new_any _ _ _).mono (by
    rintro e w' ⟨rfl, rfl⟩
    have hs : (w.alloc (.cells #[.int .i64 0] 3)).heap.size = w.heap.size + 1 := by simp
    refine ⟨by rw [hs, hge], ((Below.refl _ w).alloc (Nat.le_refl _) _).alloc (by simp) _, by simp, ?_, ?_⟩
    · rw [hbe, Lib.alloc_old _ _ _ (by simp)]
      exact heap_alloc_new w _
    · have := heap_alloc_new (w.alloc (.cells #[.int .i64 0] 3)) (.cells (cellC 0 0 (.func (.func 19) #[] #[.pointer (some ⟨w.heap.size, 0, none⟩)]) 0 ByteArray.empty) 55)
      rw [hs] at this
      rw [hge, hbe]
      exact this))
  have H2 : Hid (∀ W, (Below w.heap.size w W ∧ W.heap.size = w.heap.size + 2 ∧ W.heap[b]? = some (.cells #[.int .i64 0] 3 (0, 0)) ∧ W.heap[g]? = some (.cells (cellC 0 0 (.func (.func 19) #[] #[.pointer (some ⟨b, 0, none⟩)]) 0 ByteArray.empty) 55 (0, 0))) →
      Calls Try.prog 13 #[] W fun e w' => e = .returned (.pointer (some ⟨gm, 0, none⟩)) ∧ AwkAt w.heap.size b g gm 0 (cellC 0 0 (.func (.func 19) #[] #[.pointer (some ⟨b, 0, none⟩)]) 0 ByteArray.empty) none [] w w') := Lib.hid (fun W hW => (newMeter_any W).mono (by
    rintro e w' ⟨rfl, rfl⟩
    obtain ⟨h1, h2, h3, h4⟩ := hW
    refine ⟨by rw [h2, hme], h1.trans ((Below.refl _ W).alloc (by omega) _), ?_, ?_, ?_, .inl ⟨rfl, rfl⟩⟩
    · rw [Lib.alloc_old _ _ _ (by omega)]; exact h3
    · rw [Lib.alloc_old _ _ _ (by omega)]; exact h4
    · have := heap_alloc_new W (.cells #[.pointer none] 64)
      rw [h2] at this
      rw [hme]
      exact this))
  obtain ⟨c0, hc0⟩ : ∃ c, c = cellC 0 0 (.func (.func 19) #[] #[.pointer (some ⟨b, 0, none⟩)]) 0 ByteArray.empty := ⟨_, rfl⟩
  obtain ⟨c1, hc1⟩ : ∃ c, c = cellC 1 0 (.func (.func 19) #[] #[.pointer (some ⟨b, 0, none⟩)]) 1 ⟨#[109, 97, 100, 101]⟩ := ⟨_, rfl⟩
  rw [← hc0] at H1 H2
  have gB : w.heap.size ≤ g := by omega
  have bB : w.heap.size ≤ b := by omega
  have mB : w.heap.size ≤ gm := by omega
  have H3 : Hid (∀ W, AwkAt w.heap.size b g gm 0 c0 none [] w W → Calls Try.prog 11 #[.pointer (some ⟨g, 0, none⟩)] W fun e w' => e = .returned (.bool false) ∧ w' = W) := Lib.hid (fun W h => by
    have hc := h.cell
    rw [hc0] at hc
    exact made_any W (cell6 hc).2.2.2.2.1)
  have H4 : Hid (∀ W, AwkAt w.heap.size b g gm 0 c0 none [] w W → Calls Try.prog 12 #[.pointer (some ⟨g, 0, none⟩)] W fun e w' => e = .returned (.string ⟨#[109, 97, 100, 101]⟩) ∧ AwkAt w.heap.size b g gm 1 c1 none [] w w') := Lib.hid (fun W h => by
    have hc := h.cell
    rw [hc0] at hc
    refine (get_awake W hbg h.num hc).mono ?_
    rintro e wf ⟨rfl, t1, t2, t3, t4, t5⟩
    have hm := h.meter
    refine ⟨rfl, h.below.trans (t5 _ gB bB), t2, by rw [hc1]; exact t1, (t3 gm (Ne.symm hgm) (Ne.symm hbm) (lt_of_block hm.own)).trans hm.own, .inl ⟨rfl, rfl⟩⟩)
  have H5 : Hid (∀ W, AwkAt w.heap.size b g gm 1 c1 none [] w W → Calls Try.prog 12 #[.pointer (some ⟨g, 0, none⟩)] W fun e w' => e = .returned (.string ⟨#[109, 97, 100, 101]⟩) ∧ AwkAt w.heap.size b g gm 1 c1 none [] w w') := Lib.hid (fun W h => by
    have hc := h.cell
    rw [hc1] at hc
    refine (get_told W hc).mono ?_
    rintro e wf ⟨rfl, t⟩
    have hm := h.meter
    exact ⟨rfl, h.below.trans (t.mono h.below.size), (t.block _ (lt_of_block h.num)).trans h.num, (t.block _ (lt_of_block h.cell)).trans h.cell, (t.block _ (lt_of_block hm.own)).trans hm.own, .inl ⟨rfl, rfl⟩⟩)
  have H6 : Hid (∀ W, AwkAt w.heap.size b g gm 1 c1 none [] w W → Calls Try.prog 16 #[.pointer (some ⟨gm, 0, none⟩), .string ⟨#[120]⟩, .int .i64 2] W fun e w' => e = .returned (.tuple #[]) ∧ ∃ p, AwkAt w.heap.size b g gm 1 c1 p [(⟨#[120]⟩, 2)] w w') := Lib.hid (fun W h => by
    have hsum : sumOf [] ⟨#[120]⟩ 2 = 2 := by rw [sumOf, show numOf [] ⟨#[120]⟩ = 0 from rfl]; omega
    have hput : putI [] ⟨#[120]⟩ 2 = [(⟨#[120]⟩, 2)] := rfl
    have HA := add_any W h.meter ⟨#[120]⟩ (by simp [ByteArray.size, maxLen]) 2 (by omega) (by omega)
    rw [hsum, hput] at HA
    refine HA.mono ?_
    rintro e wf ⟨rfl, ⟨p, hp⟩, ho⟩
    exact ⟨rfl, p, h.below.trans (ho.below _ mB), (ho.kept b hbm (lt_of_block h.num)).trans h.num, (ho.kept g hgm (lt_of_block h.cell)).trans h.cell, hp⟩)
  have H7 : Hid (∀ W p, AwkAt w.heap.size b g gm 1 c1 p [(⟨#[120]⟩, 2)] w W → Calls Try.prog 17 #[.pointer (some ⟨gm, 0, none⟩), .string ⟨#[120]⟩] W fun e w' => e = .returned (.int .i64 2) ∧ w' = W) := Lib.hid (fun W p h => by
    have hr := read_any W h.meter ⟨#[120]⟩ (by simp [ByteArray.size, maxLen])
    rw [show numOf [((⟨#[120]⟩ : ByteArray), (2 : Int))] ⟨#[120]⟩ = 2 by simp [numOf]] at hr
    exact hr)
  have H8 : Hid (∀ W p, AwkAt w.heap.size b g gm 1 c1 p [(⟨#[120]⟩, 2)] w W → Calls Try.prog 17 #[.pointer (some ⟨gm, 0, none⟩), .string ⟨#[121]⟩] W fun e w' => e = .returned (.int .i64 0) ∧ w' = W) := Lib.hid (fun W p h => by
    have hr := read_any W h.meter ⟨#[121]⟩ (by simp [ByteArray.size, maxLen])
    rw [show numOf [((⟨#[120]⟩ : ByteArray), (2 : Int))] ⟨#[121]⟩ = 0 by simp [numOf]] at hr
    exact hr)
  have H9 : Hid (∀ W p, AwkAt w.heap.size b g gm 1 c1 p [(⟨#[120]⟩, 2)] w W → Calls Try.prog 11 #[.pointer (some ⟨g, 0, none⟩)] W fun e w' => e = .returned (.bool true) ∧ w' = W) := Lib.hid (fun W p h => by
    have hc := h.cell
    rw [hc1] at hc
    exact made_any W (cell6 hc).2.2.2.2.1)
  have HA : Hid (∀ W, Calls Try.prog 16 #[.pointer (some ⟨gm, 0, none⟩), .string ⟨#[120]⟩, .int .i64 (-5)] W fun e w' => e = .returned (.tuple #[]) ∧ w' = W) := Lib.hid (fun W => add_less gm _ (-5) (by decide) W)
  have HN1 := Lib.hid get_nil
  have HN2 := Lib.hid made_nil
  have HN3 := Lib.hid add_nil
  have HN4 := Lib.hid read_nil
  have HN5 := Lib.hid reset_nil
  replace hbe := Lib.hid hbe
  replace hge := Lib.hid hge
  replace hme := Lib.hid hme
  replace hc0 := Lib.hid hc0
  replace hc1 := Lib.hid hc1
  replace gB := Lib.hid gB
  replace bB := Lib.hid bB
  replace mB := Lib.hid mB
  go_enter Try.func7, Try.ntmps7
  go_wp2_with fail
  refine H1.out.mono ?_
  rintro e w1 ⟨rfl, k1⟩
  have K2 := Lib.hid (H2.out _ k1)
  replace k1 := Lib.hid k1
  go_wp2_with fail
  refine K2.out.mono ?_
  rintro e w2 ⟨rfl, k2⟩
  have K3 := Lib.hid (H3.out _ k2)
  have K4 := Lib.hid (H4.out _ k2)
  replace k2 := Lib.hid k2
  go_wp2_with fail
  refine K3.out.mono ?_
  rintro e w' ⟨rfl, hw'⟩
  replace hw' := hw'.symm
  subst hw'
  go_wp2_with fail
  refine K4.out.mono ?_
  rintro e w3 ⟨rfl, k3⟩
  have K5 := Lib.hid (H5.out _ k3)
  replace k3 := Lib.hid k3
  go_wp2_with fail
  refine K5.out.mono ?_
  rintro e w4 ⟨rfl, k4⟩
  have K6 := Lib.hid (H6.out _ k4)
  replace k4 := Lib.hid k4
  go_wp2_with fail
  refine K6.out.mono ?_
  rintro e w5 ⟨rfl, p, k5⟩
  have K7 := Lib.hid (H7.out _ _ k5)
  have K8 := Lib.hid (H8.out _ _ k5)
  have K9 := Lib.hid (H9.out _ _ k5)
  have hn1 : w5.cell? ⟨w.heap.size, 0, none⟩ = some (.int .i64 1) := by rw [← hbe.out]; exact Lib.cell_of_heap k5.num 0
  have kB := Lib.hid k5.below
  replace k5 := Lib.hid k5
  go_wp2_with fail
  refine (HA.out _).mono ?_
  rintro e w' ⟨rfl, hw'⟩
  replace hw' := hw'.symm
  subst hw'
  go_wp2_with fail
  refine (HN3.out _ _ _).mono ?_
  rintro e w' ⟨rfl, hw'⟩
  replace hw' := hw'.symm
  subst hw'
  go_wp2_with fail
  refine K9.out.mono ?_
  rintro e w' ⟨rfl, hw'⟩
  replace hw' := hw'.symm
  subst hw'
  go_wp2_with fail
  refine K7.out.mono ?_
  rintro e w' ⟨rfl, hw'⟩
  replace hw' := hw'.symm
  subst hw'
  go_wp2_with fail
  refine K8.out.mono ?_
  rintro e w' ⟨rfl, hw'⟩
  replace hw' := hw'.symm
  subst hw'
  go_wp2_with fail
  refine (HN1.out _).mono ?_
  rintro e w6 ⟨rfl, k6⟩
  have k56 := Lib.hid (kB.out.trans (k6.mono kB.out.size))
  clear k6
  go_wp2_with fail
  refine (HN2.out _).mono ?_
  rintro e w' ⟨rfl, hw'⟩
  replace hw' := hw'.symm
  subst hw'
  go_wp2_with fail
  refine (HN4.out _ _).mono ?_
  rintro e w' ⟨rfl, hw'⟩
  replace hw' := hw'.symm
  subst hw'
  go_wp2_with fail
  refine (HN5.out _).mono ?_
  rintro e w' ⟨rfl, hw'⟩
  replace hw' := hw'.symm
  subst hw'
  go_wp2
  go_ret
  exact ⟨rfl, k56.out⟩
end Go.Proofs.Ytcfadekcdcphnaa
