/- Paths: the program's Valid. -/
import Derived.Test.YtekbilieddficaaDoorPa7
namespace Go.Proofs.YtekbilieddficaaDoor
open Go.RowKit Go.Shelf
set_option linter.unusedVariables false
attribute [local go_sem] Oper.semAt_some

theorem bsl_mem {L : List (List UInt8)} {x : ByteArray} (h : x ∈ bsl L) : x.data.toList ∈ L := by
  unfold bsl at h
  obtain ⟨l, hl, rfl⟩ := List.mem_map.1 h
  exact hl

theorem bsl_mk {L : List (List UInt8)} {l : List UInt8} (h : l ∈ L) : ∃ x ∈ bsl L, x.data.toList = l := ⟨⟨l.toArray⟩, List.mem_map.2 ⟨l, h, rfl⟩, rfl⟩

theorem keep_set {W : World} {b : Nat} {c : Addr} {v u : Value} (h : W.cell? ⟨b, 0, none⟩ = some v) (hne : c.block ≠ b) : (W.setCell c u).cell? ⟨b, 0, none⟩ = some v :=
  (World.cell?_of_block (Below.heap_setCell _ _ _ _ (fun e => hne e.symm))).trans h

theorem below_three (w : World) (o0 o1 o2 o3 : Obj) : Below w.heap.size w ((((w.alloc o0).alloc o1).alloc o2).alloc o3) := ((((Below.refl _ w).alloc (Nat.le_refl _) _).alloc (by simp) _).alloc (by simp; omega) _).alloc (by simp; omega) _

set_option maxRecDepth 100000 in
set_option maxHeartbeats 4000000 in
theorem pvalid_any (s : ByteArray) (hs : s.size ≤ 100000) (w : World) : Calls Tryd.prog 26 #[.string s] w fun e w' => e = .returned (.bool (decide (ValidP s.data.toList))) ∧ Below w.heap.size w w' := by
  obtain ⟨R, hR⟩ : ∃ R, R = decide (ValidP s.data.toList) := ⟨_, rfl⟩
  have HR : Hid (R = decide (ValidP s.data.toList)) := Lib.hid hR
  rw [← hR]
  clear hR
  have HS : Hid (s.data.toList.length = s.size) := Lib.hid (Lib.size_eq s).symm
  have hmx : s.size ≤ 9223372036854775807 := by omega
  refine (callsIn_wide (n := 2)).1 ?_
  refine callsIn_of_wp_marks Tryd.func26 rfl trivial ?_ rfl
  simp only [Tryd.ntmps26, List.size_toArray, List.length_cons, List.length_nil, Nat.reduceAdd, Nat.reduceSub, Array.replicate_succ, Array.replicate_zero, List.push_toArray, List.append_toArray, List.nil_append, List.cons_append]
  by_cases h80 : s.size ≤ 80
  · have e80 : ¬ (80 : Int) < (s.size : Int) := by omega
    have HSp := Lib.hid (splitSeq_any s (w.alloc (.cells #[.bool false] 4)))
    gi_wp2_with fail
    refine ⟨trivial, (callsIn_wide.2 HSp.out).mono ?_⟩
    rintro e W0 ⟨rfl, hW0⟩
    have hsz0 : W0.heap.size = w.heap.size + 4 := by rw [hW0]; simp
    have hB0 : Below w.heap.size w W0 := by rw [hW0]; exact below_three w _ _ _ _
    have hc0 : W0.cell? ⟨w.heap.size, 0, none⟩ = some (.bool false) ∧ W0.frozen? ⟨w.heap.size, 0, none⟩ = false := by
      have : W0.heap[w.heap.size]? = some (.cells #[.bool false] 4 (0, 0)) := by
        rw [hW0]
        exact (Lib.alloc_old _ _ _ (by simp <;> omega)).trans ((Lib.alloc_old _ _ _ (by simp <;> omega)).trans ((Lib.alloc_old _ _ _ (by simp)).trans (heap_alloc_new w _)))
      exact ⟨by simpa using Lib.cell_of_heap this 0, Lib.frozen_of_heap this 0⟩
    have hA0 : SeqAt (w.heap.size + 1) s W0 := by
      rw [hW0]
      refine ⟨?_, ?_, ?_⟩
      · refine (Lib.alloc_old _ _ _ (by simp <;> omega)).trans ((Lib.alloc_old _ _ _ (by simp)).trans ?_)
        have := heap_alloc_new (w.alloc (.cells #[.bool false] 4)) (.cells #[.string s] 9)
        simpa using this
      · refine (Lib.alloc_old _ _ _ (by simp)).trans ?_
        have := heap_alloc_new ((w.alloc (.cells #[.bool false] 4)).alloc (.cells #[.string s] 9)) (.cells #[.string ⟨#[47]⟩] 9)
        simpa using this
      · have := heap_alloc_new (((w.alloc (.cells #[.bool false] 4)).alloc (.cells #[.string s] 9)).alloc (.cells #[.string ⟨#[47]⟩] 9)) (.cells #[.int .i64 0] 3)
        simpa using this
    have hcs := split_self s (by omega) (w.heap.size + 1) W0 hA0
    rw [World.size_alloc]
    replace hW0 := Lib.hid hW0
    replace hA0 := Lib.hid hA0
    replace hsz0 := Lib.hid hsz0
    gi_wp2_with fail
    refine wp_rangeFunc_self (gf := 87) rfl (enters_of Tryd.func87 (by kernel_rfl) rfl) (by rw [hsz0.out]; omega) hcs (fun _ => rfl)
      (fun pre W => ((∀ x ∈ pre, PartOk x.data.toList) ∧ W.cell? ⟨w.heap.size, 0, none⟩ = some (.bool false) ∧ W.frozen? ⟨w.heap.size, 0, none⟩ = false) ∧ Below w.heap.size w W)
      (fun c pre W => (c = .ret ∧ (∃ x ∈ pre, ¬ PartOk x.data.toList) ∧ W.cell? ⟨w.heap.size, 0, none⟩ = some (.bool false)) ∧ Below w.heap.size w W)
      (OwnFrom.and (Own.from (fun s A B row hs hg hr => ⟨hs.1, cell_kept hs.2.1 hg hr, (frozen_kept hs.2.1 hg hr).trans hs.2.2⟩) _) (ownFrom_below (Nat.le_refl _) (by rw [hsz0.out]; omega)))
      (fun c => OwnFrom.and (Own.from (fun s A B row hs hg hr => ⟨hs.1, hs.2.1, cell_kept hs.2.2 hg hr⟩) _) (ownFrom_below (Nat.le_refl _) (by rw [hsz0.out]; omega)))
      (fun pre A u h => ⟨⟨h.1.1, keep_set h.1.2.1 (by simp), by rw [World.frozen?_setCell]; exact h.1.2.2⟩, h.2.setCell (by simp) _⟩)
      ⟨⟨by simp, hc0.1, hc0.2⟩, hB0⟩
      (fun x => { tmps := #[.string s, undef, .pointer (some ⟨w.heap.size, 0, none⟩), .string x, .string s, .int .i64 s.size, .bool false, .string s, .func (.func 87) #[] #[.pointer (some ⟨w.heap.size + 1 + 1, 0, none⟩), .pointer (some ⟨w.heap.size + 1, 0, none⟩), .pointer (some ⟨w.heap.size + 1 + 2, 0, none⟩)], .string x, undef, undef, undef], defers := [] }) ?assign ?body ?done ?stop
    case assign =>
      intro l x W K hK
      gi_wp2
      exact hK
    case body =>
      rintro l pre x W ⟨⟨hp, hcr, hfr⟩, hB⟩ hpre hlt
      have hxm : x ∈ bsl (partsL s.data.toList) := hpre.subset (by simp)
      have hxp := bsl_mem hxm
      have hxs : x.size ≤ 1000000 := by have := partsL_len _ _ hxp; rw [← Lib.size_eq, HS.out] at this; omega
      have HP := part_any x hxs W
      obtain ⟨b, hbb⟩ : ∃ b, b = decide (PartOk x.data.toList) := ⟨_, rfl⟩
      rw [← hbb] at HP
      replace HP := Lib.hid HP
      replace hp := Lib.hid hp
      replace hpre := Lib.hid hpre
      replace hcs := Lib.hid hcs
      cases b with
      | true =>
        have hx : PartOk x.data.toList := of_decide_eq_true hbb.symm
        clear hbb
        gi_wp2_with fail
        refine ⟨trivial, (CallsIn.inRound l (callsIn_wide.2 HP.out)).mono ?_⟩
        rintro e w' ⟨rfl, hw'⟩
        replace hw' := hw'.symm
        subst hw'
        gi_wp2
        exact ⟨KeepsOthers.refl _, Kept3.refl _ _, ⟨fun y hy => (List.mem_append.1 hy).elim (hp.out y) (fun e => by simp at e; subst e; exact hx), hcr, hfr⟩, hB⟩
      | false =>
        have hx : ¬ PartOk x.data.toList := of_decide_eq_false hbb.symm
        clear hbb
        gi_wp2_with fail
        refine ⟨trivial, (CallsIn.inRound l (callsIn_wide.2 HP.out)).mono ?_⟩
        rintro e w' ⟨rfl, hw'⟩
        replace hw' := hw'.symm
        subst hw'
        gi_wp2
        exact ⟨KeepsOthers.setCell _ _ _, ⟨rfl, ⟨x, by simp, hx⟩, World.cell?_setCell_same' _ _ _ (by rw [hcr]; rfl)⟩, hB.setCell (by simp) _⟩
    case done =>
      rintro D W hD ⟨⟨hne, hcr, hfr⟩, hB⟩ hK
      have hR1 : R = true := by
        rw [HR.out, decide_eq_true_eq]
        refine ⟨by rw [HS.out]; exact h80, ?_⟩
        intro q hq
        obtain ⟨x, hx, rfl⟩ := bsl_mk hq
        exact hne x hx
      replace hne := Lib.hid hne
      replace hcs := Lib.hid hcs
      gi_wp2
      have hK' := (KeepsOthers.setCell W ⟨w.heap.size, 0, none⟩ (.bool true)).same D _ hK rfl
      refine ⟨by simp, .inl ⟨_, _, rfl, run_takeDeferred hK', ?_⟩⟩
      have hc5 := cell_kept (World.cell?_setCell_same' W ⟨w.heap.size, 0, none⟩ (.bool true) (by rw [hcr]; rfl)) (grownBy_putObj' _ D (.deferred none)) (fun r e => by cases e; exact ⟨_, hK', rfl⟩)
      refine ⟨.bool true, ?_, by rw [hR1], (hB.setCell (p := ⟨w.heap.size, 0, none⟩) (by simp) _).trans (belowK_b (w := w) (Nat.le_refl _) _ D _ _ (by rw [hsz0.out] at hD; omega) hK' rfl rfl)⟩
      simp [results, Tryd.f26, go_sem, hc5]
    case stop =>
      rintro D c pre W hD hpre ⟨⟨rfl, hin, hcr⟩, hB⟩ hK
      have hR1 : R = false := by
        rw [HR.out, decide_eq_false_iff_not]
        intro h
        obtain ⟨x, hx, hnx⟩ := hin
        exact hnx (h.2 _ (bsl_mem (hpre.subset hx)))
      replace hcs := Lib.hid hcs
      replace hpre := Lib.hid hpre
      gi_wp2
      refine ⟨by simp, .inl ⟨_, _, rfl, run_takeDeferred hK, ?_⟩⟩
      have hc5 := cell_kept hcr (grownBy_putObj' _ D (.deferred none)) (fun r e => by cases e; exact ⟨_, hK, rfl⟩)
      refine ⟨.bool false, ?_, by rw [hR1], hB.trans (belowK_b (w := w) (Nat.le_refl _) W D _ _ (by rw [hsz0.out] at hD; omega) hK rfl rfl)⟩
      simp [results, Tryd.f26, go_sem, hc5]
  · have e80 : (80 : Int) < (s.size : Int) := by omega
    gi_wp2_with fail
    have hR0 : R = false := by
      rw [HR.out, decide_eq_false_iff_not]
      intro h
      have := h.1
      rw [HS.out] at this
      omega
    refine ⟨.bool false, ?_, by rw [hR0], (Below.refl _ w).alloc (Nat.le_refl _) _⟩
    have hc5 : (w.alloc (.cells #[.bool false] 4)).cell? ⟨w.heap.size, 0, none⟩ = some (.bool false) := by exact cell_new w [.bool false] 4 (j := 0) rfl
    simp [results, Tryd.f26, go_sem, hc5]
end Go.Proofs.YtekbilieddficaaDoor
