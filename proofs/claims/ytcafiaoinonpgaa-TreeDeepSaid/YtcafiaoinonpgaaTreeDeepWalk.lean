/- TreeDeep: the walk. -/
import Derived.Test.YtcafiaoinonpgaaTree8
namespace Go.Proofs.Ytcafiaoinonpgaa
open Go.RowKit
set_option linter.unusedVariables false

def vUp : Value := .string ⟨#[117, 112]⟩
def sideC : List Value := [.string ⟨#[115, 105, 100, 101]⟩, .string ⟨#[]⟩, .int .i64 0, .int .i64 0, .slice none 0 0]
def upC (txt : ByteArray) (v : Value) : List Value := [.string ⟨#[117, 112]⟩, .string txt, .int .i64 0, .int .i64 1, v]

/-- the two new nodes and their rows -/
def deepW (wr : World) (cx cy : List Value) : World :=
  (((wr.alloc (.cells cx.toArray 40)).alloc (.cells (upC ⟨#[]⟩ (.slice (some ⟨wr.heap.size, 0, none⟩) 1 1)).toArray 40)).alloc (.cells cy.toArray 40)).alloc (.cells (upC ⟨#[]⟩ (.slice (some ⟨wr.heap.size + 2, 0, none⟩) 1 1)).toArray 40)

theorem deepW_below (wr : World) (cx cy : List Value) : Below wr.heap.size wr (deepW wr cx cy) :=
  ((((Below.refl _ wr).alloc (Nat.le_refl _) _).alloc (by simp) _).alloc (by simp; omega) _).alloc (by simp; omega) _

theorem deep_start (wr : World) (cx cy : List Value) (hx : cx.length = 5) (hy : cy.length = 5) :
    Held (deepW wr cx cy) wr.heap.size (wr.heap.size + 1) wr.heap.size (.string ⟨#[117, 112]⟩) (.string ⟨#[]⟩) (.int .i64 0) (.int .i64 1) (.slice (some ⟨wr.heap.size, 0, none⟩) 1 1) [cx] ∧
    Held (deepW wr cx cy) wr.heap.size (wr.heap.size + 3) (wr.heap.size + 2) (.string ⟨#[117, 112]⟩) (.string ⟨#[]⟩) (.int .i64 0) (.int .i64 1) (.slice (some ⟨wr.heap.size + 2, 0, none⟩) 1 1) [cy] := by
  have s1 : (wr.alloc (.cells cx.toArray 40)).heap.size = wr.heap.size + 1 := by simp
  have e0 := heap_alloc_new wr (.cells cx.toArray 40)
  generalize hw1 : wr.alloc (.cells cx.toArray 40) = w1 at *
  have e1 := heap_alloc_new w1 (.cells (upC ⟨#[]⟩ (.slice (some ⟨wr.heap.size, 0, none⟩) 1 1)).toArray 40)
  have o1 := Lib.alloc_old w1 (.cells (upC ⟨#[]⟩ (.slice (some ⟨wr.heap.size, 0, none⟩) 1 1)).toArray 40)
  have s2 : (w1.alloc (.cells (upC ⟨#[]⟩ (.slice (some ⟨wr.heap.size, 0, none⟩) 1 1)).toArray 40)).heap.size = wr.heap.size + 2 := by simp [s1]
  generalize hw2 : w1.alloc (.cells (upC ⟨#[]⟩ (.slice (some ⟨wr.heap.size, 0, none⟩) 1 1)).toArray 40) = w2 at *
  have e2 := heap_alloc_new w2 (.cells cy.toArray 40)
  have o2 := Lib.alloc_old w2 (.cells cy.toArray 40)
  have s3 : (w2.alloc (.cells cy.toArray 40)).heap.size = wr.heap.size + 3 := by simp [s2]
  generalize hw3 : w2.alloc (.cells cy.toArray 40) = w3 at *
  have e3 := heap_alloc_new w3 (.cells (upC ⟨#[]⟩ (.slice (some ⟨wr.heap.size + 2, 0, none⟩) 1 1)).toArray 40)
  have o3 := Lib.alloc_old w3 (.cells (upC ⟨#[]⟩ (.slice (some ⟨wr.heap.size + 2, 0, none⟩) 1 1)).toArray 40)
  have hW : deepW wr cx cy = w3.alloc (.cells (upC ⟨#[]⟩ (.slice (some ⟨wr.heap.size + 2, 0, none⟩) 1 1)).toArray 40) := by
    unfold deepW; rw [hw1, hw2, hw3]
  rw [hW]
  have own : ∀ (w' : World) (g : Nat) (c : List Value), c.length = 5 → wr.heap.size ≤ g → w'.heap[g]? = some (.cells c.toArray 40 (0, 0)) → Own w' wr.heap.size 40 5 (.slice (some ⟨g, 0, none⟩) 1 1) [c] := by
    intro w' g c hc hg h
    refine ⟨⟨by simp [hc], .inr ⟨g, 1, c.toArray, rfl, hg, h, Nat.le_refl _, by decide, by simp [hc], ?_⟩⟩, by simpa using hc⟩
    simp [← hc]
  refine ⟨⟨?_, own _ _ _ hx (Nat.le_refl _) ?_, rfl, by omega, by omega⟩, ⟨?_, own _ _ _ hy (by omega) ?_, rfl, by omega, by omega⟩⟩
  · rw [o3 _ (by omega), o2 _ (by omega), ← s1]; exact e1
  · rw [o3 _ (by omega), o2 _ (by omega), o1 _ (by omega)]; exact e0
  · rw [← s3]; exact e3
  · rw [o3 _ (by omega), ← s2]; exact e2

/-- the new tree -/
theorem deep_rep {wr w5 : World} {H W : Nat} {F : Nat → Prop} (hF : ∀ k, F k ↔ k ≠ H ∧ k ≠ H + 1) (hH : H + 1 < wr.heap.size) {X : T} {cx : List Value} (hr : Rep wr F X cx) (hb : Below wr.heap.size wr w5) {v : Value} {b g : Nat} {a0 a1 a2 a3 : Value} (hv : Own w5 wr.heap.size 40 5 v (cx :: List.replicate W sideC)) (nx ny : List Value) (txt : ByteArray) (hW : W ≤ 5) (hg : v.ownBlock ≠ none) :
    Rep ((w5.setRow H nx.toArray).setRow (H + 1) ny.toArray) F (.mk bUp txt 0 1 (X :: List.replicate W sideT)) (upC txt v) := by
  have hk1 : KeptOn F wr w5 := KeptOn.of_below hb
  have hk2 : KeptOn F w5 ((w5.setRow H nx.toArray).setRow (H + 1) ny.toArray) :=
    (KeptOn.row _ _ _ (by rw [hF]; simp)).trans (KeptOn.row _ _ _ (by rw [hF]; simp)) (by simp)
  obtain ⟨ao, cap, rfl, h1, _, hrow, _⟩ := hv.rown (n := (X :: List.replicate W sideT).length) (by simp)
  have hge : ∀ k, (Value.slice ao (X :: List.replicate W sideT).length cap).ownBlock = some k → wr.heap.size ≤ k := hv.ge
  refine .mk (css := cx :: List.replicate W sideC) (.cons (hr.later (hk1.trans hk2 hb.size)) ?_) (RowF.later (w := w5) ?_ hk2) ⟨h1, by simp; omega⟩
  · refine Reps.of (by simp) fun i t cs h2 h3 => ?_
    have e1 := List.mem_of_getElem? h2
    have e2 := List.mem_of_getElem? h3
    obtain rfl := List.eq_of_mem_replicate e1
    obtain rfl := List.eq_of_mem_replicate e2
    exact Rep.leaf _ _ _ _
  · intro hne
    obtain ⟨b, o, rfl, hat⟩ := hrow hne
    have := hge b rfl
    exact ⟨b, o, rfl, by rw [hF]; omega, hat⟩

theorem ba_at' (s : ByteArray) (k : Nat) (hk : k < s.size) : s.data.toList[k]? = some (s[k]'hk) := by
  have h : k < s.data.toList.length := by rw [← Lib.size_eq]; exact hk
  rw [List.getElem?_eq_getElem h]; rfl

theorem set5 {w : World} {b : Nat} {e : TypeId} {x0 x1 x2 x3 x4 : Value} (h : w.heap[b]? = some (.cells #[x0, x1, x2, x3, x4] e (0, 0))) (v0 v1 v2 v3 v4 : Value) :
    ((((w.setCell ⟨b, 0, none⟩ v0).setCell ⟨b, 1, none⟩ v1).setCell ⟨b, 2, none⟩ v2).setCell ⟨b, 3, none⟩ v3).setCell ⟨b, 4, none⟩ v4 = w.setRow b [v0, v1, v2, v3, v4].toArray := by
  rw [setCell_eq_setRow _ _ _ _ _ _ _ h]
  have h1 := setRow_heap _ _ _ (#[x0, x1, x2, x3, x4].setIfInBounds 0 v0) _ _ h
  rw [setCell_eq_setRow _ _ _ _ _ _ _ h1, setRow_setRow]
  have h2 := setRow_heap _ _ _ ((#[x0, x1, x2, x3, x4].setIfInBounds 0 v0).setIfInBounds 1 v1) _ _ h
  rw [setCell_eq_setRow _ _ _ _ _ _ _ h2, setRow_setRow]
  have h3 := setRow_heap _ _ _ (((#[x0, x1, x2, x3, x4].setIfInBounds 0 v0).setIfInBounds 1 v1).setIfInBounds 2 v2) _ _ h
  rw [setCell_eq_setRow _ _ _ _ _ _ _ h3, setRow_setRow]
  have h4 := setRow_heap _ _ _ ((((#[x0, x1, x2, x3, x4].setIfInBounds 0 v0).setIfInBounds 1 v1).setIfInBounds 2 v2).setIfInBounds 3 v3) _ _ h
  rw [setCell_eq_setRow _ _ _ _ _ _ _ h4, setRow_setRow]
  rfl

theorem deep_end {w wr w6 : World} {H W j : Nat} {F : Nat → Prop} {r : Int} (hF : ∀ k, F k ↔ k ≠ H ∧ k ≠ H + 1) (hH : H + 1 < wr.heap.size) {cx cy : List Value} (hx : Rep wr F (deepX W j) cx) (hy : Rep wr F (deepY W r j) cy) (hb : Below wr.heap.size wr w6) {vp vq : Value} {gp gq : Nat}
    (hp : Own w6 wr.heap.size 40 5 vp (cx :: List.replicate W sideC)) (hq : Own w6 wr.heap.size 40 5 vq (cy :: List.replicate W sideC)) (hp1 : vp.ownBlock = some gp) (hq1 : vq.ownBlock = some gq) {x0 x1 x2 x3 x4 y0 y1 y2 y3 y4 : Value}
    (h0 : w6.heap[H]? = some (.cells #[x0, x1, x2, x3, x4] 40 (0, 0))) (h1 : w6.heap[H + 1]? = some (.cells #[y0, y1, y2, y3, y4] 40 (0, 0))) (hW : W ≤ 5) (hbw : Below H w w6) {txt : ByteArray} (ht : txt = if (j : Int) + 1 = r then ⟨#[121]⟩ else ⟨#[]⟩) (w9 : World)
    (h9 : w9 = (((((((((((w6.setCell ⟨H, 0, none⟩ (.string ⟨#[117, 112]⟩)).setCell ⟨H, 1, none⟩ (.string ⟨#[]⟩)).setCell ⟨H, 2, none⟩ (.int .i64 0)).setCell ⟨H, 3, none⟩ (.int .i64 1)).setCell ⟨H, 4, none⟩ vp).setCell ⟨H + 1, 0, none⟩ (.string ⟨#[117, 112]⟩)).setCell ⟨H + 1, 1, none⟩ (.string txt)).setCell ⟨H + 1, 2, none⟩ (.int .i64 0)).setCell ⟨H + 1, 3, none⟩ (.int .i64 1)).setCell ⟨H + 1, 4, none⟩ vq).drew)) :
    w9.heap[H]? = some (.cells (upC ⟨#[]⟩ vp).toArray 40 (0, 0)) ∧ w9.heap[H + 1]? = some (.cells (upC txt vq).toArray 40 (0, 0)) ∧ Rep w9 F (deepX W (j + 1)) (upC ⟨#[]⟩ vp) ∧ Rep w9 F (deepY W r (j + 1)) (upC txt vq) ∧ Below H w w9 := by
  rw [set5 h0, set5 ((setRow_other _ _ _ _ (by omega)).trans h1)] at h9
  have e0 := setRow_heap _ _ _ (upC ⟨#[]⟩ vp).toArray _ _ h0
  have e1 : (w6.setRow H (upC ⟨#[]⟩ vp).toArray).heap[H + 1]? = _ := (setRow_other _ _ _ _ (by omega)).trans h1
  have e2 := setRow_heap _ _ _ (upC txt vq).toArray _ _ e1
  have hd : KeptOn F ((w6.setRow H (upC ⟨#[]⟩ vp).toArray).setRow (H + 1) (upC txt vq).toArray) w9 := by
    intro k _ _; rw [h9]; rfl
  refine ⟨?_, ?_, ?_, ?_, ?_⟩
  · rw [h9]; exact (setRow_other _ _ _ _ (by omega)).trans e0
  · rw [h9]; exact e2
  · exact (deep_rep (b := 0) (g := 0) (a0 := vp) (a1 := vp) (a2 := vp) (a3 := vp) hF hH hx hb hp _ _ _ hW (by rw [hp1]; simp)).later hd
  · have := (deep_rep (b := 0) (g := 0) (a0 := vp) (a1 := vp) (a2 := vp) (a3 := vp) hF hH hy hb hq (upC ⟨#[]⟩ vp) (upC txt vq) txt hW (by rw [hq1]; simp)).later hd
    subst ht
    exact this
  · rw [h9]
    exact (Below.row (Below.row hbw (Nat.le_refl _) _) (Nat.le_succ _) _).drew

set_option maxHeartbeats 2000000 in
set_option maxRecDepth 100000 in
theorem treeDeep_walk (a0 : Int) (w0 : (Lit.int .i64 a0).wf = true) (a1 : Int) (w1 : (Lit.int .i64 a1).wf = true) (a2 : Int) (w2 : (Lit.int .i64 a2).wf = true) (w : World) :
    Calls Try.prog 7 #[.int .i64 a0, .int .i64 a1, .int .i64 a2] w fun e w' => e = .returned (.bool true) ∧ Below w.heap.size w w' := by
  have hi0 := i64_arg w0
  have hi2 := i64_arg w2
  clear w0 w1 w2
  by_cases hs : (1 ≤ a0 ∧ a0 ≤ 200) ∧ 0 ≤ a1 ∧ a1 ≤ 5
  · obtain ⟨⟨h1, h2⟩, h3, h4⟩ := hs
    obtain ⟨N, rfl⟩ : ∃ N : Nat, a0 = (N : Int) + 1 := ⟨(a0 - 1).toNat, by omega⟩
    obtain ⟨W, rfl⟩ : ∃ W : Nat, a1 = (W : Int) := ⟨a1.toNat, by omega⟩
    have hN : N ≤ 199 := by omega
    have hW : W ≤ 5 := by omega
    clear h1 h2 h3 h4 hi0
    obtain ⟨F, hF⟩ : ∃ F : Nat → Prop, ∀ k, F k ↔ k ≠ w.heap.size ∧ k ≠ w.heap.size + 1 := ⟨fun k => k ≠ w.heap.size ∧ k ≠ w.heap.size + 1, fun _ => Iff.rfl⟩
    obtain ⟨r, hr⟩ : ∃ r, r = rnd a2 ((N : Int) + 1) := ⟨_, rfl⟩
    have HRND := Lib.hid (fun w' => round_any a2 ((N : Int) + 1) (by omega) (by omega) hi2 w')
    rw [← hr] at HRND
    have HRR := Lib.hid (rnd_range a2 ((N : Int) + 1) (by omega))
    rw [← hr] at HRR
    have HF := Lib.hid hF
    clear hr hF
    go_enter Try.func7, Try.ntmps7
    go_wp2_with fail
    go_loopg [9] N (fun q i wr => ∃ (j : Nat) (cx cy : List Value), j ≤ N ∧ q = N - j ∧ i = .int .i64 ((j : Int) + 1) ∧ wr.heap[w.heap.size]? = some (.cells cx.toArray 40 (0, 0)) ∧ wr.heap[w.heap.size + 1]? = some (.cells cy.toArray 40 (0, 0)) ∧ Rep wr F (deepX W j) cx ∧ Rep wr F (deepY W r j) cy ∧ Below w.heap.size w wr)
    case atStart =>
      refine ⟨0, [.string ⟨#[108, 101, 97, 102]⟩, .string ⟨#[120]⟩, .int .i64 0, .int .i64 1, .slice none 0 0], [.string ⟨#[108, 101, 97, 102]⟩, .string ⟨#[120]⟩, .int .i64 0, .int .i64 1, .slice none 0 0], Nat.zero_le _, rfl, rfl, ?_, ?_, Rep.leaf _ _ _ _, Rep.leaf _ _ _ _, two_new w _ _⟩
      · rw [Lib.alloc_old _ _ _ (by simp)]; exact heap_alloc_new w _
      · simpa using heap_alloc_new (w.alloc (.cells #[.string ⟨#[108, 101, 97, 102]⟩, .string ⟨#[120]⟩, .int .i64 0, .int .i64 1, .slice none 0 0] 40)) (.cells #[.string ⟨#[108, 101, 97, 102]⟩, .string ⟨#[120]⟩, .int .i64 0, .int .i64 1, .slice none 0 0] 40)
    case round =>
      obtain ⟨j, cx, cy, hj, rfl, rfl, hh, hh1, hrx, hry, hb⟩ := hrel
      have hH := lt_of_block hh1
      by_cases hlt : j < N
      · have HX := Lib.hid hrx
        have HY := Lib.hid hry
        obtain ⟨k, x, f, o, ao, n, cap, rfl⟩ := hrx.form
        obtain ⟨k', x', f', o', ao', n', cap', rfl⟩ := hry.form
        clear hrx hry
        obtain ⟨c0, c1, c2, c3, c4⟩ := node_cells hh
        have d := fun a b => node_cells (((two_new wr a b).block _ hH).trans hh1)
        have d0 := fun a b => (d a b).1
        have d1 := fun a b => (d a b).2.1
        have d2 := fun a b => (d a b).2.2.1
        have d3 := fun a b => (d a b).2.2.2.1
        have d4 := fun a b => (d a b).2.2.2.2
        clear d
        have hst := deep_start wr [.string k, .string x, .int .i64 f, .int .i64 o, .slice ao n cap] [.string k', .string x', .int .i64 f', .int .i64 o', .slice ao' n' cap'] rfl rfl
        have HST := Lib.hid hst
        clear hst
        go_wp2_with fail
        obtain ⟨cxx, hcx⟩ : ∃ cxx : List Value, cxx = [.string k, .string x, .int .i64 f, .int .i64 o, .slice ao n cap] := ⟨_, rfl⟩
        obtain ⟨cyy, hcy⟩ : ∃ cyy : List Value, cyy = [.string k', .string x', .int .i64 f', .int .i64 o', .slice ao' n' cap'] := ⟨_, rfl⟩
        have HCX := Lib.hid hcx
        have HCY := Lib.hid hcy
        rw [← hcx, ← hcy] at HST
        clear hcx hcy c0 c1 c2 c3 c4 d0 d1 d2 d3 d4
        go_loopg [12] W (fun q i w3 => ∃ (m : Nat) (vp vq : Value) (gp gq : Nat), m ≤ W ∧ q = W - m ∧ i = .int .i64 (m : Int) ∧
          Held w3 wr.heap.size (wr.heap.size + 1) gp (.string ⟨#[117, 112]⟩) (.string ⟨#[]⟩) (.int .i64 0) (.int .i64 1) vp (cxx :: List.replicate m sideC) ∧
          Held w3 wr.heap.size (wr.heap.size + 1 + 1 + 1) gq (.string ⟨#[117, 112]⟩) (.string ⟨#[]⟩) (.int .i64 0) (.int .i64 1) vq (cyy :: List.replicate m sideC) ∧
          (wr.heap.size + 1 ≠ wr.heap.size + 1 + 1 + 1 ∧ gp ≠ gq ∧ gp ≠ wr.heap.size + 1 + 1 + 1 ∧ gq ≠ wr.heap.size + 1) ∧ Below wr.heap.size wr w3)
        case atStart =>
          have hst := HST.out
          refine ⟨0, .slice (some ⟨wr.heap.size, 0, none⟩) 1 1, .slice (some ⟨wr.heap.size + 1 + 1, 0, none⟩) 1 1, wr.heap.size, wr.heap.size + 1 + 1, Nat.zero_le _, rfl, rfl, ?_, ?_, ⟨by omega, by omega, by omega, by omega⟩, deepW_below _ _ _⟩
          · have h := hst.1
            rw [HCX.out, HCY.out] at h
            rw [HCX.out]
            exact h
          · have h := hst.2
            rw [HCX.out, HCY.out] at h
            rw [HCY.out]
            exact h
        case round =>
          rename_i wr0 _ _ _ _
          obtain ⟨m, vp, vq, gp, gq, hm, rfl, rfl, hp, hq, hd, hb3⟩ := hrel
          by_cases hmW : m < W
          · have hpc := (node_cells hp.here).2.2.2.2
            have hnm : (cxx :: List.replicate m sideC).length + 1 ≤ 1000000000 := by simp; omega
            have hnm2 : (cyy :: List.replicate m sideC).length + 1 ≤ 1000000000 := by simp; omega
            go_wp2_with (at_builtin; first
              | (refine wpList_append1L E40 rfl rfl hp.own rfl (news := sideC) rfl rfl rfl (by simp [sideC, Value.oneCell']) hnm (by decide) hb3.size ?_; intro nn g4 cap4 w4 ho4 hg4 hl4; obtain ⟨hc4, hf4, hp4, hq4, hd4, hb4⟩ := hp.step hq hd ho4 hg4 hl4 hb3.size; have hqc := (node_cells hq4.here).2.2.2.2)
              | (go_must (refine wpList_append1L E40 rfl rfl hq4.own rfl (news := sideC) rfl (by simp) rfl (by simp [sideC, Value.oneCell']) hnm2 (by decide) (Nat.le_trans hb3.size hb4.size) ?_); intro nn5 g5 cap5 w5 ho5 hg5 hl5; obtain ⟨hc5, hf5, hq5, hp5, hd5, hb5⟩ := hq4.step hp4 ⟨Ne.symm hd4.1, Ne.symm hd4.2.1, hd4.2.2.2, hd4.2.2.1⟩ ho5 hg5 hl5 (Nat.le_trans hb3.size hb4.size)))
            go_roundg (W - (m + 1))
            case measure => omega
            case rel =>
              refine ⟨m + 1, .slice (some ⟨g4, 0, none⟩) nn cap4, .slice (some ⟨g5, 0, none⟩) nn5 cap5, g4, g5, by omega, rfl, by go_num, ?_, ?_, ⟨Ne.symm hd5.1, Ne.symm hd5.2.1, hd5.2.2.2, hd5.2.2.1⟩, (hb3.trans hb4).trans hb5⟩
              · rw [List.replicate_succ', ← List.cons_append]; exact hp5
              · rw [List.replicate_succ', ← List.cons_append]; exact hq5
          · obtain rfl : m = W := by omega
            clear hmW hm
            go_wp2_with fail
            refine (HRND.out _).mono ?_
            rintro e w6 ⟨rfl, rfl⟩
            obtain ⟨pao, pcap, rfl, _⟩ := hp.own.rown (n := m + 1) (by simp)
            obtain ⟨qao, qcap, rfl, _⟩ := hq.own.rown (n := m + 1) (by simp)
            have HH1 : w6.heap[w.heap.size]? = _ := (hb3.block _ (by omega)).trans hh
            have HH3 : w6.heap[w.heap.size + 1]? = _ := (hb3.block _ hH).trans hh1
            by_cases hrj : (j : Int) + 1 = r
            · obtain ⟨p0, p1, p2, p3, p4⟩ := node_cells hp.here
              obtain ⟨q0, q1, q2, q3, q4⟩ := node_cells hq.here
              obtain ⟨h0, h1, h2, h3, h4⟩ := node_cells HH1
              obtain ⟨g0, g1, g2, g3, g4⟩ := node_cells HH3
              have hf := fun j => Lib.frozen_of_heap HH1 j
              have gf := fun j => Lib.frozen_of_heap HH3 j
              have qf := fun j => Lib.frozen_of_heap hq.here j
              have ne1 : ¬ wr.heap.size + 1 + 1 + 1 = w.heap.size := by omega
              have ne2 : ¬ wr.heap.size + 1 = w.heap.size := by omega
              have ne3 : ¬ wr.heap.size + 1 + 1 + 1 = w.heap.size + 1 := by omega
              have ne4 : ¬ wr.heap.size + 1 + 1 + 1 = wr.heap.size + 1 := by omega
              go_wp2_with fail
              go_region
              go_wp2_with fail
              have oq : Own (w6.setCell ⟨wr.heap.size + 1 + 1 + 1, 1, none⟩ (.string ⟨#[121]⟩)) wr.heap.size 40 5 _ _ := ⟨ownsRow_setCell_other hq.own.1 (by rw [hq.block]; simpa using hq.ne) _, hq.own.2⟩
              have op : Own (w6.setCell ⟨wr.heap.size + 1 + 1 + 1, 1, none⟩ (.string ⟨#[121]⟩)) wr.heap.size 40 5 _ _ := ⟨ownsRow_setCell_other hp.own.1 (by rw [hp.block]; simpa using hd.2.2.1) _, hp.own.2⟩
              have hb3' := hb3.setCell (p := ⟨wr.heap.size + 1 + 1 + 1, 1, none⟩) (by simp; omega) (.string ⟨#[121]⟩)
              have HH1' : (w6.setCell ⟨wr.heap.size + 1 + 1 + 1, 1, none⟩ (.string ⟨#[121]⟩)).heap[w.heap.size]? = _ := (Below.heap_setCell _ _ _ _ (Ne.symm ne1)).trans HH1
              have HH3' : (w6.setCell ⟨wr.heap.size + 1 + 1 + 1, 1, none⟩ (.string ⟨#[121]⟩)).heap[w.heap.size + 1]? = _ := (Below.heap_setCell _ _ _ _ (Ne.symm ne3)).trans HH3
              obtain ⟨r0, r1, r2, r3, r4⟩ := deep_end HF.out hH HX.out HY.out hb3' (HCX.out ▸ op) (HCY.out ▸ oq) hp.block hq.block HH1' HH3' hW (hb.trans (hb3'.mono (by omega))) (txt := ⟨#[121]⟩) (if_pos hrj).symm _ rfl
              go_roundg (N - (j + 1))
              case measure => omega
              case rel => exact ⟨j + 1, _, _, by omega, rfl, by go_num, r0, r1, r2, r3, r4⟩
            · have hrj' : ((j : Int) + 1 == r) = false := by simpa using hrj
              obtain ⟨p0, p1, p2, p3, p4⟩ := node_cells hp.here
              obtain ⟨q0, q1, q2, q3, q4⟩ := node_cells hq.here
              obtain ⟨h0, h1, h2, h3, h4⟩ := node_cells HH1
              obtain ⟨g0, g1, g2, g3, g4⟩ := node_cells HH3
              have hf := fun j => Lib.frozen_of_heap HH1 j
              have gf := fun j => Lib.frozen_of_heap HH3 j
              have ne1 : ¬ wr.heap.size + 1 + 1 + 1 = w.heap.size := by omega
              have ne2 : ¬ wr.heap.size + 1 = w.heap.size := by omega
              have ne3 : ¬ wr.heap.size + 1 + 1 + 1 = w.heap.size + 1 := by omega
              go_wp2_with fail
              go_region
              go_wp2_with fail
              obtain ⟨r0, r1, r2, r3, r4⟩ := deep_end HF.out hH HX.out HY.out hb3 (HCX.out ▸ hp.own) (HCY.out ▸ hq.own) hp.block hq.block HH1 HH3 hW (hb.trans (hb3.mono (by omega))) (txt := ⟨#[]⟩) (if_neg hrj).symm _ rfl
              go_roundg (N - (j + 1))
              case measure => omega
              case rel => exact ⟨j + 1, _, _, by omega, rfl, by go_num, r0, r1, r2, r3, r4⟩
      · obtain rfl : j = N := by omega
        clear hlt
        have HC := Lib.hid (fun w' (h : Below wr.heap.size wr w') => (h.block _ (Nat.lt_of_succ_lt hH)).trans hh)
        have HC1 := Lib.hid (fun w' (h : Below wr.heap.size wr w') => (h.block _ hH).trans hh1)
        have HRX := Lib.hid (fun w' (h : Below wr.heap.size wr w') => hrx.later (KeptOn.of_below h))
        have HRY := Lib.hid (fun w' (h : Below wr.heap.size wr w') => hry.later (KeptOn.of_below h))
        obtain ⟨k, x, f, o, ao, n, cap, rfl⟩ := hrx.form
        obtain ⟨k', x', f', o', ao', n', cap', rfl⟩ := hry.form
        obtain ⟨c0, c1, c2, c3, c4⟩ := node_cells hh
        have HSZ := Lib.hid (deep_size W j)
        have HPR := Lib.hid (T.size_pre (deepX W j))
        have HOUT := Lib.hid (deep_out W j)
        clear hh hh1 hrx hry
        go_wp2_with fail
        refine (tWrite_any (deepX W j) _ _ wr (HRX.out wr (Below.refl _ _)) (by rw [HOUT.out.2]; have : j * (5 + 7 * W) ≤ 199 * 40 := Nat.mul_le_mul hN (by omega); omega)).mono ?_
        rintro e w2 ⟨rfl, hb2⟩
        clear c0 c1 c2 c3 c4
        obtain ⟨s, hs⟩ : ∃ s : ByteArray, s = ⟨(T.out (deepX W j)).toArray⟩ := ⟨_, rfl⟩
        have hs2 : s.data.toList = T.out (deepX W j) := by rw [hs]
        rw [← hs2] at HOUT
        rw [← hs]
        have hsl : s.size = 8 + j * (5 + 7 * W) := by rw [Lib.size_eq]; exact HOUT.out.2
        have hsn : s.size ≤ 1000000 := by rw [hsl]; have : j * (5 + 7 * W) ≤ 199 * 40 := Nat.mul_le_mul hN (by omega); omega
        clear hs hs2 hsl
        go_wp2_with fail
        go_loopg [14, 15] (s.size) (fun q a i w3 => ∃ m : Nat, m ≤ s.size ∧ q = s.size - m ∧ a = .int .i64 ((s.data.toList.take m).count 40 : Nat) ∧ i = .int .i64 m ∧ w3 = w2)
        case atStart => exact ⟨0, Nat.zero_le _, rfl, by simp, rfl, rfl⟩
        case round =>
          obtain ⟨m, hm, rfl, rfl, rfl, rfl⟩ := hrel
          have hcl : (s.data.toList.take m).count 40 ≤ s.size := by
            rw [Lib.size_eq]; exact Nat.le_trans (List.count_le_length) (by rw [List.length_take]; exact Nat.min_le_right _ _)
          by_cases hms : m < s.size
          · have HT : Hid ((s.data.toList.take (m + 1)).count 40 = (s.data.toList.take m).count 40 + if s[m] = 40 then 1 else 0) := Lib.hid (by
              rw [List.take_add_one, ba_at' s m hms, List.count_append]
              simp [List.count_cons])
            obtain ⟨ct, hct⟩ : ∃ ct, ct = (s.data.toList.take m).count 40 := ⟨_, rfl⟩
            rw [← hct] at HT hcl ⊢
            clear hct
            by_cases h40 : s[m] = 40
            · have h40' : ((s[m].toNat : Int) == 40) = true := by rw [h40]; rfl
              rw [if_pos h40] at HT
              clear h40
              go_wp2_with fail
              go_roundg (s.size - (m + 1))
              case measure => omega
              case rel => exact ⟨m + 1, by omega, rfl, by rw [HT.out]; go_num, by go_num, rfl⟩
            · have h40' : ((s[m].toNat : Int) == 40) = false := by
                simp only [beq_eq_false_iff_ne, ne_eq]
                intro h
                exact h40 (u8_of (n := 40) (by decide) (by simpa using h))
              rw [if_neg h40] at HT
              clear h40
              go_wp2_with fail
              go_roundg (s.size - (m + 1))
              case measure => omega
              case rel => exact ⟨m + 1, by omega, rfl, by rw [HT.out]; rfl, by go_num, rfl⟩
          · obtain rfl : m = s.size := by omega
            have hall : (s.data.toList.take s.size).count 40 = (j + 1) + j * W := by rw [Lib.size_eq, List.take_length]; exact HOUT.out.1
            rw [hall]
            obtain ⟨P, hP⟩ : ∃ P : Nat, P = j * W := ⟨_, rfl⟩
            have hP5 : P ≤ 995 := by rw [hP]; exact Nat.mul_le_mul hN hW
            have hPI : (j : Int) * (W : Int) = (P : Int) := by rw [hP]; push_cast; rfl
            have hPJ : ((j : Int) + 1 - 1) * (W : Int) = (P : Int) := by rw [← hPI]; congr 1; omega
            have hct : (((j + 1) + j * W : Nat) : Int) = (j : Int) + 1 + P := by rw [← hP]; push_cast; rfl
            rw [hct]
            have HSZ2 : Hid (((T.size (deepX W j) : Nat) : Int) = (j : Int) + 1 + P) := Lib.hid (by rw [HSZ.out, ← hct])
            have hsz : T.size (deepX W j) ≤ 1000000 := by rw [HSZ.out, ← hP]; omega
            have hpre : (T.pre (deepX W j)).length ≤ 1000000 := by rw [← HPR.out]; exact hsz
            have HS := Lib.hid (deep_same W j r)
            clear hct hall hP hcl hms hm HOUT HPR HSZ
            obtain ⟨c0, c1, c2, c3, c4⟩ := node_cells (HC.out _ hb2)
            by_cases hr0 : r = 0
            · have HSAME : Hid (T.same (deepX W j) (deepY W r j) = true) := Lib.hid (by rw [HS.out, hr0]; simp)
              have hr1 : (r == 0) = true := by rw [hr0]; rfl
              clear hr0
              go_wp2_with fail
              refine (tSize_any (deepX W j) _ _ _ (HRX.out _ hb2) hpre).mono ?_
              rintro e w3 ⟨rfl, hb3⟩
              have hb13 := bstep hb2 hb3 hb2.size
              obtain ⟨c0, c1, c2, c3, c4⟩ := node_cells (HC.out _ hb13)
              rw [HSZ2.out]
              go_wp2_with fail
              refine (tsame_any (deepX W j) (deepX W j) _ _ _ _ (HRX.out _ hb13) (HRX.out _ hb13)).mono ?_
              rintro e w4 ⟨rfl, hb4⟩
              have hb14 := bstep hb13 hb4 hb13.size
              clear c0 c1 c2 c3 c4
              obtain ⟨c0, c1, c2, c3, c4⟩ := node_cells (HC.out _ hb14)
              obtain ⟨d0, d1, d2, d3, d4⟩ := node_cells (HC1.out _ hb14)
              rw [T.same_refl]
              go_wp2_with fail
              refine (tsame_any (deepX W j) (deepY W r j) _ _ _ _ (HRX.out _ hb14) (HRY.out _ hb14)).mono ?_
              rintro e w5 ⟨rfl, hb5⟩
              have hb15 := bstep hb14 hb5 hb14.size
              clear c0 c1 c2 c3 c4 d0 d1 d2 d3 d4
              obtain ⟨c0, c1, c2, c3, c4⟩ := node_cells (HC.out _ hb15)
              rw [HSAME.out]
              go_wp2_with fail
              refine (HRND.out _).mono ?_
              rintro e w6 ⟨rfl, rfl⟩
              go_wp2_with fail
              refine (tAt_any (deepX W j) _ _ _ 0 (HRX.out _ hb15) hsz).mono ?_
              rintro e w7 ⟨v7, l7, rfl, ho7, hway, _, hb7⟩
              have hl7 := deep_way W j l7 (hway (deep_has W j))
              obtain ⟨ao7, cap7, rfl, _, _, _, _⟩ := ho7.rown (n := j + 1) (by simpa using hl7)
              have hb17 := bstep hb15 hb7 hb15.size
              clear c0 c1 c2 c3 c4 hway ho7 hl7
              obtain ⟨c0, c1, c2, c3, c4⟩ := node_cells (HC.out _ hb17)
              go_wp2_with fail
              refine (tLeaves_any (deepX W j) _ _ _ (HRX.out _ hb17) hpre).mono ?_
              rintro e w8 ⟨v8, rfl, ho8, hb8⟩
              rw [deep_leaves] at ho8
              obtain ⟨ao8, cap8, rfl, _, _, hr8, _⟩ := ho8.rown (n := 1) rfl
              have hb18 := bstep hb17 hb8 hb17.size
              clear c0 c1 c2 c3 c4 ho8
              go_wp2_with fail
              refine (Ints_yes [0] 1 rfl _ _ _ _ (by decide) _ (hr8.below ((Below.refl _ _).alloc (Nat.le_refl _) _)) (row_new _ (css := [0].map fun i => [Value.int .i64 i]) (by decide) _ rfl rfl)).mono ?_
              rintro e w9 ⟨rfl, hb9⟩
              have hb19 := bstep (hb18.alloc hb18.size _) hb9 (by have := hb18.size; simp; omega)
              go_wp2_with fail
              refine (tawake_any _).mono ?_
              rintro e w10 ⟨rfl, hb10⟩
              have hb20 := bstep hb19 hb10 hb19.size
              go_wp2
              go_ret
              exact ⟨rfl, hb.trans (hb20.mono hb.size)⟩
            · have HSAME : Hid (T.same (deepX W j) (deepY W r j) = false) := Lib.hid (by rw [HS.out]; have := HRR.out; apply decide_eq_false; intro h; apply h; omega)
              have hr1 : (r == 0) = false := by simpa using hr0
              clear hr0
              go_wp2_with fail
              refine (tSize_any (deepX W j) _ _ _ (HRX.out _ hb2) hpre).mono ?_
              rintro e w3 ⟨rfl, hb3⟩
              have hb13 := bstep hb2 hb3 hb2.size
              obtain ⟨c0, c1, c2, c3, c4⟩ := node_cells (HC.out _ hb13)
              rw [HSZ2.out]
              go_wp2_with fail
              refine (tsame_any (deepX W j) (deepX W j) _ _ _ _ (HRX.out _ hb13) (HRX.out _ hb13)).mono ?_
              rintro e w4 ⟨rfl, hb4⟩
              have hb14 := bstep hb13 hb4 hb13.size
              clear c0 c1 c2 c3 c4
              obtain ⟨c0, c1, c2, c3, c4⟩ := node_cells (HC.out _ hb14)
              obtain ⟨d0, d1, d2, d3, d4⟩ := node_cells (HC1.out _ hb14)
              rw [T.same_refl]
              go_wp2_with fail
              refine (tsame_any (deepX W j) (deepY W r j) _ _ _ _ (HRX.out _ hb14) (HRY.out _ hb14)).mono ?_
              rintro e w5 ⟨rfl, hb5⟩
              have hb15 := bstep hb14 hb5 hb14.size
              clear c0 c1 c2 c3 c4 d0 d1 d2 d3 d4
              obtain ⟨c0, c1, c2, c3, c4⟩ := node_cells (HC.out _ hb15)
              rw [HSAME.out]
              go_wp2_with fail
              refine (HRND.out _).mono ?_
              rintro e w6 ⟨rfl, rfl⟩
              go_wp2_with fail
              refine (tAt_any (deepX W j) _ _ _ 0 (HRX.out _ hb15) hsz).mono ?_
              rintro e w7 ⟨v7, l7, rfl, ho7, hway, _, hb7⟩
              have hl7 := deep_way W j l7 (hway (deep_has W j))
              obtain ⟨ao7, cap7, rfl, _, _, _, _⟩ := ho7.rown (n := j + 1) (by simpa using hl7)
              have hb17 := bstep hb15 hb7 hb15.size
              clear c0 c1 c2 c3 c4 hway ho7 hl7
              obtain ⟨c0, c1, c2, c3, c4⟩ := node_cells (HC.out _ hb17)
              go_wp2_with fail
              refine (tLeaves_any (deepX W j) _ _ _ (HRX.out _ hb17) hpre).mono ?_
              rintro e w8 ⟨v8, rfl, ho8, hb8⟩
              rw [deep_leaves] at ho8
              obtain ⟨ao8, cap8, rfl, _, _, hr8, _⟩ := ho8.rown (n := 1) rfl
              have hb18 := bstep hb17 hb8 hb17.size
              clear c0 c1 c2 c3 c4 ho8
              go_wp2_with fail
              refine (Ints_yes [0] 1 rfl _ _ _ _ (by decide) _ (hr8.below ((Below.refl _ _).alloc (Nat.le_refl _) _)) (row_new _ (css := [0].map fun i => [Value.int .i64 i]) (by decide) _ rfl rfl)).mono ?_
              rintro e w9 ⟨rfl, hb9⟩
              have hb19 := bstep (hb18.alloc hb18.size _) hb9 (by have := hb18.size; simp; omega)
              go_wp2_with fail
              refine (tawake_any _).mono ?_
              rintro e w10 ⟨rfl, hb10⟩
              have hb20 := bstep hb19 hb10 hb19.size
              go_wp2
              go_ret
              exact ⟨rfl, hb.trans (hb20.mono hb.size)⟩
  · go_enter Try.func7, Try.ntmps7
    go_wp2_with (go_at_call 17; refine (tawake_any _).mono ?_; rintro e w' ⟨rfl, hb⟩)
    all_goals (go_ret; exact ⟨rfl, hb⟩)
end Go.Proofs.Ytcafiaoinonpgaa
