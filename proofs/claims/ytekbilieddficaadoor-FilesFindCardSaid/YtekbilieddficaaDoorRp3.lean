/- Ropes: turn. -/
import Derived.Test.YtekbilieddficaaDoorRp2
import Derived.Deep.QuietTactic
import Derived.Deep.RegionHeld3
namespace Go.Proofs.YtekbilieddficaaDoor
open Go.RowKit
set_option linter.unusedVariables false

theorem drewN_kept (w : World) (n : Nat) : Below w.heap.size w (w.drewN n) := by
  induction n with
  | zero => exact Below.refl _ _
  | succ n ih => exact ih.drew

/-- what a call of Depth asks, in whatever draw -/
theorem depth_q {B g : Nat} {t : RT} (w : World) (h : RAt w B t g) (ht : t.Nice) (n : Nat) : Calls Tryd.prog 80 #[.pointer (some ⟨g, 0, none⟩)] (w.drewN n) fun e w' => e = .returned (.int .i64 t.high) ∧ w' = w.drewN n :=
  depth_any (B := B) (o := some t) _ ⟨.inl ht, g, rfl, h.below (drewN_kept w n)⟩

/-- what a call of node asks -/
theorem node_in {B ga gb : Nat} {a b : RT} (w W : World) (hB : B ≤ w.heap.size) (ha : RAt w B a ga) (hb : RAt w B b gb) (na : a.Nice) (nb : b.Nice) (hl : a.text.length + b.text.length ≤ 1000000) (hk : Below w.heap.size w W) :
    Calls Tryd.prog 75 #[.pointer (some ⟨ga, 0, none⟩), .pointer (some ⟨gb, 0, none⟩)] W fun e w' => RNPost B (a.text ++ b.text) e w' ∧ Below W.heap.size W w' :=
  node_any W (Nat.le_trans hB hk.size) (ha.below hk) (hb.below hk) na nb hl

set_option maxRecDepth 100000 in
set_option maxHeartbeats 4000000 in
theorem turn_left1 {B g ga gc gb : Nat} {a c b : RT} (w : World) (hB : B ≤ w.heap.size) (hr : RAt w B (.node a c) g) (hb : RAt w B b gb) (nr : (RT.node a c).Nice) (nb : b.Nice) (hl : (a.text ++ c.text).length + b.text.length ≤ 1000000)
    (hd : b.high + 1 < (RT.node a c).high) (hac : c.high ≤ a.high) :
    Calls Tryd.prog 81 #[.pointer (some ⟨g, 0, none⟩), .pointer (some ⟨gb, 0, none⟩)] w fun e w' => RNPost B (a.text ++ c.text ++ b.text) e w' ∧ Below w.heap.size w w' := by
  have D1 := depth_q w hr nr
  have D2 := depth_q w hb nb
  obtain ⟨_, ga, gc, d, ll, hga, hgc, _, e, ha, hc⟩ := hr
  have D3 := depth_q w ha nr.1
  have D4 := depth_q w hc nr.2
  obtain ⟨_, c1, c2, _⟩ := rope9 e
  obtain ⟨h0, hh0⟩ : ∃ n, n = (RT.node a c).high := ⟨_, rfl⟩
  obtain ⟨h1, hh1⟩ : ∃ n, n = a.high := ⟨_, rfl⟩
  obtain ⟨h2, hh2⟩ : ∃ n, n = c.high := ⟨_, rfl⟩
  obtain ⟨h3, hh3⟩ : ∃ n, n = b.high := ⟨_, rfl⟩
  rw [← hh0] at D1 hd
  rw [← hh1] at D3 hac
  rw [← hh2] at D4 hac
  rw [← hh3] at D2 hd
  have z0 := RT.high_le nr
  rw [← hh0] at z0
  simp only [RT.text] at z0
  have z3 := RT.high_le nb
  rw [← hh3] at z3
  have f1 : (h3 : Int) + 1 < (h0 : Int) := by omega
  have f2 : (h2 : Int) ≤ (h1 : Int) := by omega
  have f3 : (h3 : Int) ≤ 1000000 := by omega
  have k1 : decide (h3 + 1 < h0) = true := by simpa using hd
  have k2 : decide (h2 ≤ h1) = true := by simpa using hac
  have k3 : IntKind.i64.wrap ((h3 : Int) + 1) = (h3 : Int) + 1 := IntWalk.i64_in _ (by omega)
  replace D1 := Lib.hid D1
  replace D2 := Lib.hid D2
  replace D3 := Lib.hid D3
  replace D4 := Lib.hid D4
  replace hh0 := Lib.hid hh0
  replace hh1 := Lib.hid hh1
  replace hh2 := Lib.hid hh2
  replace hh3 := Lib.hid hh3
  go_enter Tryd.func81, Tryd.ntmps81
  go_wp2_with fail
  go_quiet ((go_at_call 80; first | with_reducible exact Calls.quiet_of_same (D1.out _) | with_reducible exact Calls.quiet_of_same (D2.out _) | with_reducible exact Calls.quiet_of_same (D3.out _) | with_reducible exact Calls.quiet_of_same (D4.out _)))
  have HF : Hid (∀ x, Below w.heap.size w x → x.cell? ⟨g, 1, none⟩ = some (.pointer (some ⟨ga, 0, none⟩)) ∧ x.cell? ⟨g, 2, none⟩ = some (.pointer (some ⟨gc, 0, none⟩))) := Lib.hid (fun x hx => ⟨kept_cell hx c1, kept_cell hx c2⟩)
  have hN1 : Below w.heap.size w (w.drewN nq) := drewN_kept w nq
  go_wp2_with fail
  generalize w.drewN nq = W0 at hN1 ⊢
  have hN2 : Below w.heap.size w W0.drew := hN1.drew
  have y0 := HF.out _ hN1
  have y1 := HF.out _ hN2
  rw [List.length_append] at hl
  have N1 := Lib.hid (fun W hk => node_in w W hB hc hb nr.2 nb (by omega) hk)
  have N2 : Hid (∀ w1 gx tx W, Below w.heap.size w w1 → RAt w1 B tx gx → tx.Nice → tx.text = c.text ++ b.text → Below w1.heap.size w1 W → Calls Tryd.prog 75 #[.pointer (some ⟨ga, 0, none⟩), .pointer (some ⟨gx, 0, none⟩)] W fun e w' => RNPost B (a.text ++ c.text ++ b.text) e w' ∧ Below W.heap.size W w') := Lib.hid (by
    intro w1 gx tx W h1 h2 h3 h4 h5
    have := node_in w1 W (Nat.le_trans hB h1.size) (ha.below h1) h2 nr.1 h3 (by rw [h4, List.length_append]; omega) h5
    rw [h4, ← List.append_assoc] at this
    exact this)
  clear D1 D2 D3 D4 c1 c2
  go_region_held3 (fun x : World => x.cell? ⟨g, 1, none⟩ = some (.pointer (some ⟨ga, 0, none⟩)) ∧ x.cell? ⟨g, 2, none⟩ = some (.pointer (some ⟨gc, 0, none⟩))) (first | with_reducible exact y0 | with_reducible exact y1 | with_reducible exact y2 | with_reducible exact y3) (first
    | (go_at_call 75; (with_reducible refine (N1.out _ hN2).mono ?_); rintro e w1 ⟨⟨gx, tx, rfl, hx, hnx, htx⟩, bx⟩; have hb1 : Below w.heap.size w w1 := hN2.trans (bx.mono hN2.size); have y2 := HF.out _ hb1)
    | (go_at_call 75; (with_reducible refine (N2.out w1 gx tx _ hb1 hx hnx htx (Below.refl _ _)).mono ?_); rintro e w2 ⟨⟨gy, ty, rfl, hy, hny, hty⟩, bz⟩; have hb2 : Below w.heap.size w w2 := hb1.trans (bz.mono hb1.size); have y3 := HF.out _ hb2))
  all_goals
    go_wp2
    go_ret
    exact ⟨⟨gy, ty, rfl, hy, hny, hty⟩, hb2⟩

theorem depth_in {B g : Nat} {t : RT} (w : World) (h : RAt w B t g) (ht : t.Nice) (W : World) (hk : Below w.heap.size w W) : Calls Tryd.prog 80 #[.pointer (some ⟨g, 0, none⟩)] W fun e w' => e = .returned (.int .i64 t.high) ∧ w' = W :=
  depth_any (B := B) (o := some t) _ ⟨.inl ht, g, rfl, h.below hk⟩

theorem kept_draws {w W : World} (h : Below w.heap.size w W) (n : Nat) : Below w.heap.size w (W.drewN n) := h.trans ((drewN_kept W n).mono h.size)

set_option maxRecDepth 100000 in
set_option maxHeartbeats 4000000 in
theorem turn_left2 {B g gb : Nat} {a c1 c2 b : RT} (w : World) (hB : B ≤ w.heap.size) (hr : RAt w B (.node a (.node c1 c2)) g) (hb : RAt w B b gb) (nr : (RT.node a (.node c1 c2)).Nice) (nb : b.Nice) (hl : (a.text ++ (c1.text ++ c2.text)).length + b.text.length ≤ 1000000)
    (hd : b.high + 1 < (RT.node a (.node c1 c2)).high) (hac : a.high < (RT.node c1 c2).high) :
    Calls Tryd.prog 81 #[.pointer (some ⟨g, 0, none⟩), .pointer (some ⟨gb, 0, none⟩)] w fun e w' => RNPost B (a.text ++ (c1.text ++ c2.text) ++ b.text) e w' ∧ Below w.heap.size w w' := by
  have D1 := depth_in w hr nr
  have D2 := depth_in w hb nb
  obtain ⟨_, ga, gc, d, ll, hga, hgc, _, e, ha, hc⟩ := hr
  have D3 := depth_in w ha nr.1
  have D4 := depth_in w hc nr.2
  obtain ⟨_, q1, q2, _⟩ := rope9 e
  obtain ⟨_, gx1, gx2, d', ll', hgx1, hgx2, _, e', hc1, hc2⟩ := hc
  obtain ⟨_, q3, q4, _⟩ := rope9 e'
  obtain ⟨h0, hh0⟩ : ∃ n, n = (RT.node a (.node c1 c2)).high := ⟨_, rfl⟩
  obtain ⟨h1, hh1⟩ : ∃ n, n = a.high := ⟨_, rfl⟩
  obtain ⟨h2, hh2⟩ : ∃ n, n = (RT.node c1 c2).high := ⟨_, rfl⟩
  obtain ⟨h3, hh3⟩ : ∃ n, n = b.high := ⟨_, rfl⟩
  rw [← hh0] at D1 hd
  rw [← hh1] at D3 hac
  rw [← hh2] at D4 hac
  rw [← hh3] at D2 hd
  have z0 := RT.high_le nr
  rw [← hh0] at z0
  simp only [RT.text] at z0
  have z3 := RT.high_le nb
  rw [← hh3] at z3
  have f1 : (h3 : Int) + 1 < (h0 : Int) := by omega
  have f2 : ¬ (h2 : Int) ≤ (h1 : Int) := by omega
  have f3 : (h3 : Int) ≤ 1000000 := by omega
  have k1 : decide (h3 + 1 < h0) = true := by simpa using hd
  have k2 : decide (h2 ≤ h1) = false := by simpa using hac
  have k3 : IntKind.i64.wrap ((h3 : Int) + 1) = (h3 : Int) + 1 := IntWalk.i64_in _ (by omega)
  replace D1 := Lib.hid D1
  replace D2 := Lib.hid D2
  replace D3 := Lib.hid D3
  replace D4 := Lib.hid D4
  replace hh0 := Lib.hid hh0
  replace hh1 := Lib.hid hh1
  replace hh2 := Lib.hid hh2
  replace hh3 := Lib.hid hh3
  rw [List.length_append, List.length_append] at hl
  have NX := Lib.hid (fun W hk => node_in w W hB ha hc1 nr.1 nr.2.1 (by omega) hk)
  have NY := Lib.hid (fun W hk => node_in w W hB hc2 hb nr.2.2 nb (by omega) hk)
  have NZ : Hid (∀ W gx tx gy ty, Below w.heap.size w W → RAt W B tx gx → tx.Nice → tx.text = a.text ++ c1.text → RAt W B ty gy → ty.Nice → ty.text = c2.text ++ b.text → Calls Tryd.prog 75 #[.pointer (some ⟨gx, 0, none⟩), .pointer (some ⟨gy, 0, none⟩)] W fun e w' => RNPost B (a.text ++ (c1.text ++ c2.text) ++ b.text) e w' ∧ Below W.heap.size W w') := Lib.hid (by
    intro W gx tx gy ty p1 p2 p3 p4 p5 p6 p7
    have := node_in W W (Nat.le_trans hB p1.size) p2 p5 p3 p6 (by rw [p4, p7, List.length_append, List.length_append]; omega) (Below.refl _ _)
    rw [p4, p7] at this
    rw [show a.text ++ (c1.text ++ c2.text) ++ b.text = a.text ++ c1.text ++ (c2.text ++ b.text) by simp]
    exact this)
  have HF : Hid (∀ x, Below w.heap.size w x → x.cell? ⟨g, 1, none⟩ = some (.pointer (some ⟨ga, 0, none⟩)) ∧ x.cell? ⟨g, 2, none⟩ = some (.pointer (some ⟨gc, 0, none⟩)) ∧ x.cell? ⟨gc, 1, none⟩ = some (.pointer (some ⟨gx1, 0, none⟩)) ∧ x.cell? ⟨gc, 2, none⟩ = some (.pointer (some ⟨gx2, 0, none⟩))) := Lib.hid (fun x hx => ⟨kept_cell hx q1, kept_cell hx q2, kept_cell hx q3, kept_cell hx q4⟩)
  clear q3 q4
  go_enter Tryd.func81, Tryd.ntmps81
  go_wp2_with fail
  go_quiet ((go_at_call 80; first | with_reducible exact Calls.quiet_of_same (D1.out _ (drewN_kept w _)) | with_reducible exact Calls.quiet_of_same (D2.out _ (drewN_kept w _)) | with_reducible exact Calls.quiet_of_same (D3.out _ (drewN_kept w _)) | with_reducible exact Calls.quiet_of_same (D4.out _ (drewN_kept w _))))
  have hN1 : Below w.heap.size w (w.drewN nq) := drewN_kept w nq
  clear q1 q2
  go_wp2_with fail
  generalize w.drewN nq = W0 at hN1 ⊢
  refine (D1.out _ hN1).mono ?_
  rintro e w' ⟨rfl, hw'⟩
  replace hw' := hw'.symm
  subst hw'
  go_wp2_with fail
  refine (D2.out _ hN1).mono ?_
  rintro e w' ⟨rfl, hw'⟩
  replace hw' := hw'.symm
  subst hw'
  go_wp2_with fail
  have hN2 : Below w.heap.size w W0.drew := hN1.drew
  have y0 := HF.out _ hN1
  have y1 := HF.out _ hN2
  clear D1 D2 D3 D4
  go_region_held3 (fun x : World => x.cell? ⟨g, 1, none⟩ = some (.pointer (some ⟨ga, 0, none⟩)) ∧ x.cell? ⟨g, 2, none⟩ = some (.pointer (some ⟨gc, 0, none⟩)) ∧ x.cell? ⟨gc, 1, none⟩ = some (.pointer (some ⟨gx1, 0, none⟩)) ∧ x.cell? ⟨gc, 2, none⟩ = some (.pointer (some ⟨gx2, 0, none⟩))) (first | with_reducible exact y0 | with_reducible exact y1 | with_reducible exact y2 | with_reducible exact y3 | with_reducible exact y4) (first
    | (go_at_call 75; (with_reducible refine (NZ.out _ gx tx gy ty hb2 hx2 hnx htx hy2 hny hty).mono ?_); rintro e w3 ⟨⟨gz, tz, rfl, hz, hnz, htz⟩, bz⟩; have hb3 : Below w.heap.size w w3 := hb2.trans (bz.mono hb2.size); have y4 := HF.out _ hb3)
    | (go_at_call 75; (with_reducible refine (NX.out _ hb1).mono ?_); rintro e w2 ⟨⟨gx, tx, rfl, hx, hnx, htx⟩, bx⟩; have hb2 : Below w.heap.size w w2 := hb1.trans (bx.mono hb1.size); have hx2 := hx; have hy2 := hy.below bx; have y3 := HF.out _ hb2)
    | (go_at_call 75; (with_reducible refine (NY.out _ hb1).mono ?_); rintro e w2 ⟨⟨gy, ty, rfl, hy, hny, hty⟩, bx⟩; have hb2 : Below w.heap.size w w2 := hb1.trans (bx.mono hb1.size); have hy2 := hy; have hx2 := hx.below bx; have y3 := HF.out _ hb2)
    | (go_at_call 75; (with_reducible refine (NX.out _ hN2).mono ?_); rintro e w1 ⟨⟨gx, tx, rfl, hx, hnx, htx⟩, bx⟩; have hb1 : Below w.heap.size w w1 := hN2.trans (bx.mono hN2.size); have y2 := HF.out _ hb1)
    | (go_at_call 75; (with_reducible refine (NY.out _ hN2).mono ?_); rintro e w1 ⟨⟨gy, ty, rfl, hy, hny, hty⟩, bx⟩; have hb1 : Below w.heap.size w w1 := hN2.trans (bx.mono hN2.size); have y2 := HF.out _ hb1))
  all_goals
    go_wp2
    go_ret
    exact ⟨⟨gz, tz, rfl, hz, hnz, htz⟩, hb3⟩
end Go.Proofs.YtekbilieddficaaDoor
