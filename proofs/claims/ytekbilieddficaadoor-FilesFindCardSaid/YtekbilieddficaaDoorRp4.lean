/- Ropes: turn, on: the right cases, and neither. -/
import Derived.Test.YtekbilieddficaaDoorRp3
namespace Go.Proofs.YtekbilieddficaaDoor
open Go.RowKit
set_option linter.unusedVariables false

set_option maxRecDepth 100000 in
set_option maxHeartbeats 4000000 in
theorem turn_right1 {B g ga : Nat} {a c d : RT} (w : World) (hB : B ≤ w.heap.size) (ha : RAt w B a ga) (hr : RAt w B (.node c d) g) (na : a.Nice) (nr : (RT.node c d).Nice) (hl : a.text.length + (c.text ++ d.text).length ≤ 1000000)
    (hd : a.high + 1 < (RT.node c d).high) (hcd : c.high ≤ d.high) :
    Calls Tryd.prog 81 #[.pointer (some ⟨ga, 0, none⟩), .pointer (some ⟨g, 0, none⟩)] w fun e w' => RNPost B (a.text ++ (c.text ++ d.text)) e w' ∧ Below w.heap.size w w' := by
  have D1 := depth_in w ha na
  have D2 := depth_in w hr nr
  obtain ⟨_, gc, gd, dd, ll, hgc, hgd, _, e, hc, hdd⟩ := hr
  have D3 := depth_in w hc nr.1
  have D4 := depth_in w hdd nr.2
  obtain ⟨_, q1, q2, _⟩ := rope9 e
  obtain ⟨h0, hh0⟩ : ∃ n, n = a.high := ⟨_, rfl⟩
  obtain ⟨h1, hh1⟩ : ∃ n, n = c.high := ⟨_, rfl⟩
  obtain ⟨h2, hh2⟩ : ∃ n, n = d.high := ⟨_, rfl⟩
  obtain ⟨h3, hh3⟩ : ∃ n, n = (RT.node c d).high := ⟨_, rfl⟩
  rw [← hh0] at D1 hd
  rw [← hh1] at D3 hcd
  rw [← hh2] at D4 hcd
  rw [← hh3] at D2 hd
  have z0 := RT.high_le nr
  rw [← hh3] at z0
  simp only [RT.text] at z0
  have z3 := RT.high_le na
  rw [← hh0] at z3
  have f0 : ¬ (h3 : Int) + 1 < (h0 : Int) := by omega
  have f1 : (h0 : Int) + 1 < (h3 : Int) := by omega
  have f2 : (h1 : Int) ≤ (h2 : Int) := by omega
  have k2 : decide (h1 ≤ h2) = true := by simpa using hcd
  have f3 : (h3 : Int) ≤ 1000000 := by omega
  have f4 : (h0 : Int) ≤ 1000000 := by omega
  have k0 : decide (h3 + 1 < h0) = false := decide_eq_false (by omega)
  have k1 : decide (h0 + 1 < h3) = true := by simpa using hd
  have k0i : decide ((h3 : Int) + 1 < (h0 : Int)) = false := decide_eq_false f0
  have k3 : IntKind.i64.wrap ((h3 : Int) + 1) = (h3 : Int) + 1 := IntWalk.i64_in _ (by omega)
  have k4 : IntKind.i64.wrap ((h0 : Int) + 1) = (h0 : Int) + 1 := IntWalk.i64_in _ (by omega)
  replace D1 := Lib.hid D1
  replace D2 := Lib.hid D2
  replace D3 := Lib.hid D3
  replace D4 := Lib.hid D4
  replace hh0 := Lib.hid hh0
  replace hh1 := Lib.hid hh1
  replace hh2 := Lib.hid hh2
  replace hh3 := Lib.hid hh3
  have HQ : Hid (∀ x, Below w.heap.size w x → x.cell? ⟨g, 1, none⟩ = some (.pointer (some ⟨gc, 0, none⟩)) ∧ x.cell? ⟨g, 2, none⟩ = some (.pointer (some ⟨gd, 0, none⟩))) := Lib.hid (fun x hx => ⟨kept_cell hx q1, kept_cell hx q2⟩)
  rw [List.length_append] at hl
  have N1 := Lib.hid (fun W hk => node_in w W hB ha hc na nr.1 (by omega) hk)
  have N2 : Hid (∀ W gx tx, Below w.heap.size w W → RAt W B tx gx → tx.Nice → tx.text = a.text ++ c.text → Calls Tryd.prog 75 #[.pointer (some ⟨gx, 0, none⟩), .pointer (some ⟨gd, 0, none⟩)] W fun e w' => RNPost B (a.text ++ (c.text ++ d.text)) e w' ∧ Below W.heap.size W w') := Lib.hid (by
    intro W gx tx p1 p2 p3 p4
    have := node_in W W (Nat.le_trans hB p1.size) p2 (hdd.below p1) p3 nr.2 (by rw [p4, List.length_append]; omega) (Below.refl _ _)
    rw [p4, List.append_assoc] at this
    exact this)
  have HF := HQ
  clear q1 q2
  go_enter Tryd.func81, Tryd.ntmps81
  go_wp2_with fail
  go_quiet ((go_at_call 80; first | with_reducible exact Calls.quiet_of_same (D1.out _ (drewN_kept w _)) | with_reducible exact Calls.quiet_of_same (D2.out _ (drewN_kept w _))))
  have hN0 : Below w.heap.size w (w.drewN nq) := drewN_kept w nq
  go_wp2_with fail
  generalize w.drewN nq = Wa at hN0 ⊢
  refine (D1.out _ hN0).mono ?_
  rintro e w' ⟨rfl, hw'⟩
  replace hw' := hw'.symm
  subst hw'
  go_wp2_with fail
  refine (D2.out _ hN0).mono ?_
  rintro e w' ⟨rfl, hw'⟩
  replace hw' := hw'.symm
  subst hw'
  have q0 := HQ.out _ hN0
  go_wp2_with fail
  go_quiet ((go_at_call 80; first | with_reducible exact Calls.quiet_of_same (D1.out _ (kept_draws hN0 _)) | with_reducible exact Calls.quiet_of_same (D2.out _ (kept_draws hN0 _)) | with_reducible exact Calls.quiet_of_same (D3.out _ (kept_draws hN0 _)) | with_reducible exact Calls.quiet_of_same (D4.out _ (kept_draws hN0 _))))
  have hN1 : Below w.heap.size w (Wa.drewN nq) := kept_draws hN0 nq
  clear q0
  go_wp2_with fail
  generalize Wa.drewN nq = W0 at hN1 ⊢
  have hN2 : Below w.heap.size w W0.drew := hN1.drew
  have y0 := HF.out _ hN1
  have y1 := HF.out _ hN2
  clear D1 D2 D3 D4
  go_region_held3 (fun x : World => x.cell? ⟨g, 1, none⟩ = some (.pointer (some ⟨gc, 0, none⟩)) ∧ x.cell? ⟨g, 2, none⟩ = some (.pointer (some ⟨gd, 0, none⟩))) (first | with_reducible exact y0 | with_reducible exact y1 | with_reducible exact y2 | with_reducible exact y3) (first
    | (go_at_call 75; (with_reducible refine (N1.out _ hN2).mono ?_); rintro e w1 ⟨⟨gx, tx, rfl, hx, hnx, htx⟩, bx⟩; have hb1 : Below w.heap.size w w1 := hN2.trans (bx.mono hN2.size); have y2 := HF.out _ hb1)
    | (go_at_call 75; (with_reducible refine (N2.out _ gx tx hb1 hx hnx htx).mono ?_); rintro e w2 ⟨⟨gy, ty, rfl, hy, hny, hty⟩, bz⟩; have hb2 : Below w.heap.size w w2 := hb1.trans (bz.mono hb1.size); have y3 := HF.out _ hb2))
  all_goals
    go_wp2
    go_ret
    exact ⟨⟨gy, ty, rfl, hy, hny, hty⟩, hb2⟩

set_option maxRecDepth 100000 in
set_option maxHeartbeats 4000000 in
theorem turn_right2 {B g ga : Nat} {a c1 c2 d : RT} (w : World) (hB : B ≤ w.heap.size) (ha : RAt w B a ga) (hr : RAt w B (.node (.node c1 c2) d) g) (na : a.Nice) (nr : (RT.node (.node c1 c2) d).Nice) (hl : a.text.length + ((c1.text ++ c2.text) ++ d.text).length ≤ 1000000)
    (hd : a.high + 1 < (RT.node (.node c1 c2) d).high) (hcd : d.high < (RT.node c1 c2).high) :
    Calls Tryd.prog 81 #[.pointer (some ⟨ga, 0, none⟩), .pointer (some ⟨g, 0, none⟩)] w fun e w' => RNPost B (a.text ++ ((c1.text ++ c2.text) ++ d.text)) e w' ∧ Below w.heap.size w w' := by
  have D1 := depth_in w ha na
  have D2 := depth_in w hr nr
  obtain ⟨_, gc, gd, dd, ll, hgc, hgd, _, e, hc, hdd⟩ := hr
  have D3 := depth_in w hc nr.1
  have D4 := depth_in w hdd nr.2
  obtain ⟨_, q1, q2, _⟩ := rope9 e
  obtain ⟨_, gx1, gx2, d', ll', hgx1, hgx2, _, e', hc1, hc2⟩ := hc
  obtain ⟨_, q3, q4, _⟩ := rope9 e'
  obtain ⟨h0, hh0⟩ : ∃ n, n = a.high := ⟨_, rfl⟩
  obtain ⟨h1, hh1⟩ : ∃ n, n = (RT.node c1 c2).high := ⟨_, rfl⟩
  obtain ⟨h2, hh2⟩ : ∃ n, n = d.high := ⟨_, rfl⟩
  obtain ⟨h3, hh3⟩ : ∃ n, n = (RT.node (.node c1 c2) d).high := ⟨_, rfl⟩
  rw [← hh0] at D1 hd
  rw [← hh1] at D3 hcd
  rw [← hh2] at D4 hcd
  rw [← hh3] at D2 hd
  have z0 := RT.high_le nr
  rw [← hh3] at z0
  simp only [RT.text] at z0
  have z3 := RT.high_le na
  rw [← hh0] at z3
  have f0 : ¬ (h3 : Int) + 1 < (h0 : Int) := by omega
  have f1 : (h0 : Int) + 1 < (h3 : Int) := by omega
  have f2 : ¬ (h1 : Int) ≤ (h2 : Int) := by omega
  have k2 : decide (h1 ≤ h2) = false := by simpa using hcd
  have f3 : (h3 : Int) ≤ 1000000 := by omega
  have f4 : (h0 : Int) ≤ 1000000 := by omega
  have k0 : decide (h3 + 1 < h0) = false := decide_eq_false (by omega)
  have k1 : decide (h0 + 1 < h3) = true := by simpa using hd
  have k0i : decide ((h3 : Int) + 1 < (h0 : Int)) = false := decide_eq_false f0
  have k3 : IntKind.i64.wrap ((h3 : Int) + 1) = (h3 : Int) + 1 := IntWalk.i64_in _ (by omega)
  have k4 : IntKind.i64.wrap ((h0 : Int) + 1) = (h0 : Int) + 1 := IntWalk.i64_in _ (by omega)
  replace D1 := Lib.hid D1
  replace D2 := Lib.hid D2
  replace D3 := Lib.hid D3
  replace D4 := Lib.hid D4
  replace hh0 := Lib.hid hh0
  replace hh1 := Lib.hid hh1
  replace hh2 := Lib.hid hh2
  replace hh3 := Lib.hid hh3
  have HQ : Hid (∀ x, Below w.heap.size w x → x.cell? ⟨g, 1, none⟩ = some (.pointer (some ⟨gc, 0, none⟩)) ∧ x.cell? ⟨g, 2, none⟩ = some (.pointer (some ⟨gd, 0, none⟩))) := Lib.hid (fun x hx => ⟨kept_cell hx q1, kept_cell hx q2⟩)
  rw [List.length_append, List.length_append] at hl
  have NX := Lib.hid (fun W hk => node_in w W hB ha hc1 na nr.1.1 (by omega) hk)
  have NY := Lib.hid (fun W hk => node_in w W hB hc2 hdd nr.1.2 nr.2 (by omega) hk)
  have NZ : Hid (∀ W gx tx gy ty, Below w.heap.size w W → RAt W B tx gx → tx.Nice → tx.text = a.text ++ c1.text → RAt W B ty gy → ty.Nice → ty.text = c2.text ++ d.text → Calls Tryd.prog 75 #[.pointer (some ⟨gx, 0, none⟩), .pointer (some ⟨gy, 0, none⟩)] W fun e w' => RNPost B (a.text ++ ((c1.text ++ c2.text) ++ d.text)) e w' ∧ Below W.heap.size W w') := Lib.hid (by
    intro W gx tx gy ty p1 p2 p3 p4 p5 p6 p7
    have := node_in W W (Nat.le_trans hB p1.size) p2 p5 p3 p6 (by rw [p4, p7, List.length_append, List.length_append]; omega) (Below.refl _ _)
    rw [p4, p7] at this
    rw [show a.text ++ ((c1.text ++ c2.text) ++ d.text) = a.text ++ c1.text ++ (c2.text ++ d.text) by simp]
    exact this)
  have HF : Hid (∀ x, Below w.heap.size w x → x.cell? ⟨g, 1, none⟩ = some (.pointer (some ⟨gc, 0, none⟩)) ∧ x.cell? ⟨g, 2, none⟩ = some (.pointer (some ⟨gd, 0, none⟩)) ∧ x.cell? ⟨gc, 1, none⟩ = some (.pointer (some ⟨gx1, 0, none⟩)) ∧ x.cell? ⟨gc, 2, none⟩ = some (.pointer (some ⟨gx2, 0, none⟩))) := Lib.hid (fun x hx => ⟨kept_cell hx q1, kept_cell hx q2, kept_cell hx q3, kept_cell hx q4⟩)
  clear q1 q2 q3 q4
  go_enter Tryd.func81, Tryd.ntmps81
  go_wp2_with fail
  go_quiet ((go_at_call 80; first | with_reducible exact Calls.quiet_of_same (D1.out _ (drewN_kept w _)) | with_reducible exact Calls.quiet_of_same (D2.out _ (drewN_kept w _))))
  have hN0 : Below w.heap.size w (w.drewN nq) := drewN_kept w nq
  go_wp2_with fail
  generalize w.drewN nq = Wa at hN0 ⊢
  refine (D1.out _ hN0).mono ?_
  rintro e w' ⟨rfl, hw'⟩
  replace hw' := hw'.symm
  subst hw'
  go_wp2_with fail
  refine (D2.out _ hN0).mono ?_
  rintro e w' ⟨rfl, hw'⟩
  replace hw' := hw'.symm
  subst hw'
  have q0 := HQ.out _ hN0
  go_wp2_with fail
  go_quiet ((go_at_call 80; first | with_reducible exact Calls.quiet_of_same (D1.out _ (kept_draws hN0 _)) | with_reducible exact Calls.quiet_of_same (D2.out _ (kept_draws hN0 _)) | with_reducible exact Calls.quiet_of_same (D3.out _ (kept_draws hN0 _)) | with_reducible exact Calls.quiet_of_same (D4.out _ (kept_draws hN0 _))))
  have hN1 : Below w.heap.size w (Wa.drewN nq) := kept_draws hN0 nq
  clear q0
  go_wp2_with fail
  generalize Wa.drewN nq = W0 at hN1 ⊢
  refine (D2.out _ hN1).mono ?_
  rintro e w' ⟨rfl, hw'⟩
  replace hw' := hw'.symm
  subst hw'
  go_wp2_with fail
  refine (D1.out _ hN1).mono ?_
  rintro e w' ⟨rfl, hw'⟩
  replace hw' := hw'.symm
  subst hw'
  go_wp2_with fail
  have hN2 : Below w.heap.size w W0.drew := hN1.drew
  have y0 := HF.out _ hN1
  have y1 := HF.out _ hN2
  clear D1 D2 D3 D4
  go_region_held3 (fun x : World => x.cell? ⟨g, 1, none⟩ = some (.pointer (some ⟨gc, 0, none⟩)) ∧ x.cell? ⟨g, 2, none⟩ = some (.pointer (some ⟨gd, 0, none⟩)) ∧ x.cell? ⟨gc, 1, none⟩ = some (.pointer (some ⟨gx1, 0, none⟩)) ∧ x.cell? ⟨gc, 2, none⟩ = some (.pointer (some ⟨gx2, 0, none⟩))) (first | with_reducible exact y0 | with_reducible exact y1 | with_reducible exact y2 | with_reducible exact y3 | with_reducible exact y4) (first
    | (go_at_call 75; (with_reducible refine (NZ.out _ gx tx gy ty hb2 hx2 hnx htx hy2 hny hty).mono ?_); rintro e w3 ⟨⟨gz, tz, rfl, hz, hnz, htz⟩, bz⟩; have hb3 : Below w.heap.size w w3 := hb2.trans (bz.mono hb2.size); have y4 := HF.out _ hb3)
    | (go_at_call 75; (with_reducible refine (NX.out _ hb1).mono ?_); rintro e w2 ⟨⟨gx, tx, rfl, hx, hnx, htx⟩, bx⟩; have hb2 : Below w.heap.size w w2 := hb1.trans (bx.mono hb1.size); have hx2 := hx; have hy2 := hy.below bx; have y3 := HF.out _ hb2)
    | (go_at_call 75; (with_reducible refine (NY.out _ hb1).mono ?_); rintro e w2 ⟨⟨gy, ty, rfl, hy, hny, hty⟩, bx⟩; have hb2 : Below w.heap.size w w2 := hb1.trans (bx.mono hb1.size); have hy2 := hy; have hx2 := hx.below bx; have y3 := HF.out _ hb2)
    | (go_at_call 75; (with_reducible refine (NX.out _ hN2).mono ?_); rintro e w1 ⟨⟨gx, tx, rfl, hx, hnx, htx⟩, bx⟩; have hb1 : Below w.heap.size w w1 := hN2.trans (bx.mono hN2.size); have y2 := HF.out _ hb1)
    | (go_at_call 75; (with_reducible refine (NY.out _ hN2).mono ?_); rintro e w1 ⟨⟨gy, ty, rfl, hy, hny, hty⟩, bx⟩; have hb1 : Below w.heap.size w w1 := hN2.trans (bx.mono hN2.size); have y2 := HF.out _ hb1))
  all_goals
    go_wp2
    go_ret
    exact ⟨⟨gz, tz, rfl, hz, hnz, htz⟩, hb3⟩
set_option maxRecDepth 100000 in
set_option maxHeartbeats 4000000 in
theorem turn_mid {B ga gb : Nat} {a b : RT} (w : World) (hB : B ≤ w.heap.size) (ha : RAt w B a ga) (hb : RAt w B b gb) (na : a.Nice) (nb : b.Nice) (hl : a.text.length + b.text.length ≤ 1000000)
    (h1' : ¬ b.high + 1 < a.high) (h2' : ¬ a.high + 1 < b.high) :
    Calls Tryd.prog 81 #[.pointer (some ⟨ga, 0, none⟩), .pointer (some ⟨gb, 0, none⟩)] w fun e w' => RNPost B (a.text ++ b.text) e w' ∧ Below w.heap.size w w' := by
  have D1 := depth_in w ha na
  have D2 := depth_in w hb nb
  have N1 := Lib.hid (fun W hk => node_in w W hB ha hb na nb hl hk)
  obtain ⟨h0, hh0⟩ : ∃ n, n = a.high := ⟨_, rfl⟩
  obtain ⟨h3, hh3⟩ : ∃ n, n = b.high := ⟨_, rfl⟩
  rw [← hh0] at D1 h1' h2'
  rw [← hh3] at D2 h1' h2'
  have z0 := RT.high_le na
  rw [← hh0] at z0
  have z3 := RT.high_le nb
  rw [← hh3] at z3
  have f0 : ¬ (h3 : Int) + 1 < (h0 : Int) := by omega
  have f1 : ¬ (h0 : Int) + 1 < (h3 : Int) := by omega
  have f3 : (h3 : Int) ≤ 1000000 := by omega
  have f4 : (h0 : Int) ≤ 1000000 := by omega
  have k0 : decide (h3 + 1 < h0) = false := decide_eq_false h1'
  have k1 : decide (h0 + 1 < h3) = false := decide_eq_false h2'
  have k1i : decide ((h0 : Int) + 1 < (h3 : Int)) = false := decide_eq_false f1
  have k0i : decide ((h3 : Int) + 1 < (h0 : Int)) = false := decide_eq_false f0
  have k3 : IntKind.i64.wrap ((h3 : Int) + 1) = (h3 : Int) + 1 := IntWalk.i64_in _ (by omega)
  have k4 : IntKind.i64.wrap ((h0 : Int) + 1) = (h0 : Int) + 1 := IntWalk.i64_in _ (by omega)
  have HQ : Hid (∀ x, Below w.heap.size w x → True) := Lib.hid (fun _ _ => trivial)
  replace D1 := Lib.hid D1
  replace D2 := Lib.hid D2
  replace hh0 := Lib.hid hh0
  replace hh3 := Lib.hid hh3
  go_enter Tryd.func81, Tryd.ntmps81
  go_wp2_with fail
  go_quiet ((go_at_call 80; first | with_reducible exact Calls.quiet_of_same (D1.out _ (drewN_kept w _)) | with_reducible exact Calls.quiet_of_same (D2.out _ (drewN_kept w _))))
  have hN0 : Below w.heap.size w (w.drewN nq) := drewN_kept w nq
  go_wp2_with fail
  generalize w.drewN nq = Wa at hN0 ⊢
  refine (D1.out _ hN0).mono ?_
  rintro e w' ⟨rfl, hw'⟩
  replace hw' := hw'.symm
  subst hw'
  go_wp2_with fail
  refine (D2.out _ hN0).mono ?_
  rintro e w' ⟨rfl, hw'⟩
  replace hw' := hw'.symm
  subst hw'
  have q0 := HQ.out _ hN0
  go_wp2_with fail
  go_quiet ((go_at_call 80; first | with_reducible exact Calls.quiet_of_same (D1.out _ (kept_draws hN0 _)) | with_reducible exact Calls.quiet_of_same (D2.out _ (kept_draws hN0 _))))
  have hN1 : Below w.heap.size w (Wa.drewN nq) := kept_draws hN0 nq
  go_wp2_with fail
  generalize Wa.drewN nq = W0 at hN1 ⊢
  refine (D2.out _ hN1).mono ?_
  rintro e w' ⟨rfl, hw'⟩
  replace hw' := hw'.symm
  subst hw'
  go_wp2_with fail
  refine (D1.out _ hN1).mono ?_
  rintro e w' ⟨rfl, hw'⟩
  replace hw' := hw'.symm
  subst hw'
  go_wp2_with fail
  refine (N1.out _ hN1).mono ?_
  rintro e w1 ⟨⟨gx, tx, rfl, hx, hnx, htx⟩, bx⟩
  go_wp2
  go_ret
  exact ⟨⟨gx, tx, rfl, hx, hnx, htx⟩, hN1.trans (bx.mono hN1.size)⟩

/-- turn: two ropes as one -/
theorem turn_any {B ga gb : Nat} {a b : RT} (w : World) (hB : B ≤ w.heap.size) (ha : RAt w B a ga) (hb : RAt w B b gb) (na : a.Nice) (nb : b.Nice) (hl : a.text.length + b.text.length ≤ 1000000) :
    Calls Tryd.prog 81 #[.pointer (some ⟨ga, 0, none⟩), .pointer (some ⟨gb, 0, none⟩)] w fun e w' => RNPost B (a.text ++ b.text) e w' ∧ Below w.heap.size w w' := by
  by_cases h1 : b.high + 1 < a.high
  · have p1 := RT.high_pos nb
    obtain ⟨x, y, rfl⟩ := RT.inner (t := a) (by omega)
    by_cases h2 : y.high ≤ x.high
    · exact turn_left1 w hB ha hb na nb hl h1 h2 (ga := 0) (gc := 0)
    · have p2 := RT.high_pos na.1
      obtain ⟨y1, y2, rfl⟩ := RT.inner (t := y) (by omega)
      exact turn_left2 w hB ha hb na nb hl h1 (by omega)
  · by_cases h2 : a.high + 1 < b.high
    · have p1 := RT.high_pos na
      obtain ⟨x, y, rfl⟩ := RT.inner (t := b) (by omega)
      by_cases h3 : x.high ≤ y.high
      · exact turn_right1 w hB ha hb na nb hl h2 h3
      · have p2 := RT.high_pos nb.2
        obtain ⟨x1, x2, rfl⟩ := RT.inner (t := x) (by omega)
        exact turn_right2 w hB ha hb na nb hl h2 (by omega)
    · exact turn_mid w hB ha hb na nb hl h1 h2

end Go.Proofs.YtekbilieddficaaDoor
