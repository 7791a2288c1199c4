/- Ropes: join. -/
import Derived.Test.YtekbilieddficaaDoorRp4
namespace Go.Proofs.YtekbilieddficaaDoor
open Go.RowKit
set_option linter.unusedVariables false

theorem RPPost.nice {B : Nat} {l : List UInt8} {e : Ending} {w : World} (h : RPPost B l e w) (hl : l ≠ []) : RNPost B l e w := by
  obtain ⟨p, o, he, hr, ht⟩ := h
  cases o with
  | none => exact (hl ht.symm).elim
  | some t =>
    obtain ⟨hg, g, rfl, hr⟩ := hr
    exact ⟨g, t, he, hr, hg.nice (by have h2 : t.text = l := ht; rw [h2]; exact hl), ht⟩

theorem RNPost.rp {B : Nat} {l : List UInt8} {e : Ending} {w : World} (h : RNPost B l e w) : RPPost B l e w := by
  obtain ⟨g, t, he, hr, hn, ht⟩ := h
  exact ⟨_, some t, he, ⟨.inl hn, g, rfl, hr⟩, ht⟩

def sizeO : Option RT → Nat
  | none => 0
  | some t => t.size

theorem RAt.first {w : World} {B g : Nat} {t : RT} (h : RAt w B t g) : ∃ pa, w.cell? ⟨g, 1, none⟩ = some (.pointer pa) ∧ ((pa = none ∧ ∃ s, t = .leaf s) ∨ ∃ x, pa = some x) := by
  cases t with
  | leaf s => obtain ⟨_, d, l, _, e⟩ := h; exact ⟨none, (rope9 e).2.1, .inl ⟨rfl, s, rfl⟩⟩
  | node a b => obtain ⟨_, ga, gb, d, l, _, _, _, e, _⟩ := h; exact ⟨_, (rope9 e).2.1, .inr ⟨_, rfl⟩⟩

theorem app_ne_right {y b : RT} (nb : b.Nice) : textO (some y) ++ textO (some b) ≠ [] := by
  intro e
  have h1 : y.text ++ b.text = [] := e
  have h2 := RT.nice_pos nb
  rw [List.append_eq_nil_iff] at h1
  rw [h1.2] at h2
  simp at h2

theorem data_appR (a b : ByteArray) : (a ++ b).data.toList = a.data.toList ++ b.data.toList := by simp [ByteArray.data_append]

set_option maxRecDepth 100000 in
set_option maxHeartbeats 4000000 in
theorem join_any {B : Nat} : ∀ (N : Nat) (o1 o2 : Option RT) (p1 p2 : Option Addr) (w : World), sizeO o1 + sizeO o2 ≤ N → RP w B p1 o1 → RP w B p2 o2 → B ≤ w.heap.size → (textO o1).length + (textO o2).length ≤ 1000000 →
    Calls Tryd.prog 65 #[.pointer p1, .pointer p2] w fun e w' => RPPost B (textO o1 ++ textO o2) e w' ∧ Below w.heap.size w w' := by
  intro N
  induction N with
  | zero =>
    intro o1 o2 p1 p2 w hN r1 r2 hB hl
    cases o1 with
    | some t => cases t <;> simp [sizeO, RT.size] at hN
    | none =>
      cases o2 with
      | some t => cases t <;> simp [sizeO, RT.size] at hN
      | none =>
        have L1 := len_any w r1
        simp only [textO, List.length_nil] at L1
        obtain rfl : p1 = none := r1
        obtain rfl : p2 = none := r2
        replace L1 := Lib.hid L1
        go_enter Tryd.func65, Tryd.ntmps65
        go_wp2_with fail
        refine L1.out.mono ?_
        rintro e w' ⟨rfl, hw'⟩
        replace hw' := hw'.symm
        subst hw'
        go_wp2
        go_ret
        exact ⟨⟨none, none, rfl, rfl, rfl⟩, Below.refl _ _⟩
  | succ N ih =>
    intro o1 o2 p1 p2 w hN r1 r2 hB hl
    have L1 := len_any w r1
    have L2 := len_any w r2
    by_cases h1 : textO o1 = []
    · rw [h1, List.length_nil] at L1
      rw [h1, List.nil_append]
      replace L1 := Lib.hid L1
      replace h1 := Lib.hid h1
      have hfin : Hid (∀ e, e = .returned (.pointer p2) → RPPost B (textO o2) e w) := Lib.hid (fun e he => ⟨p2, o2, he, r2, rfl⟩)
      clear ih hN hl r1 r2 L2
      go_enter Tryd.func65, Tryd.ntmps65
      go_wp2_with fail
      refine L1.out.mono ?_
      rintro e w' ⟨rfl, hw'⟩
      replace hw' := hw'.symm
      subst hw'
      go_wp2
      go_ret
      exact ⟨hfin.out _ rfl, Below.refl _ _⟩
    · have hp1 := List.length_pos_iff.2 h1
      by_cases h2 : textO o2 = []
      · rw [h2, List.length_nil] at L2
        rw [h2, List.append_nil]
        obtain ⟨n1, hn1⟩ : ∃ n, n = (textO o1).length := ⟨_, rfl⟩
        rw [← hn1] at L1 hp1
        have f1 : ((n1 : Int) == 0) = false := by simp; omega
        replace L1 := Lib.hid L1
        replace L2 := Lib.hid L2
        replace hn1 := Lib.hid hn1
        have hfin : Hid (∀ e, e = .returned (.pointer p1) → RPPost B (textO o1) e w) := Lib.hid (fun e he => ⟨p1, o1, he, r1, rfl⟩)
        clear ih hN hl r1 r2 h1 h2
        go_enter Tryd.func65, Tryd.ntmps65
        go_wp2_with fail
        refine L1.out.mono ?_
        rintro e w' ⟨rfl, hw'⟩
        replace hw' := hw'.symm
        subst hw'
        go_wp2_with fail
        refine L2.out.mono ?_
        rintro e w' ⟨rfl, hw'⟩
        replace hw' := hw'.symm
        subst hw'
        go_wp2
        go_ret
        exact ⟨hfin.out _ rfl, Below.refl _ _⟩
      · have hp2 := List.length_pos_iff.2 h2
        cases o1 with
        | none => exact (h1 rfl).elim
        | some a =>
        cases o2 with
        | none => exact (h2 rfl).elim
        | some b =>
        obtain ⟨gg1, ga, rfl, ha⟩ := r1
        obtain ⟨gg2, gb, rfl, hb⟩ := r2
        have na := gg1.nice h1
        have nb := gg2.nice h2
        have D1 := depth_in w ha na w (Below.refl _ _)
        have D2 := depth_in w hb nb w (Below.refl _ _)
        have T1 := fun W (h : Below w.heap.size w W) => text_any (B := B) (p := some ⟨ga, 0, none⟩) (o := some a) W ⟨gg1, ga, rfl, ha.below h⟩ (by omega)
        have T2 := fun W (h : Below w.heap.size w W) => text_any (B := B) (p := some ⟨gb, 0, none⟩) (o := some b) W ⟨gg2, gb, rfl, hb.below h⟩ (by omega)
        have N1 := Lib.hid (node_in w w hB ha hb na nb hl (Below.refl _ _))
        have za := RT.high_le na
        have zb := RT.high_le nb
        simp only [textO] at L1 L2 T1 T2 hp1 hp2 hl ⊢
        obtain ⟨pa, ca, hpa⟩ := ha.first
        obtain ⟨pb, cb, hpb⟩ := hb.first
        obtain ⟨n1, hn1⟩ : ∃ n, n = a.text.length := ⟨_, rfl⟩
        obtain ⟨n2, hn2⟩ : ∃ n, n = b.text.length := ⟨_, rfl⟩
        obtain ⟨x1, hx1⟩ : ∃ n, n = a.high := ⟨_, rfl⟩
        obtain ⟨x2, hx2⟩ : ∃ n, n = b.high := ⟨_, rfl⟩
        rw [← hn1] at L1 hp1 za hl
        rw [← hn2] at L2 hp2 zb hl
        rw [← hx1] at D1 za
        rw [← hx2] at D2 zb
        have f1 : ((n1 : Int) == 0) = false := by simp; omega
        have f2 : ((n2 : Int) == 0) = false := by simp; omega
        replace L1 := Lib.hid L1
        replace L2 := Lib.hid L2
        replace D1 := Lib.hid D1
        replace D2 := Lib.hid D2
        replace T1 := Lib.hid T1
        replace T2 := Lib.hid T2
        replace hn1 := Lib.hid hn1
        replace hn2 := Lib.hid hn2
        replace hx1 := Lib.hid hx1
        replace hx2 := Lib.hid hx2
        replace ih := Lib.hid ih
        clear h1 h2 gg1 gg2
        have pza := RT.high_pos na
        have pzb := RT.high_pos nb
        rw [hx1.out.symm] at pza
        rw [hx2.out.symm] at pzb
        by_cases hs : pa = none ∧ pb = none ∧ n1 + n2 ≤ 256
        · obtain ⟨rfl, rfl, hs⟩ := hs
          have f3 : (n1 : Int) + (n2 : Int) ≤ 256 := by omega
          obtain ⟨sa, hsa⟩ : ∃ sa : ByteArray, sa = ⟨a.text.toArray⟩ := ⟨_, rfl⟩
          obtain ⟨sb, hsb⟩ : ∃ sa : ByteArray, sa = ⟨b.text.toArray⟩ := ⟨_, rfl⟩
          rw [← hsa] at T1
          rw [← hsb] at T2
          have hsa1 : sa.data.toList = a.text := by rw [hsa]
          have hsb1 : sb.data.toList = b.text := by rw [hsb]
          have hz1 : sa.size = n1 := by rw [Lib.size_eq, hsa1, hn1.out]
          have hz2 : sb.size = n2 := by rw [Lib.size_eq, hsb1, hn2.out]
          have hz3 : sa.size + sb.size ≤ 9223372036854775807 := by omega
          have HL := Lib.hid (fun W (h : Below w.heap.size w W) => leaf_any B (sa ++ sb) (by rw [ByteArray.size_append]; omega) W (Nat.le_trans hB h.size))
          have hss : Hid ((sa ++ sb).data.toList = a.text ++ b.text) := Lib.hid (by rw [data_appR, hsa1, hsb1])
          replace hz1 := Lib.hid hz1
          replace hz2 := Lib.hid hz2
          replace hsa := Lib.hid hsa
          replace hsb := Lib.hid hsb
          replace hsa1 := Lib.hid hsa1
          replace hsb1 := Lib.hid hsb1
          clear hpa hpb ha hb
          go_enter Tryd.func65, Tryd.ntmps65
          go_wp2_with (first
            | (go_at_call 63; (with_reducible refine L1.out.mono ?_); rintro e w' ⟨rfl, hw'⟩; replace hw' := hw'.symm; subst hw')
            | (go_at_call 63; (with_reducible refine L2.out.mono ?_); rintro e w' ⟨rfl, hw'⟩; replace hw' := hw'.symm; subst hw')
            | (go_at_call 80; (with_reducible refine D1.out.mono ?_); rintro e w' ⟨rfl, hw'⟩; replace hw' := hw'.symm; subst hw')
            | (go_at_call 80; (with_reducible refine D2.out.mono ?_); rintro e w' ⟨rfl, hw'⟩; replace hw' := hw'.symm; subst hw'))
          refine (T1.out _ (Below.refl _ _)).mono ?_
          rintro e w1 ⟨rfl, b1⟩
          go_wp2_with fail
          refine (T2.out _ b1).mono ?_
          rintro e w2 ⟨rfl, b2⟩
          have B2 := bstep b1 b2 b1.size
          go_wp2_with fail
          refine (HL.out _ B2).mono ?_
          rintro e w3 ⟨⟨p3, o3, rfl, r3, t3⟩, b3⟩
          have B3 := bstep B2 b3 B2.size
          go_wp2
          go_ret
          exact ⟨⟨p3, o3, rfl, r3, by rw [t3, hss.out]⟩, B3⟩
        · by_cases hab : x2 + 1 < x1
          · obtain ⟨x, y, rfl⟩ := RT.inner (t := a) (by have := hx1.out; omega)
            have ha' := ha
            obtain ⟨_, gx, gy, dd, ll, hgx, hgy, _, e, hxx, hyy⟩ := ha
            obtain ⟨_, q1, q2, _⟩ := rope9 e
            obtain rfl : pa = some ⟨gx, 0, none⟩ := by have := ca.symm.trans q1; simpa using this
            have f4 : (x2 : Int) + 1 < (x1 : Int) := by omega
            have hlx : x.text.length + y.text.length = n1 := by rw [hn1.out]; simp [RT.text]
            have J : Hid (∀ W, Below w.heap.size w W → Calls Tryd.prog 65 #[.pointer (some ⟨gy, 0, none⟩), .pointer (some ⟨gb, 0, none⟩)] W fun e w' => RNPost B (y.text ++ b.text) e w' ∧ Below W.heap.size W w') := Lib.hid (fun W hk => (ih.out (some y) (some b) _ _ W (by simp only [sizeO, RT.size] at hN ⊢; omega) ⟨.inl na.2, gy, rfl, hyy.below hk⟩ ⟨.inl nb, gb, rfl, hb.below hk⟩ (Nat.le_trans hB hk.size) (by simp only [textO]; rw [← hn2.out]; omega)).mono (fun e w' h => ⟨h.1.nice (app_ne_right nb), h.2⟩))
            have T : Hid (∀ W gz tz, Below w.heap.size w W → RAt W B tz gz → tz.Nice → tz.text = y.text ++ b.text → Calls Tryd.prog 81 #[.pointer (some ⟨gx, 0, none⟩), .pointer (some ⟨gz, 0, none⟩)] W fun e w' => RNPost B ((RT.node x y).text ++ b.text) e w' ∧ Below W.heap.size W w') := Lib.hid (by
              intro W gz tz p1 p2 p3 p4
              have := turn_any W (Nat.le_trans hB p1.size) (hxx.below p1) p2 na.1 p3 (by rw [p4, List.length_append, ← hn2.out]; omega)
              rw [p4, ← List.append_assoc] at this
              exact this)
            have HF : Hid (∀ z, Below w.heap.size w z → z.cell? ⟨ga, 1, none⟩ = some (.pointer (some ⟨gx, 0, none⟩)) ∧ z.cell? ⟨ga, 2, none⟩ = some (.pointer (some ⟨gy, 0, none⟩))) := Lib.hid (fun z hz => ⟨kept_cell hz q1, kept_cell hz q2⟩)
            replace hlx := Lib.hid hlx
            clear hpa hpb hs T1 T2 N1 ca q1
            rcases pb with _ | pb
            all_goals
              go_enter Tryd.func65, Tryd.ntmps65
              have c1 := (HF.out w (Below.refl _ _)).1
              clear q2
              go_wp2_with (first
            | (go_at_call 63; (with_reducible refine L1.out.mono ?_); rintro e w' ⟨rfl, hw'⟩; replace hw' := hw'.symm; subst hw')
            | (go_at_call 63; (with_reducible refine L2.out.mono ?_); rintro e w' ⟨rfl, hw'⟩; replace hw' := hw'.symm; subst hw')
            | (go_at_call 80; (with_reducible refine D1.out.mono ?_); rintro e w' ⟨rfl, hw'⟩; replace hw' := hw'.symm; subst hw')
            | (go_at_call 80; (with_reducible refine D2.out.mono ?_); rintro e w' ⟨rfl, hw'⟩; replace hw' := hw'.symm; subst hw'))
              have y0 := HF.out _ (Below.refl _ w)
              have hN2 : Below w.heap.size w w.drew := (Below.refl _ w).drew
              have y1 := HF.out _ hN2
              go_region_held3 (fun z : World => z.cell? ⟨ga, 1, none⟩ = some (.pointer (some ⟨gx, 0, none⟩)) ∧ z.cell? ⟨ga, 2, none⟩ = some (.pointer (some ⟨gy, 0, none⟩))) (first | with_reducible exact y0 | with_reducible exact y1 | with_reducible exact y2 | with_reducible exact y3) (first
                | (go_at_call 65; (with_reducible refine (J.out _ hN2).mono ?_); rintro e w1 ⟨⟨gz, tz, rfl, hz, hnz, htz⟩, bx⟩; have hb1 : Below w.heap.size w w1 := hN2.trans (bx.mono hN2.size); have y2 := HF.out _ hb1)
                | (go_at_call 81; (with_reducible refine (T.out _ gz tz hb1 hz hnz htz).mono ?_); rintro e w2 ⟨⟨gv, tv, rfl, hv, hnv, htv⟩, bz⟩; have hb2 : Below w.heap.size w w2 := hb1.trans (bz.mono hb1.size); have y3 := HF.out _ hb2))
              all_goals
                go_wp2
                go_ret
                exact ⟨⟨_, some tv, rfl, ⟨.inl hnv, gv, rfl, hv⟩, htv⟩, hb2⟩
          · by_cases hba : x1 + 1 < x2
            · obtain ⟨x, y, rfl⟩ := RT.inner (t := b) (by have := hx2.out; omega)
              obtain ⟨_, gx, gy, dd, ll, hgx, hgy, _, e, hxx, hyy⟩ := hb
              obtain ⟨_, q1, q2, _⟩ := rope9 e
              obtain rfl : pb = some ⟨gx, 0, none⟩ := by have := cb.symm.trans q1; simpa using this
              have f4 : ¬ (x2 : Int) + 1 < (x1 : Int) := by omega
              have f5 : (x1 : Int) + 1 < (x2 : Int) := by omega
              have hlx : x.text.length + y.text.length = n2 := by rw [hn2.out]; simp [RT.text]
              have J : Hid (∀ W, Below w.heap.size w W → Calls Tryd.prog 65 #[.pointer (some ⟨ga, 0, none⟩), .pointer (some ⟨gx, 0, none⟩)] W fun e w' => RNPost B (a.text ++ x.text) e w' ∧ Below W.heap.size W w') := Lib.hid (fun W hk => (ih.out (some a) (some x) _ _ W (by simp only [sizeO, RT.size] at hN ⊢; omega) ⟨.inl na, ga, rfl, ha.below hk⟩ ⟨.inl nb.1, gx, rfl, hxx.below hk⟩ (Nat.le_trans hB hk.size) (by simp only [textO]; rw [← hn1.out]; omega)).mono (fun e w' h => ⟨h.1.nice (app_ne_right nb.1), h.2⟩))
              have T : Hid (∀ W gz tz, Below w.heap.size w W → RAt W B tz gz → tz.Nice → tz.text = a.text ++ x.text → Calls Tryd.prog 81 #[.pointer (some ⟨gz, 0, none⟩), .pointer (some ⟨gy, 0, none⟩)] W fun e w' => RNPost B (a.text ++ (RT.node x y).text) e w' ∧ Below W.heap.size W w') := Lib.hid (by
                intro W gz tz p1 p2 p3 p4
                have := turn_any W (Nat.le_trans hB p1.size) p2 (hyy.below p1) p3 nb.2 (by rw [p4, List.length_append, ← hn1.out]; omega)
                rw [p4, List.append_assoc] at this
                exact this)
              have HF : Hid (∀ z, Below w.heap.size w z → z.cell? ⟨gb, 1, none⟩ = some (.pointer (some ⟨gx, 0, none⟩)) ∧ z.cell? ⟨gb, 2, none⟩ = some (.pointer (some ⟨gy, 0, none⟩))) := Lib.hid (fun z hz => ⟨kept_cell hz q1, kept_cell hz q2⟩)
              replace hlx := Lib.hid hlx
              clear hpa hpb hs T1 T2 N1 cb q1
              rcases pa with _ | pa
              all_goals
                go_enter Tryd.func65, Tryd.ntmps65
                have c1 := (HF.out w (Below.refl _ _)).1
                clear q2
                go_wp2_with (first
            | (go_at_call 63; (with_reducible refine L1.out.mono ?_); rintro e w' ⟨rfl, hw'⟩; replace hw' := hw'.symm; subst hw')
            | (go_at_call 63; (with_reducible refine L2.out.mono ?_); rintro e w' ⟨rfl, hw'⟩; replace hw' := hw'.symm; subst hw')
            | (go_at_call 80; (with_reducible refine D1.out.mono ?_); rintro e w' ⟨rfl, hw'⟩; replace hw' := hw'.symm; subst hw')
            | (go_at_call 80; (with_reducible refine D2.out.mono ?_); rintro e w' ⟨rfl, hw'⟩; replace hw' := hw'.symm; subst hw'))
                have y0 := HF.out _ (Below.refl _ w)
                have hN2 : Below w.heap.size w w.drew := (Below.refl _ w).drew
                have y1 := HF.out _ hN2
                go_region_held3 (fun z : World => z.cell? ⟨gb, 1, none⟩ = some (.pointer (some ⟨gx, 0, none⟩)) ∧ z.cell? ⟨gb, 2, none⟩ = some (.pointer (some ⟨gy, 0, none⟩))) (first | with_reducible exact y0 | with_reducible exact y1 | with_reducible exact y2 | with_reducible exact y3) (first
                  | (go_at_call 65; (with_reducible refine (J.out _ hN2).mono ?_); rintro e w1 ⟨⟨gz, tz, rfl, hz, hnz, htz⟩, bx⟩; have hb1 : Below w.heap.size w w1 := hN2.trans (bx.mono hN2.size); have y2 := HF.out _ hb1)
                  | (go_at_call 81; (with_reducible refine (T.out _ gz tz hb1 hz hnz htz).mono ?_); rintro e w2 ⟨⟨gv, tv, rfl, hv, hnv, htv⟩, bz⟩; have hb2 : Below w.heap.size w w2 := hb1.trans (bz.mono hb1.size); have y3 := HF.out _ hb2))
                all_goals
                  go_wp2
                  go_ret
                  exact ⟨⟨_, some tv, rfl, ⟨.inl hnv, gv, rfl, hv⟩, htv⟩, hb2⟩
            · have f4 : ¬ (x2 : Int) + 1 < (x1 : Int) := by omega
              have f5 : ¬ (x1 : Int) + 1 < (x2 : Int) := by omega
              have hcase : (pa = none ∧ pb = none ∧ ¬ (n1 : Int) + (n2 : Int) ≤ 256) ∨ (∃ q, pa = some q) ∨ (pa = none ∧ ∃ q, pb = some q) := by
                rcases pa with _ | pa
                · rcases pb with _ | pb
                  · exact .inl ⟨rfl, rfl, fun h => hs ⟨rfl, rfl, by omega⟩⟩
                  · exact .inr (.inr ⟨rfl, pb, rfl⟩)
                · exact .inr (.inl ⟨pa, rfl⟩)
              clear hs hpa hpb T1 T2 ha hb
              rcases hcase with ⟨rfl, rfl, f6⟩ | ⟨q, rfl⟩ | ⟨rfl, q, rfl⟩
              all_goals
                go_enter Tryd.func65, Tryd.ntmps65
                go_wp2_with (first
            | (go_at_call 63; (with_reducible refine L1.out.mono ?_); rintro e w' ⟨rfl, hw'⟩; replace hw' := hw'.symm; subst hw')
            | (go_at_call 63; (with_reducible refine L2.out.mono ?_); rintro e w' ⟨rfl, hw'⟩; replace hw' := hw'.symm; subst hw')
            | (go_at_call 80; (with_reducible refine D1.out.mono ?_); rintro e w' ⟨rfl, hw'⟩; replace hw' := hw'.symm; subst hw')
            | (go_at_call 80; (with_reducible refine D2.out.mono ?_); rintro e w' ⟨rfl, hw'⟩; replace hw' := hw'.symm; subst hw'))
                refine N1.out.mono ?_
                rintro e w1 ⟨⟨gz, tz, rfl, hz, hnz, htz⟩, bx⟩
                go_wp2
                go_ret
                exact ⟨⟨_, some tz, rfl, ⟨.inl hnz, gz, rfl, hz⟩, htz⟩, bx⟩
end Go.Proofs.YtekbilieddficaaDoor
