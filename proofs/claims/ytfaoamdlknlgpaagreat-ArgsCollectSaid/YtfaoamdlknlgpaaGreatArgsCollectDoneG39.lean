/- Texts of this seat's proofs, laid into one file. -/
import Derived.Test.YtfaoamdlknlgpaaGreatArgsCollectDoneG10
import Derived.Test.YtfaoamdlknlgpaaGreatArgsCollectDoneG12
import Derived.Deep.RegionLaw
/- lex's comment. -/
namespace Go.Proofs.YtfaoamdlknlgpaaGreat
open Go.RowKit
set_option linter.unusedVariables false

theorem hasL2 {A : List UInt8} {i : Nat} {c d : UInt8} (hd : d ≠ 0) : hasL A i [c, d] = decide (chAt A i = c ∧ chAt A (i + 1) = d) := by
  unfold hasL
  rw [Bool.eq_iff_iff]
  simp only [List.length_cons, List.length_nil, Bool.and_eq_true, decide_eq_true_eq, List.all_eq_true, List.mem_range, beq_iff_eq]
  constructor
  · rintro ⟨_, h⟩
    exact ⟨h 0 (by omega), h 1 (by omega)⟩
  · rintro ⟨h0, h1⟩
    refine ⟨?_, fun j hj => ?_⟩
    · by_cases h : i + 1 < A.length
      · omega
      · rw [chAt_ge (by omega)] at h1
        exact absurd h1.symm hd
    · match j, hj with
      | 0, _ => exact h0
      | 1, _ => exact h1

def ComPost (W0 : World) (b : Nat) (file : ByteArray) (R : List Rn) (n : Nat) (lo : Option Addr) (cap at_ : Nat) (C : Nat × Bool) (ds : List Dg) (sp : Bool) (q : Int) (w : World) (e : Ending) (w' : World) : Prop :=
  ∃ vd', e = .returned (.tuple #[.bool (decide (at_ < C.1)), .bool C.2]) ∧ LwAt W0 w' b file n lo cap C.1 vd' (ds ++ if C.2 then [⟨1, rF R at_, rT R (at_ + 1)⟩] else []) sp q ∧ KeptX w w'

set_option maxHeartbeats 2000000 in
set_option maxRecDepth 100000 in
theorem pcomment_any (W0 : World) (b : Nat) (file : ByteArray) (R : List Rn) (lo : Option Addr) (cap at_ : Nat) (vd : Value) (ds : List Dg) (sp : Bool) (q : Int) (HR : ∀ w', Bel b W0 w' → Row w' 3 lo (R.map Rn.v)) (hcap : R.length ≤ cap) (hl : R.length ≤ 1000001) (ha : at_ ≤ R.length) (hd : ds.length ≤ 1000010) (w : World) (h : LwAt W0 w b file R.length lo cap at_ vd ds sp q) :
    Calls Tryz.prog 88 #[.pointer (some ⟨b, 0, none⟩)] w fun e w' => ComPost W0 b file R R.length lo cap at_ (commentL (cs R) at_) ds sp q w e w' := by
  have HK := fun (w' : World) (k : Nat) (vd' : Value) (ds' : List Dg) (hk : k ≤ 2000000) (h' : LwAt W0 w' b file R.length lo cap k vd' ds' sp q) => h'.wk HR hcap (by omega) (by omega)
  obtain ⟨n, hn⟩ : ∃ n, n = R.length := ⟨_, rfl⟩
  have HN : Hid (R.length = n) := Lib.hid hn.symm
  have hA : (cs R).length = n := by rw [cs_len, hn]
  have HA : Hid ((cs R).length = n) := Lib.hid hA
  replace HR := Lib.hid HR
  replace HK := Lib.hid HK
  rw [← hn] at hcap hl ha h ⊢
  clear hn hA
  obtain ⟨c0, c1, c2, c3, c4, c5⟩ := cells6 h.cells
  obtain ⟨x, hx⟩ : ∃ x, x = decide (chAt (cs R) at_ = 47 ∧ chAt (cs R) (at_ + 1) = 47) := ⟨_, rfl⟩
  obtain ⟨y, hy⟩ : ∃ y, y = decide (chAt (cs R) at_ = 47 ∧ chAt (cs R) (at_ + 1) = 42) := ⟨_, rfl⟩
  have H1 := fun w' (h' : WkAt w' b R lo cap at_) => has_any b R lo cap at_ (bs [47, 47]) (by decide) w' h'
  have H2 := fun w' (h' : WkAt w' b R lo cap at_) => has_any b R lo cap at_ (bs [47, 42]) (by decide) w' h'
  have H3 := fun k w' (h' : WkAt w' b R lo cap k) => has_any b R lo cap k (bs [42, 47]) (by decide) w' h'
  rw [show (bs [47, 47]).data.toList = [47, 47] from rfl, hasL2 (by decide), ← hx] at H1
  rw [show (bs [47, 42]).data.toList = [47, 42] from rfl, hasL2 (by decide), ← hy] at H2
  rw [show (bs [42, 47]).data.toList = [42, 47] from rfl] at H3
  simp only [hasL2 (show (47 : UInt8) ≠ 0 by decide)] at H3
  replace H1 := Lib.hid H1
  replace H2 := Lib.hid H2
  replace H3 := Lib.hid H3
  replace hx := Lib.hid hx
  replace hy := Lib.hid hy
  obtain ⟨C, hC⟩ : ∃ C, C = commentL (cs R) at_ := ⟨_, rfl⟩
  rw [← hC]
  replace hC := Lib.hid hC
  go_enter Tryz.func88, Tryz.ntmps88
  go_wp2_with fail
  refine (H1.out w (HK.out w at_ vd ds (by omega) (by rw [HN.out]; exact h))).mono ?_
  rintro e w1 ⟨rfl, k1, rfl⟩
  have h1 := h.after (drewN_below w k1)
  clear c0 c1 c2 c3 c4 c5
  obtain ⟨c0, c1, c2, c3, c4, c5⟩ := cells6 h1.cells
  cases x with
  | true =>
    have h47 : chAt (cs R) at_ = 47 ∧ chAt (cs R) (at_ + 1) = 47 := by simpa using hx.out.symm
    have hCr : Hid (C = (at_ + (((cs R).drop at_).takeWhile (· != 10)).length, false)) := Lib.hid (by rw [hC.out]; unfold commentL; simp [h47.1, h47.2])
    have hlt2 : at_ < at_ + (((cs R).drop at_).takeWhile (· != 10)).length := by
      have hlt : at_ < n := by
        rcases Nat.lt_or_ge at_ n with h | h
        · exact h
        · have := h47.1; rw [chAt_ge (by rw [HA.out]; exact h)] at this; exact absurd this (by decide)
      rw [while_step (by rw [HA.out]; exact hlt), h47.1]
      simp
    clear h47
    go_wp2_with fail
    go_loopg [] (n - at_) (fun u wr => ∃ k : Nat, u = n - k ∧ at_ ≤ k ∧ k ≤ n ∧ LwAt W0 wr b file n lo cap k vd ds sp q ∧ KeptX w wr ∧ Hid (at_ + (((cs R).drop at_).takeWhile (· != 10)).length = k + (((cs R).drop k).takeWhile (· != 10)).length))
    case atStart => exact ⟨at_, rfl, Nat.le_refl _, ha, h1, KeptX.below (drewN_below w k1), Lib.hid rfl⟩
    case round =>
      obtain ⟨k, rfl, hk1, hk2, hL, hX, hT⟩ := hrel
      clear c0 c1 c2 c3 c4 c5
      obtain ⟨c0, c1, c2, c3, c4, c5⟩ := cells6 hL.cells
      have fr := fun j => Lib.frozen_of_heap hL.cells j
      by_cases hlt : k < n
      · obtain ⟨r, hr⟩ : ∃ r, R[k]? = some r := ⟨R[k]'(by rw [HN.out]; exact hlt), by simp⟩
        have hrc := cs_at hr
        obtain ⟨g, o, rfl, hat⟩ := HR.out wr hL.below (by intro h; simp at h; subst h; simp at hr)
        have d0 := hat.cell (i := k) (cs := r.v) (by simp [hr]) (j := 0) (u := .int .u8 r.c.toNat) rfl
        simp only [Nat.add_zero] at d0
        have e1 : (k : Int) < n := by omega
        have q1 : IntKind.i64.wrap ((k : Int) + 1) = (k : Int) + 1 := IntWalk.i64_in _ (by omega)
        have hgo := line_go (cs R) k (by rw [HA.out]; exact hlt)
        rw [hrc] at hgo
        clear hat
        replace hr := Lib.hid hr
        replace hrc := Lib.hid hrc
        by_cases h10 : (r.c.toNat : Int) = 10
        · have hm' : ((r.c.toNat : Int) == 10) = true := by simpa using h10
          rw [if_pos h10] at hgo
          replace h10 := Lib.hid h10
          have hCk : Hid (C = (k, false)) := Lib.hid (by rw [hCr.out, hT.out, hgo]; rfl)
          replace hgo := Lib.hid hgo
          go_wp2_with fail
          go_quiet (fail)
          go_wp2
          go_ret2
          refine ⟨vd, ?_, ?_, hX.trans (KeptX.below (drewN_below wr nq))⟩
          · rw [hCk.out, ← show at_ + (((cs R).drop at_).takeWhile (· != 10)).length = k by rw [hT.out, hgo.out]; rfl, decide_eq_true hlt2]
            rfl
          · rw [hCk.out]
            simpa using hL.after (drewN_below wr nq)
        · have hm' : ((r.c.toNat : Int) == 10) = false := by simpa using h10
          rw [if_neg h10] at hgo
          replace h10 := Lib.hid h10
          have hT2 : Hid (at_ + (((cs R).drop at_).takeWhile (· != 10)).length = (k + 1) + (((cs R).drop (k + 1)).takeWhile (· != 10)).length) := Lib.hid (by rw [hT.out, hgo]; omega)
          replace hgo := Lib.hid hgo
          go_wp2_with fail
          go_quiet (fail)
          go_wp2_with fail
          go_roundg (n - (k + 1))
          case measure => omega
          case rel =>
            have hL2 := hL.after (drewN_below wr nq)
            exact ⟨k + 1, rfl, by omega, by omega, hL2.at (k + 1), (hX.trans (KeptX.below (drewN_below wr nq))).trans (KeptX.set hL2.cells _ _), hT2⟩
      · have hkn : k = n := by omega
        have e1 : ¬ (k : Int) < n := by omega
        have hCk : Hid (C = (k, false)) := Lib.hid (by rw [hCr.out, hT.out, while_end (by rw [HA.out]; omega)]; rfl)
        have hatk : at_ < k := by have := hT.out; rw [while_end (A := cs R) (j := k) (by rw [HA.out]; omega)] at this; omega
        replace hkn := Lib.hid hkn
        go_wp2_with fail
        go_quiet (fail)
        go_wp2
        go_ret2
        refine ⟨vd, ?_, ?_, hX.trans (KeptX.below (drewN_below wr nq))⟩
        · rw [hCk.out]
          simp only [decide_eq_true hatk]
          rfl
        · rw [hCk.out]
          simpa using hL.after (drewN_below wr nq)
  | false =>
    go_wp2_with fail
    refine (H2.out _ (HK.out _ at_ vd ds (by omega) (by rw [HN.out]; exact h1))).mono ?_
    rintro e w2 ⟨rfl, k2, hw2⟩
    have hB2 : Below (w.drewN k1).heap.size (w.drewN k1) w2 := by rw [hw2]; exact drewN_below _ _
    replace hw2 := Lib.hid hw2
    have h2 := h1.after hB2
    have hX2 : KeptX w w2 := (KeptX.below (drewN_below w k1)).trans (KeptX.below hB2)
    clear c0 c1 c2 c3 c4 c5
    obtain ⟨c0, c1, c2, c3, c4, c5⟩ := cells6 h2.cells
    have fr := fun j => Lib.frozen_of_heap h2.cells j
    cases y with
    | false =>
      have hCr : Hid (C = (at_, false)) := Lib.hid (by
        rw [hC.out]
        unfold commentL
        have a1 := hx.out
        have a2 := hy.out
        by_cases z : chAt (cs R) at_ = 47
        · have b1 : ¬ chAt (cs R) (at_ + 1) = 47 := by intro e; simp [z, e] at a1
          have b2 : ¬ chAt (cs R) (at_ + 1) = 42 := by intro e; simp [z, e] at a2
          simp [z, b1, b2]
        · simp [z])
      go_wp2
      go_ret2
      refine ⟨vd, ?_, ?_, hX2⟩
      · rw [hCr.out]
        simp only [decide_eq_false (Nat.lt_irrefl at_)]
        rfl
      · rw [hCr.out]
        simpa using h2
    | true =>
      have h42 : chAt (cs R) at_ = 47 ∧ chAt (cs R) (at_ + 1) = 42 := by simpa using hy.out.symm
      have hlt : at_ + 1 < n := by
        rcases Nat.lt_or_ge (at_ + 1) n with h | h
        · exact h
        · have := h42.2; rw [chAt_ge (by rw [HA.out]; exact h)] at this; exact absurd this (by decide)
      have hCs : Hid (∀ e, comEnd (at_ + 2) ((cs R).drop (at_ + 2)) = some e → C = (e, false)) := Lib.hid (by intro e he; rw [hC.out]; unfold commentL; simp [h42.1, h42.2, he])
      have hCn : Hid (comEnd (at_ + 2) ((cs R).drop (at_ + 2)) = none → C = (n, true)) := Lib.hid (by intro he; rw [hC.out]; unfold commentL; simp [h42.1, h42.2, he, HA.out])
      clear h42
      have h3 := h2.at (at_ + 2)
      have hX3 := hX2.trans (KeptX.set h2.cells 2 (.int .i64 ((at_ + 2 : Nat) : Int)))
      go_wp2_with fail
      go_loopg [] (n + 4 - (at_ + 2)) (fun u wr => ∃ k : Nat, u = n + 4 - k ∧ at_ + 2 ≤ k ∧ k ≤ n ∧ LwAt W0 wr b file n lo cap k vd ds sp q ∧ KeptX w wr ∧ Hid (comEnd (at_ + 2) ((cs R).drop (at_ + 2)) = comEnd k ((cs R).drop k)))
      case atStart =>
        exact ⟨at_ + 2, rfl, Nat.le_refl _, by omega, h3, hX3, Lib.hid rfl⟩
      case round =>
        obtain ⟨k, rfl, hk1, hk2, hL, hX, hT⟩ := hrel
        clear c0 c1 c2 c3 c4 c5
        obtain ⟨c0, c1, c2, c3, c4, c5⟩ := cells6 hL.cells
        by_cases hlt : k < n
        · have e1 : (k : Int) < n := by omega
          have q1 : IntKind.i64.wrap ((k : Int) + 1) = (k : Int) + 1 := IntWalk.i64_in _ (by omega)
          go_wp2_with fail
          go_quiet (fail)
          have hL2 := hL.after (drewN_below wr nq)
          clear c0 c1 c2 c3 c4 c5
          obtain ⟨z, hz⟩ : ∃ z, z = decide (chAt (cs R) k = 42 ∧ chAt (cs R) (k + 1) = 47) := ⟨_, rfl⟩
          have HH := H3.out k _ (HK.out _ k vd ds (by omega) (by rw [HN.out]; exact hL2))
          rw [← hz] at HH
          replace HH := Lib.hid HH
          have hst := com_step (A := cs R) (j := k) (by rw [HA.out]; exact hlt)
          replace hz := Lib.hid hz
          replace hst := Lib.hid hst
          go_wp2_with fail
          refine HH.out.mono ?_
          rintro e w5 ⟨rfl, k5, hw5⟩
          have hB5 : Below (wr.drewN nq).heap.size (wr.drewN nq) w5 := by rw [hw5]; exact drewN_below _ _
          replace hw5 := Lib.hid hw5
          have hL5 := hL2.after hB5
          have hX5 := (hX.trans (KeptX.below (drewN_below wr nq))).trans (KeptX.below hB5)
          obtain ⟨c0, c1, c2, c3, c4, c5⟩ := cells6 hL5.cells
          have fr := fun j => Lib.frozen_of_heap hL5.cells j
          cases z with
          | true =>
            have hzz : chAt (cs R) k = 42 ∧ chAt (cs R) (k + 1) = 47 := by simpa using hz.out.symm
            have hCk : Hid (C = (k + 2, false)) := Lib.hid (hCs.out _ (by rw [hT.out, hst.out, if_pos hzz]))
            clear hzz
            go_wp2
            go_ret2
            refine ⟨vd, ?_, ?_, hX5.trans (KeptX.set hL5.cells _ _)⟩
            · rw [hCk.out]
              simp only [decide_eq_true (show at_ < k + 2 by omega)]
              rfl
            · rw [hCk.out]
              simpa using hL5.at (k + 2)
          | false =>
            have hzz : ¬ (chAt (cs R) k = 42 ∧ chAt (cs R) (k + 1) = 47) := by
              have := hz.out
              exact of_decide_eq_false this.symm
            have hT2 : Hid (comEnd (at_ + 2) ((cs R).drop (at_ + 2)) = comEnd (k + 1) ((cs R).drop (k + 1))) := Lib.hid (by rw [hT.out, hst.out, if_neg hzz])
            clear hzz
            go_wp2_with fail
            go_roundg (n + 4 - (k + 1))
            case measure => omega
            case rel => exact ⟨k + 1, rfl, by omega, by omega, hL5.at (k + 1), hX5.trans (KeptX.set hL5.cells _ _), hT2⟩
        · have hkn : k = n := by omega
          have e1 : ¬ (k : Int) < n := by omega
          have hCk : Hid (C = (k, true)) := Lib.hid (by rw [hCn.out (by rw [hT.out, com_end (by rw [HA.out]; omega)]), hkn])
          replace hkn := Lib.hid hkn
          go_wp2_with fail
          go_quiet (fail)
          have hL2 := hL.after (drewN_below wr nq)
          have hX5 := hX.trans (KeptX.below (drewN_below wr nq))
          clear c0 c1 c2 c3 c4 c5
          obtain ⟨c0, c1, c2, c3, c4, c5⟩ := cells6 hL2.cells
          generalize wr.drewN nq = w6 at *
          have hL3 := hL2.after (Below.refl _ w6).drew
          have HS := span_any b R lo cap k file at_ (at_ + 1) (by rw [HN.out]; omega) (by rw [HN.out]; omega) w6.drew (HK.out _ k vd ds (by omega) (by rw [HN.out]; exact hL3)) (cells6 hL3.cells).1
          rw [show (((at_ + 1 : Nat) : Int) + 1) = (at_ : Int) + 2 by omega] at HS
          replace HS := Lib.hid HS
          have q2 : IntKind.i64.wrap ((at_ : Int) + 2) = (at_ : Int) + 2 := IntWalk.i64_in _ (by omega)
          have hlenD : (ds.map (dgC file)).length + 1 ≤ 1000000000 := by rw [List.length_map]; omega
          have hneb : vd.ownBlock ≠ some b := by intro e; have := hL2.diags.ge _ e; omega
          have hlb := lt_of_block hL2.cells
          have hdD := hL2.diags.drew
          go_wp2_with fail
          go_region_law (first
            | (go_simp; go_at_call 90; refine HS.out.mono ?_; rintro e w5 ⟨rfl, hb5⟩; have hd5 := hdD.below hb5; have hc5 := (hb5.block b hlb).trans hL2.cells; obtain ⟨y0, y1, y2, y3, y4, y5⟩ := cells6 hc5; have ky := fun o => kept_cell ((Below.refl _ w5).alloc (Nat.le_refl _) o) y3)
            | (refine step_append1 E68 rfl rfl (hd5.alloc _) rfl rfl (heap_alloc_new _ _) rfl (by simp [Value.oneCell']) hlenD (by decide) (by have := hb5.size; simp at this ⊢; omega) ?_; intro v9 w9 hown9 hg9; have hc9 := (hg9.block b (by have := hb5.size; simp at this ⊢; omega) (fun e => hneb e.symm)).trans ((Lib.alloc_old _ _ _ (by have := hb5.size; simp at this ⊢; omega)).trans hc5); obtain ⟨ao9, cap9, rfl, _, _, _, _⟩ := hown9.rown (n := ds.length + 1) (by simp); have qf := fun j => Lib.frozen_of_heap hc9 j; obtain ⟨z0, z1, z2, z3, z4, z5⟩ := cells6 hc9))
          all_goals
            go_wp2
            go_ret2
            have hb6 : Bel b W0 (w5.alloc (.cells #[.int .i64 1, .string file, .int .i64 (rF R at_), .int .i64 (rT R (at_ + 1))] 68)) := hL2.below.after (((Below.refl _ w6).drew.trans hb5).alloc (by have := hb5.size; simp at this ⊢; omega) _) (Nat.le_of_lt hlb)
            have hb9 : Bel b W0 w9 := hb6.app (hd5.alloc _) (by decide) hg9 (Nat.le_succ b) (by have := hb5.size; simp at this ⊢; omega)
            refine ⟨.slice ao9 (ds.length + 1) cap9, ?_, ?_, ((((hX5.trans (KeptX.below (Below.refl _ w6).drew)).trans (KeptX.below hb5)).trans (KeptX.below ((Below.refl _ w5).alloc (Nat.le_refl _) _))).trans (KeptX.app (hd5.alloc _) hg9)).trans (KeptX.set hc9 _ _)⟩
            · rw [hCk.out]
              simp only [decide_eq_true (show at_ < k by omega)]
              rfl
            · rw [hCk.out]
              refine ⟨lw_set3 hc9 _, hb9.set hc9 (by decide) (Nat.le_refl _) 3 _, ?_⟩
              have := hown9.setBelow (b := b) (j := 3) (Nat.lt_succ_self _) (.slice ao9 (ds.length + 1) cap9)
              simpa [dgC] using this
end Go.Proofs.YtfaoamdlknlgpaaGreat
