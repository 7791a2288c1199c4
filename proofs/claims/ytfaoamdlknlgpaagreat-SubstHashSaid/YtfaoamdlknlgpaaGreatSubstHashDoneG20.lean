/- Texts of this seat's proofs, laid into one file. -/
import Derived.Test.YtfaoamdlknlgpaaGreatSubstHashDoneG17
import Derived.Test.YtfaoamdlknlgpaaGreatSubstHashDoneG7
import Derived.Deep.RegionLaw
import Derived.Test.YtfaoamdlknlgpaaGreatSubstHashDoneG19
import Derived.Test.YtfaoamdlknlgpaaGreatSubstHashDoneG1
/- lex's comment. -/
namespace Go.Proofs.YtfaoamdlknlgpaaGreat
open Go.RowKit
set_option linter.unusedVariables false

theorem hasL2 {A : List UInt8} {i : Nat} {c d : UInt8} (hd : d ≠ 0) : hasL A i [c, d] = decide (chAt A i = c ∧ chAt A (i + 1) = d) := by
  unfold hasL
  rw [Bool.eq_iff_iff]
  simp only [List.length_cons, List.length_nil, Bool.and_eq_true, decide_eq_true_eq, List.all_eq_true, List.mem_range, beq_iff_eq]
  constructor
  · rintro ⟨_, h⟩
    exact ⟨h 0 (by omega), h 1 (by omega)⟩
  · rintro ⟨h0, h1⟩
    refine ⟨?_, fun j hj => ?_⟩
    · by_cases h : i + 1 < A.length
      · omega
      · rw [chAt_ge (by omega)] at h1
        exact absurd h1.symm hd
    · match j, hj with
      | 0, _ => exact h0
      | 1, _ => exact h1

def ComPost (W0 : World) (b : Nat) (file : ByteArray) (R : List Rn) (n : Nat) (lo : Option Addr) (cap at_ : Nat) (C : Nat × Bool) (ds : List Dg) (sp : Bool) (q : Int) (w : World) (e : Ending) (w' : World) : Prop :=
  ∃ vd', e = .returned (.tuple #[.bool (decide (at_ < C.1)), .bool C.2]) ∧ LwAt W0 w' b file n lo cap C.1 vd' (ds ++ if C.2 then [⟨1, rF R at_, rT R (at_ + 1)⟩] else []) sp q ∧ KeptX w w'

set_option maxHeartbeats 2000000 in
set_option maxRecDepth 100000 in
theorem pcomment_any (W0 : World) (b : Nat) (file : ByteArray) (R : List Rn) (lo : Option Addr) (cap at_ : Nat) (vd : Value) (ds : List Dg) (sp : Bool) (q : Int) (HR : ∀ w', Bel b W0 w' → Row w' 3 lo (R.map Rn.v)) (hcap : R.length ≤ cap) (hl : R.length ≤ 1000001) (ha : at_ ≤ R.length) (hd : ds.length ≤ 1000010) (w : World) (h : LwAt W0 w b file R.length lo cap at_ vd ds sp q) :
    Calls Tryz.prog 88 #[.pointer (some ⟨b, 0, none⟩)] w fun e w' => ComPost W0 b file R R.length lo cap at_ (commentL (cs R) at_) ds sp q w e w' := by
  have HK := fun (w' : World) (k : Nat) (vd' : Value) (ds' : List Dg) (hk : k ≤ 2000000) (h' : LwAt W0 w' b file R.length lo cap k vd' ds' sp q) => h'.wk HR hcap (by omega) (by omega)
  obtain ⟨n, hn⟩ : ∃ n, n = R.length := ⟨_, rfl⟩
  have HN : Hid (R.length = n) := Lib.hid hn.symm
  have hA : (cs R).length = n := by rw [cs_len, hn]
  have HA : Hid ((cs R).length = n) := Lib.hid hA
  replace HR := Lib.hid HR
  replace HK := Lib.hid HK
  rw [← hn] at hcap hl ha h ⊢
  clear hn hA
  obtain ⟨c0, c1, c2, c3, c4, c5⟩ := cells6 h.cells
  obtain ⟨x, hx⟩ : ∃ x, x = decide (chAt (cs R) at_ = 47 ∧ chAt (cs R) (at_ + 1) = 47) := ⟨_, rfl⟩
  obtain ⟨y, hy⟩ : ∃ y, y = decide (chAt (cs R) at_ = 47 ∧ chAt (cs R) (at_ + 1) = 42) := ⟨_, rfl⟩
  have H1 := fun w' (h' : WkAt w' b R lo cap at_) => has_any b R lo cap at_ (bs [47, 47]) (by decide) w' h'
  have H2 := fun w' (h' : WkAt w' b R lo cap at_) => has_any b R lo cap at_ (bs [47, 42]) (by decide) w' h'
  have H3 := fun k w' (h' : WkAt w' b R lo cap k) => has_any b R lo cap k (bs [42, 47]) (by decide) w' h'
  rw [show (bs [47, 47]).data.toList = [47, 47] from rfl, hasL2 (by decide), ← hx] at H1
  rw [show (bs [47, 42]).data.toList = [47, 42] from rfl, hasL2 (by decide), ← hy] at H2
  rw [show (bs [42, 47]).data.toList = [42, 47] from rfl] at H3
  simp only [hasL2 (show (47 : UInt8) ≠ 0 by decide)] at H3
  replace H1 := Lib.hid H1
  replace H2 := Lib.hid H2
  replace H3 := Lib.hid H3
  replace hx := Lib.hid hx
  replace hy := Lib.hid hy
  obtain ⟨C, hC⟩ : ∃ C, C = commentL (cs R) at_ := ⟨_, rfl⟩
  rw [← hC]
  replace hC := Lib.hid hC
  go_enter Tryz.func88, Tryz.ntmps88
  go_wp2_with fail
  refine (H1.out w (HK.out w at_ vd ds (by omega) (by rw [HN.out]; exact h))).mono ?_
  rintro e w1 ⟨rfl, k1, rfl⟩
  have h1 := h.after (drewN_below w k1)
  clear c0 c1 c2 c3 c4 c5
  obtain ⟨c0, c1, c2, c3, c4, c5⟩ := cells6 h1.cells
  cases x with
  | true =>
    have h47 : chAt (cs R) at_ = 47 ∧ chAt (cs R) (at_ + 1) = 47 := by simpa using hx.out.symm
    have hCr : Hid (C = (at_ + (((cs R).drop at_).takeWhile (· != 10)).length, false)) := Lib.hid (by rw [hC.out]; unfold commentL; simp [h47.1, h47.2])
    have hlt2 : at_ < at_ + (((cs R).drop at_).takeWhile (· != 10)).length := by
      have hlt : at_ < n := by
        rcases Nat.lt_or_ge at_ n with h | h
        · exact h
        · have := h47.1; rw [chAt_ge (by rw [HA.out]; exact h)] at this; exact absurd this (by decide)
      rw [while_step (by rw [HA.out]; exact hlt), h47.1]
      simp
    clear h47
    go_wp2_with fail
    go_loopg [] (n - at_) (fun u wr => ∃ k : Nat, u = n - k ∧ at_ ≤ k ∧ k ≤ n ∧ LwAt W0 wr b file n lo cap k vd ds sp q ∧ KeptX w wr ∧ Hid (at_ + (((cs R).drop at_).takeWhile (· != 10)).length = k + (((cs R).drop k).takeWhile (· != 10)).length))
    case atStart => exact ⟨at_, rfl, Nat.le_refl _, ha, h1, KeptX.below (drewN_below w k1), Lib.hid rfl⟩
    case round =>
      obtain ⟨k, rfl, hk1, hk2, hL, hX, hT⟩ := hrel
      clear c0 c1 c2 c3 c4 c5
      obtain ⟨c0, c1, c2, c3, c4, c5⟩ := cells6 hL.cells
      have fr := fun j => Lib.frozen_of_heap hL.cells j
      by_cases hlt : k < n
      · obtain ⟨r, hr⟩ : ∃ r, R[k]? = some r := ⟨R[k]'(by rw [HN.out]; exact hlt), by simp⟩
        have hrc := cs_at hr
        obtain ⟨g, o, rfl, hat⟩ := HR.out wr hL.below (by intro h; simp at h; subst h; simp at hr)
        have d0 := hat.cell (i := k) (cs := r.v) (by simp [hr]) (j := 0) (u := .int .u8 r.c.toNat) rfl
        simp only [Nat.add_zero] at d0
        have e1 : (k : Int) < n := by omega
        have q1 : IntKind.i64.wrap ((k : Int) + 1) = (k : Int) + 1 := IntWalk.i64_in _ (by omega)
        have hgo := line_go (cs R) k (by rw [HA.out]; exact hlt)
        rw [hrc] at hgo
        clear hat
        replace hr := Lib.hid hr
        replace hrc := Lib.hid hrc
        by_cases h10 : (r.c.toNat : Int) = 10
        · have hm' : ((r.c.toNat : Int) == 10) = true := by simpa using h10
          rw [if_pos h10] at hgo
          replace h10 := Lib.hid h10
          have hCk : Hid (C = (k, false)) := Lib.hid (by rw [hCr.out, hT.out, hgo]; rfl)
          replace hgo := Lib.hid hgo
          go_wp2_with fail
          go_quiet (fail)
          go_wp2
          go_ret2
          refine ⟨vd, ?_, ?_, hX.trans (KeptX.below (drewN_below wr nq))⟩
          · rw [hCk.out, ← show at_ + (((cs R).drop at_).takeWhile (· != 10)).length = k by rw [hT.out, hgo.out]; rfl, decide_eq_true hlt2]
            rfl
          · rw [hCk.out]
            simpa using hL.after (drewN_below wr nq)
        · have hm' : ((r.c.toNat : Int) == 10) = false := by simpa using h10
          rw [if_neg h10] at hgo
          replace h10 := Lib.hid h10
          have hT2 : Hid (at_ + (((cs R).drop at_).takeWhile (· != 10)).length = (k + 1) + (((cs R).drop (k + 1)).takeWhile (· != 10)).length) := Lib.hid (by rw [hT.out, hgo]; omega)
          replace hgo := Lib.hid hgo
          go_wp2_with fail
          go_quiet (fail)
          go_wp2_with fail
          go_roundg (n - (k + 1))
          case measure => omega
          case rel =>
            have hL2 := hL.after (drewN_below wr nq)
            exact ⟨k + 1, rfl, by omega, by omega, hL2.at (k + 1), (hX.trans (KeptX.below (drewN_below wr nq))).trans (KeptX.set hL2.cells _ _), hT2⟩
      · have hkn : k = n := by omega
        have e1 : ¬ (k : Int) < n := by omega
        have hCk : Hid (C = (k, false)) := Lib.hid (by rw [hCr.out, hT.out, while_end (by rw [HA.out]; omega)]; rfl)
        have hatk : at_ < k := by have := hT.out; rw [while_end (A := cs R) (j := k) (by rw [HA.out]; omega)] at this; omega
        replace hkn := Lib.hid hkn
        go_wp2_with fail
        go_quiet (fail)
        go_wp2
        go_ret2
        refine ⟨vd, ?_, ?_, hX.trans (KeptX.below (drewN_below wr nq))⟩
        · rw [hCk.out]
          simp only [decide_eq_true hatk]
          rfl
        · rw [hCk.out]
          simpa using hL.after (drewN_below wr nq)
  | false =>
    go_wp2_with fail
    refine (H2.out _ (HK.out _ at_ vd ds (by omega) (by rw [HN.out]; exact h1))).mono ?_
    rintro e w2 ⟨rfl, k2, hw2⟩
    have hB2 : Below (w.drewN k1).heap.size (w.drewN k1) w2 := by rw [hw2]; exact drewN_below _ _
    replace hw2 := Lib.hid hw2
    have h2 := h1.after hB2
    have hX2 : KeptX w w2 := (KeptX.below (drewN_below w k1)).trans (KeptX.below hB2)
    clear c0 c1 c2 c3 c4 c5
    obtain ⟨c0, c1, c2, c3, c4, c5⟩ := cells6 h2.cells
    have fr := fun j => Lib.frozen_of_heap h2.cells j
    cases y with
    | false =>
      have hCr : Hid (C = (at_, false)) := Lib.hid (by
        rw [hC.out]
        unfold commentL
        have a1 := hx.out
        have a2 := hy.out
        by_cases z : chAt (cs R) at_ = 47
        · have b1 : ¬ chAt (cs R) (at_ + 1) = 47 := by intro e; simp [z, e] at a1
          have b2 : ¬ chAt (cs R) (at_ + 1) = 42 := by intro e; simp [z, e] at a2
          simp [z, b1, b2]
        · simp [z])
      go_wp2
      go_ret2
      refine ⟨vd, ?_, ?_, hX2⟩
      · rw [hCr.out]
        simp only [decide_eq_false (Nat.lt_irrefl at_)]
        rfl
      · rw [hCr.out]
        simpa using h2
    | true =>
      have h42 : chAt (cs R) at_ = 47 ∧ chAt (cs R) (at_ + 1) = 42 := by simpa using hy.out.symm
      have hlt : at_ + 1 < n := by
        rcases Nat.lt_or_ge (at_ + 1) n with h | h
        · exact h
        · have := h42.2; rw [chAt_ge (by rw [HA.out]; exact h)] at this; exact absurd this (by decide)
      have hCs : Hid (∀ e, comEnd (at_ + 2) ((cs R).drop (at_ + 2)) = some e → C = (e, false)) := Lib.hid (by intro e he; rw [hC.out]; unfold commentL; simp [h42.1, h42.2, he])
      have hCn : Hid (comEnd (at_ + 2) ((cs R).drop (at_ + 2)) = none → C = (n, true)) := Lib.hid (by intro he; rw [hC.out]; unfold commentL; simp [h42.1, h42.2, he, HA.out])
      clear h42
      have h3 := h2.at (at_ + 2)
      have hX3 := hX2.trans (KeptX.set h2.cells 2 (.int .i64 ((at_ + 2 : Nat) : Int)))
      go_wp2_with fail
      go_loopg [] (n + 4 - (at_ + 2)) (fun u wr => ∃ k : Nat, u = n + 4 - k ∧ at_ + 2 ≤ k ∧ k ≤ n ∧ LwAt W0 wr b file n lo cap k vd ds sp q ∧ KeptX w wr ∧ Hid (comEnd (at_ + 2) ((cs R).drop (at_ + 2)) = comEnd k ((cs R).drop k)))
      case atStart =>
        exact ⟨at_ + 2, rfl, Nat.le_refl _, by omega, h3, hX3, Lib.hid rfl⟩
      case round =>
        obtain ⟨k, rfl, hk1, hk2, hL, hX, hT⟩ := hrel
        clear c0 c1 c2 c3 c4 c5
        obtain ⟨c0, c1, c2, c3, c4, c5⟩ := cells6 hL.cells
        by_cases hlt : k < n
        · have e1 : (k : Int) < n := by omega
          have q1 : IntKind.i64.wrap ((k : Int) + 1) = (k : Int) + 1 := IntWalk.i64_in _ (by omega)
          go_wp2_with fail
          go_quiet (fail)
          have hL2 := hL.after (drewN_below wr nq)
          clear c0 c1 c2 c3 c4 c5
          obtain ⟨z, hz⟩ : ∃ z, z = decide (chAt (cs R) k = 42 ∧ chAt (cs R) (k + 1) = 47) := ⟨_, rfl⟩
          have HH := H3.out k _ (HK.out _ k vd ds (by omega) (by rw [HN.out]; exact hL2))
          rw [← hz] at HH
          replace HH := Lib.hid HH
          have hst := com_step (A := cs R) (j := k) (by rw [HA.out]; exact hlt)
          replace hz := Lib.hid hz
          replace hst := Lib.hid hst
          go_wp2_with fail
          refine HH.out.mono ?_
          rintro e w5 ⟨rfl, k5, hw5⟩
          have hB5 : Below (wr.drewN nq).heap.size (wr.drewN nq) w5 := by rw [hw5]; exact drewN_below _ _
          replace hw5 := Lib.hid hw5
          have hL5 := hL2.after hB5
          have hX5 := (hX.trans (KeptX.below (drewN_below wr nq))).trans (KeptX.below hB5)
          obtain ⟨c0, c1, c2, c3, c4, c5⟩ := cells6 hL5.cells
          have fr := fun j => Lib.frozen_of_heap hL5.cells j
          cases z with
          | true =>
            have hzz : chAt (cs R) k = 42 ∧ chAt (cs R) (k + 1) = 47 := by simpa using hz.out.symm
            have hCk : Hid (C = (k + 2, false)) := Lib.hid (hCs.out _ (by rw [hT.out, hst.out, if_pos hzz]))
            clear hzz
            go_wp2
            go_ret2
            refine ⟨vd, ?_, ?_, hX5.trans (KeptX.set hL5.cells _ _)⟩
            · rw [hCk.out]
              simp only [decide_eq_true (show at_ < k + 2 by omega)]
              rfl
            · rw [hCk.out]
              simpa using hL5.at (k + 2)
          | false =>
            have hzz : ¬ (chAt (cs R) k = 42 ∧ chAt (cs R) (k + 1) = 47) := by
              have := hz.out
              exact of_decide_eq_false this.symm
            have hT2 : Hid (comEnd (at_ + 2) ((cs R).drop (at_ + 2)) = comEnd (k + 1) ((cs R).drop (k + 1))) := Lib.hid (by rw [hT.out, hst.out, if_neg hzz])
            clear hzz
            go_wp2_with fail
            go_roundg (n + 4 - (k + 1))
            case measure => omega
            case rel => exact ⟨k + 1, rfl, by omega, by omega, hL5.at (k + 1), hX5.trans (KeptX.set hL5.cells _ _), hT2⟩
        · have hkn : k = n := by omega
          have e1 : ¬ (k : Int) < n := by omega
          have hCk : Hid (C = (k, true)) := Lib.hid (by rw [hCn.out (by rw [hT.out, com_end (by rw [HA.out]; omega)]), hkn])
          replace hkn := Lib.hid hkn
          go_wp2_with fail
          go_quiet (fail)
          have hL2 := hL.after (drewN_below wr nq)
          have hX5 := hX.trans (KeptX.below (drewN_below wr nq))
          clear c0 c1 c2 c3 c4 c5
          obtain ⟨c0, c1, c2, c3, c4, c5⟩ := cells6 hL2.cells
          generalize wr.drewN nq = w6 at *
          have hL3 := hL2.after (Below.refl _ w6).drew
          have HS := span_any b R lo cap k file at_ (at_ + 1) (by rw [HN.out]; omega) (by rw [HN.out]; omega) w6.drew (HK.out _ k vd ds (by omega) (by rw [HN.out]; exact hL3)) (cells6 hL3.cells).1
          rw [show (((at_ + 1 : Nat) : Int) + 1) = (at_ : Int) + 2 by omega] at HS
          replace HS := Lib.hid HS
          have q2 : IntKind.i64.wrap ((at_ : Int) + 2) = (at_ : Int) + 2 := IntWalk.i64_in _ (by omega)
          have hlenD : (ds.map (dgC file)).length + 1 ≤ 1000000000 := by rw [List.length_map]; omega
          have hneb : vd.ownBlock ≠ some b := by intro e; have := hL2.diags.ge _ e; omega
          have hlb := lt_of_block hL2.cells
          have hdD := hL2.diags.drew
          go_wp2_with fail
          go_region_law (first
            | (go_simp; go_at_call 90; refine HS.out.mono ?_; rintro e w5 ⟨rfl, hb5⟩; have hd5 := hdD.below hb5; have hc5 := (hb5.block b hlb).trans hL2.cells; obtain ⟨y0, y1, y2, y3, y4, y5⟩ := cells6 hc5; have ky := fun o => kept_cell ((Below.refl _ w5).alloc (Nat.le_refl _) o) y3)
            | (refine step_append1 E68 rfl rfl (hd5.alloc _) rfl rfl (heap_alloc_new _ _) rfl (by simp [Value.oneCell']) hlenD (by decide) (by have := hb5.size; simp at this ⊢; omega) ?_; intro v9 w9 hown9 hg9; have hc9 := (hg9.block b (by have := hb5.size; simp at this ⊢; omega) (fun e => hneb e.symm)).trans ((Lib.alloc_old _ _ _ (by have := hb5.size; simp at this ⊢; omega)).trans hc5); obtain ⟨ao9, cap9, rfl, _, _, _, _⟩ := hown9.rown (n := ds.length + 1) (by simp); have qf := fun j => Lib.frozen_of_heap hc9 j; obtain ⟨z0, z1, z2, z3, z4, z5⟩ := cells6 hc9))
          all_goals
            go_wp2
            go_ret2
            have hb6 : Bel b W0 (w5.alloc (.cells #[.int .i64 1, .string file, .int .i64 (rF R at_), .int .i64 (rT R (at_ + 1))] 68)) := hL2.below.after (((Below.refl _ w6).drew.trans hb5).alloc (by have := hb5.size; simp at this ⊢; omega) _) (Nat.le_of_lt hlb)
            have hb9 : Bel b W0 w9 := hb6.app (hd5.alloc _) (by decide) hg9 (Nat.le_succ b) (by have := hb5.size; simp at this ⊢; omega)
            refine ⟨.slice ao9 (ds.length + 1) cap9, ?_, ?_, ((((hX5.trans (KeptX.below (Below.refl _ w6).drew)).trans (KeptX.below hb5)).trans (KeptX.below ((Below.refl _ w5).alloc (Nat.le_refl _) _))).trans (KeptX.app (hd5.alloc _) hg9)).trans (KeptX.set hc9 _ _)⟩
            · rw [hCk.out]
              simp only [decide_eq_true (show at_ < k by omega)]
              rfl
            · rw [hCk.out]
              refine ⟨lw_set3 hc9 _, hb9.set hc9 (by decide) (Nat.le_refl _) 3 _, ?_⟩
              have := hown9.setBelow (b := b) (j := 3) (Nat.lt_succ_self _) (.slice ao9 (ds.length + 1) cap9)
              simpa [dgC] using this
end Go.Proofs.YtfaoamdlknlgpaaGreat

/- lex's lines: the walk's tokens and the document's. -/
namespace Go.Proofs.YtfaoamdlknlgpaaGreat
open Go.RowKit
set_option linter.unusedVariables false
set_option linter.unusedSimpArgs false

/-- the tokens of a line -/
inductive Toks (R : List Rn) : NS → NS → List Tk → Prop
  | nil (s : NS) : Toks R s s []
  | snoc {s t u : NS} {l : List Tk} (h : Toks R s t l) (hs : Skips R t u) (ht : AtTok R u) : Toks R s (afterTok R u) (l ++ [tokN R u])

theorem AtTok.len {R : List Rn} {u : NS} (ht : AtTok R u) : u.i < (nextL (cs R) u.i).2.1 ∧ (nextL (cs R) u.i).2.1 ≤ R.length := by
  have := nextL_len (A := cs R) (i := u.i) (by rw [cs_len]; exact ht.1.1)
  rw [cs_len] at this
  exact this

theorem Toks.bound {R : List Rn} {s t : NS} {l : List Tk} (h : Toks R s t l) (hs : s.i ≤ R.length) : s.i + l.length ≤ t.i ∧ t.i ≤ R.length ∧ t.ds.length + s.i ≤ s.ds.length + t.i := by
  induction h with
  | nil => simp only [List.length_nil]; omega
  | snoc h hk ht ih =>
    have h1 := hk.bound ih.2.1
    have h2 := ht.len
    simp only [afterTok, List.length_append, List.length_cons, List.length_nil]
    split
    · simp only [List.length_cons, List.length_nil]; omega
    · simp only [List.length_nil]; omega

theorem ne0_lt {A : List UInt8} {i : Nat} (h : chAt A i ≠ 0) : i < A.length := by
  rcases Nat.lt_or_ge i A.length with h1 | h1
  · exact h1
  · exact absurd (chAt_ge h1) h

theorem quo_tail {q : UInt8} {A : List UInt8} : ∀ (k j : Nat), A.length ≤ j + k → 0 < quoL q j (A.drop j) → chAt A (quoL q j (A.drop j) - 1) = q := by
  intro k
  induction k using Nat.strongRecOn with
  | _ k ih =>
    intro j hk h
    by_cases hj : j < A.length
    · rw [quo_step hj] at h ⊢
      split at h
      · omega
      · rename_i h10
        rw [if_neg h10]
        split at h
        · rename_i h92
          rw [if_pos h92]
          exact ih (k - 2) (by omega) (j + 2) (by omega) h
        · rename_i h92
          rw [if_neg h92]
          split at h
          · rename_i hq
            rw [if_pos hq]
            simpa using hq
          · rename_i hq
            rw [if_neg hq]
            exact ih (k - 1) (by omega) (j + 1) (by omega) h
    · rw [quo_end (by omega)] at h
      omega

theorem quoted_tail {A : List UInt8} {i : Nat} (h : 0 < quotedL A i) : chAt A (quotedL A i - 1) = chAt A i := quo_tail A.length _ (by omega) h

theorem while_tail {p : UInt8 → Bool} {A : List UInt8} : ∀ (k j : Nat), A.length ≤ j + k → 0 < ((A.drop j).takeWhile p).length → p (chAt A (j + ((A.drop j).takeWhile p).length - 1)) = true := by
  intro k
  induction k with
  | zero => intro j hk h; rw [while_end (by omega)] at h; omega
  | succ k ih =>
    intro j hk h
    by_cases hj : j < A.length
    · rw [while_step hj] at h ⊢
      split at h
      · rename_i hp
        rw [if_pos hp]
        by_cases h0 : 0 < ((A.drop (j + 1)).takeWhile p).length
        · have := ih (j + 1) (by omega) h0
          rw [show j + (((A.drop (j + 1)).takeWhile p).length + 1) - 1 = j + 1 + ((A.drop (j + 1)).takeWhile p).length - 1 by omega]
          exact this
        · rw [show j + (((A.drop (j + 1)).takeWhile p).length + 1) - 1 = j by omega]
          exact hp
      · omega
    · rw [while_end (by omega)] at h; omega

theorem num_tail {A : List UInt8} : ∀ (k j : Nat), A.length ≤ j + k → 0 < numRun (A.drop j) → chAt A (j + numRun (A.drop j) - 1) ≠ 10 := by
  intro k
  induction k using Nat.strongRecOn with
  | _ k ih =>
    intro j hk h
    by_cases hj : j < A.length
    · rw [num_step hj] at h ⊢
      split at h
      · rename_i he
        rw [if_pos he]
        by_cases h0 : 0 < numRun (A.drop (j + 2))
        · have := ih (k - 2) (by omega) (j + 2) (by omega) h0
          rw [show j + (numRun (A.drop (j + 2)) + 2) - 1 = j + 2 + numRun (A.drop (j + 2)) - 1 by omega]
          exact this
        · rw [show j + (numRun (A.drop (j + 2)) + 2) - 1 = j + 1 by omega]
          have hd := of_decide_eq_true he
          intro e
          rw [e] at hd
          exact absurd hd.2 (by decide)
      · rename_i he
        rw [if_neg he]
        split at h
        · rename_i hn
          rw [if_pos hn]
          by_cases h0 : 0 < numRun (A.drop (j + 1))
          · have := ih (k - 1) (by omega) (j + 1) (by omega) h0
            rw [show j + (numRun (A.drop (j + 1)) + 1) - 1 = j + 1 + numRun (A.drop (j + 1)) - 1 by omega]
            exact this
          · rw [show j + (numRun (A.drop (j + 1)) + 1) - 1 = j by omega]
            intro e
            rw [e] at hn
            exact absurd hn (by decide)
        · omega
    · rw [num_end (by omega)] at h
      omega

theorem punct_tail {A : List UInt8} {i : Nat} (h : 0 < punctL A i) : chAt A (i + punctL A i - 1) ≠ 10 := by
  unfold punctL at h ⊢
  cases hf : punctsL.find? fun p => p.isPrefixOf (A.drop i) with
  | none => rw [hf] at h; simp at h
  | some p =>
    have hm := List.mem_of_find?_eq_some hf
    have hp := List.find?_some hf
    obtain ⟨r, hr⟩ := List.isPrefixOf_iff_prefix.1 hp
    have hl : 0 < p.length ∧ p.getD (p.length - 1) 0 ≠ 10 := (show ∀ p ∈ punctsL, 0 < p.length ∧ p.getD (p.length - 1) 0 ≠ 10 by decide) p hm
    simp only [Option.map_some, Option.getD_some]
    rw [show i + p.length - 1 = i + (p.length - 1) by omega]
    have : chAt A (i + (p.length - 1)) = p.getD (p.length - 1) 0 := by
      unfold chAt
      rw [List.getD_eq_getElem?_getD, List.getD_eq_getElem?_getD, ← List.getElem?_drop, ← hr, List.getElem?_append_left (by omega)]
    rw [this]
    exact hl.2

theorem next_tail {A : List UInt8} {i : Nat} (hi : i < A.length) (h10 : chAt A i ≠ 10) : chAt A ((nextL A i).2.1 - 1) ≠ 10 := by
  have hq : 0 ≤ lettersL A i → 0 < quotedL A (i + (lettersL A i).toNat) → chAt A (quotedL A (i + (lettersL A i).toNat) - 1) ≠ 10 := by
    intro h0 h1
    rw [quoted_tail h1]
    rcases (letters_quote (A := A) (i := i) (by omega)).2 with h | h <;> rw [h] <;> decide
  unfold nextL
  split
  · rename_i h; exact hq h.1 h.2.1
  · split
    · rename_i h; exact hq h.1 h.2
    · split
      · simpa using h10
      · split
        · rename_i hl
          simp only
          by_cases h0 : 0 < ((A.drop (i + 1)).takeWhile idB).length
          · have := while_tail A.length (i + 1) (by omega) h0
            intro e
            rw [e] at this
            exact absurd this (by decide)
          · rw [show i + 1 + ((A.drop (i + 1)).takeWhile idB).length - 1 = i by omega]
            exact h10
        · split
          · rename_i hn
            simp only
            unfold numL at hn ⊢
            split
            · by_cases h0 : 0 < numRun (A.drop (i + 1))
              · exact num_tail A.length (i + 1) (by omega) h0
              · rw [show i + 1 + numRun (A.drop (i + 1)) - 1 = i by omega]
                exact h10
            · rename_i h; rw [if_neg h] at hn; omega
          · split
            · rename_i h; exact punct_tail h
            · simpa using h10

theorem com_tail {A : List UInt8} : ∀ (k j e : Nat), A.length ≤ j + k → comEnd j (A.drop j) = some e → chAt A (e - 1) ≠ 10 := by
  intro k
  induction k with
  | zero => intro j e hk h; rw [com_end (by omega)] at h; cases h
  | succ k ih =>
    intro j e hk h
    by_cases hj : j < A.length
    · rw [com_step hj] at h
      split at h
      · rename_i hc
        injection h with h
        subst h
        rw [show j + 2 - 1 = j + 1 by omega, hc.2]
        decide
      · exact ih (j + 1) e (by omega) h
    · rw [com_end (by omega)] at h; cases h

theorem comment_tail {A : List UInt8} {i : Nat} (hi : i < (commentL A i).1) (ho : (commentL A i).2 = false) : chAt A ((commentL A i).1 - 1) ≠ 10 := by
  unfold commentL at hi ho ⊢
  split at hi
  · simp at hi
  · rename_i h47
    rw [if_neg h47] at ho ⊢
    split at hi
    · rename_i h2
      rw [if_pos h2]
      simp only at hi ⊢
      have := while_tail (p := (· != 10)) (A := A) A.length i (by omega) (by omega)
      simpa using this
    · rename_i h2
      rw [if_neg h2] at ho ⊢
      split at hi
      · simp at hi
      · rename_i h3
        rw [if_neg h3] at ho ⊢
        cases hc : comEnd (i + 2) (A.drop (i + 2)) with
        | none => rw [hc] at ho; simp at ho
        | some e =>
          simp only
          exact com_tail A.length (i + 2) e (by omega) hc

/-! ## what is told -/

def ToldA (s : LS) (st : NS) : Prop := st.ds = s.diags ∧ st.q < st.i
def ToldB (R : List Rn) (s : LS) (st : NS) : Prop := st.ds = s.diags ++ [⟨2, rF R st.i, rT R st.i⟩] ∧ st.q = st.i ∧ lettersL (cs R) st.i = 0 ∧ quotedL (cs R) st.i = 0
def Sim (R : List Rn) (st : NS) (s : LS) : Prop := s.i = st.i ∧ s.space = st.sp ∧ (ToldA s st ∨ ToldB R s st)

theorem letters_at {A : List UInt8} {j : Nat} (h : chAt A j = 34 ∨ chAt A j = 39) : lettersL A j = 0 := by
  unfold lettersL
  rw [if_pos h]

theorem letters0 {A : List UInt8} {i : Nat} (h : lettersL A i = 0) : chAt A i = 34 ∨ chAt A i = 39 := by
  have := (letters_quote (A := A) (i := i) (by omega)).2
  rw [h] at this
  simpa using this

theorem toldB_in {R : List Rn} {s : LS} {st : NS} (h : ToldB R s st) : st.i < R.length ∧ chAt (cs R) st.i ≠ 10 ∧ whiteB (chAt (cs R) st.i) = false ∧ ¬ st.i < (commentL (cs R) st.i).1 := by
  have h0 := letters0 h.2.2.1
  refine ⟨?_, ?_, ?_, ?_⟩
  · rw [← cs_len]
    apply ne0_lt
    rcases h0 with h | h <;> rw [h] <;> decide
  · rcases h0 with h | h <;> rw [h] <;> decide
  · rcases h0 with h | h <;> rw [h] <;> decide
  · unfold commentL
    rw [if_pos (by rcases h0 with h | h <;> rw [h] <;> decide)]
    simp

theorem skips_sim {R : List Rn} (n : Nat) {st t : NS} (h : Skips R st t) (hop : st.op = false) {s : LS} (hs : Sim R st s) :
    (t.op = false ∧ ∃ s', Sim R t s' ∧ linesFrom R n s = linesFrom R n s' ∧ s'.toks = s.toks ∧ s'.from_ = s.from_ ∧ s'.out = s.out ∧ (t.i = st.i ∨ chAt (cs R) (t.i - 1) ≠ 10)) ∨
    (t.op = true ∧ t.i = R.length ∧ linesFrom R n s = (s.out ++ [⟨s.toks, s.from_, n, true⟩], t.ds)) := by
  induction h with
  | refl => exact .inl ⟨hop, s, hs, rfl, rfl, rfl, rfl, .inl rfl⟩
  | @white t h hi hw ih =>
    rcases ih with ⟨h1, s', ⟨e1, e2, e3⟩, h2, h3, h4, h5, h6⟩ | ⟨_, h1, _⟩
    · refine .inl ⟨h1, ⟨t.i + 1, s'.toks, s'.from_, true, s'.out, s'.diags⟩, ⟨rfl, rfl, .inl ?_⟩, ?_, h3, h4, h5, .inr ?_⟩
      · rcases e3 with e3 | e3
        · exact ⟨e3.1, by have := e3.2; simp only; omega⟩
        · have := (toldB_in e3).2.2.1; rw [this] at hw; cases hw
      · rw [h2]
        refine linesFrom_inl (by rw [e1]; exact hi.1) ?_
        unfold lineStep
        rw [e1, if_neg hi.2, if_pos hw]
      · simpa using hi.2
    · have := hi.1; omega
  | @com t h hi hw hc ih =>
    rcases ih with ⟨h1, s', ⟨e1, e2, e3⟩, h2, h3, h4, h5, h6⟩ | ⟨_, h1, _⟩
    · have e4 : ToldA s' t := by
        rcases e3 with e3 | e3
        · exact e3
        · exact absurd hc (toldB_in e3).2.2.2
      have hlt : s'.i < R.length := by rw [e1]; exact hi.1
      cases ho : (commentL (cs R) t.i).2 with
      | true =>
        refine .inr ⟨rfl, ?_, ?_⟩
        · have := com_open_end ho; rw [cs_len] at this; exact this
        · rw [h2]
          refine linesFrom_inr hlt ?_
          unfold lineStep
          rw [e1, if_neg hi.2, if_neg (by rw [hw]; decide), if_pos hc, if_pos ho, h3, h4, h5, ← e4.1]
          simp
      | false =>
        refine .inl ⟨rfl, ⟨(commentL (cs R) t.i).1, s'.toks, s'.from_, true, s'.out, s'.diags⟩, ⟨rfl, rfl, .inl ⟨by simpa using e4.1, by have := e4.2; simp only; omega⟩⟩, ?_, h3, h4, h5, .inr (comment_tail hc ho)⟩
        rw [h2]
        refine linesFrom_inl hlt ?_
        unfold lineStep
        rw [e1, if_neg hi.2, if_neg (by rw [hw]; decide), if_pos hc, if_neg (by rw [ho]; decide)]
    · have := hi.1; omega

theorem tok_sim {R : List Rn} (n : Nat) {u : NS} (ht : AtTok R u) {s : LS} (hs : Sim R u s) :
    ∃ s', Sim R (afterTok R u) s' ∧ linesFrom R n s = linesFrom R n s' ∧ s'.toks = s.toks ++ [tokN R u] ∧ s'.from_ = s.from_ ∧ s'.out = s.out := by
  obtain ⟨e1, e2, e3⟩ := hs
  have hlt : s.i < R.length := by rw [e1]; exact ht.1.1
  have hlen := ht.len
  refine ⟨⟨(nextL (cs R) s.i).2.1, s.toks ++ [tokAt R s], s.from_, false, s.out, if (nextL (cs R) s.i).2.2 then s.diags ++ [⟨2, rF R s.i, rT R ((nextL (cs R) s.i).2.1 - 1)⟩] else s.diags⟩, ?_, ?_, ?_, rfl, rfl⟩
  · refine ⟨by rw [e1]; rfl, rfl, ?_⟩
    rw [e1]
    by_cases hneg : lettersL (cs R) u.i < 0
    · have e4 : ToldA s u := by
        rcases e3 with e3 | e3
        · exact e3
        · have := e3.2.2.1; omega
      have htb : tellB (cs R) u.i u.q = false := by unfold tellB; simp [hneg]
      have hbad : (nextL (cs R) u.i).2.2 = false := by
        unfold nextL
        rw [if_neg (by omega), if_neg (by omega), if_neg (by omega)]
        repeat' split
        all_goals rfl
      refine .inl ⟨?_, ?_⟩
      · simp only [afterTok, htb, hbad, Bool.false_eq_true, if_false, List.append_nil]
        exact e4.1
      · have := e4.2
        simp only [afterTok, htb, Bool.false_eq_true, if_false]
        omega
    · by_cases hz : quotedL (cs R) (u.i + (lettersL (cs R) u.i).toNat) = 0
      · have hcl : closesL (cs R) u.i (lettersL (cs R) u.i).toNat = 0 := by unfold closesL; simp [hz]
        by_cases hL0 : lettersL (cs R) u.i = 0
        · have hz' : quotedL (cs R) u.i = 0 := by rw [hL0] at hz; simpa using hz
          have hnx : nextL (cs R) u.i = (6, u.i + 1, true) := by
            unfold nextL
            rw [if_neg (by omega), if_neg (by omega), if_pos hL0]
          have hp : posN R u = u.i := by unfold posN; rw [hL0]; simp
          rcases e3 with e3 | e3
          · have htb : tellB (cs R) u.i u.q = true := by
              unfold tellB
              have := e3.2
              rw [decide_eq_true_eq]
              exact ⟨hneg, hcl, by omega⟩
            refine .inl ⟨?_, ?_⟩
            · simp only [afterTok, htb, hnx, if_true, hp, e3.1]
              simp
            · simp only [afterTok, htb, hnx, if_true, hp]
              omega
          · have htb : tellB (cs R) u.i u.q = false := by
              unfold tellB
              rw [decide_eq_false_iff_not]
              intro h
              apply h.2.2
              rw [e3.2.1, hL0]
              simp
            refine .inl ⟨?_, ?_⟩
            · simp only [afterTok, htb, hnx, Bool.false_eq_true, if_false, if_true, List.append_nil, e3.1]
              simp
            · simp only [afterTok, htb, hnx, Bool.false_eq_true, if_false, e3.2.1]
              omega
        · have e4 : ToldA s u := by
            rcases e3 with e3 | e3
            · exact e3
            · exact absurd e3.2.2.1 hL0
          have htb : tellB (cs R) u.i u.q = true := by
            unfold tellB
            have := e4.2
            rw [decide_eq_true_eq]
            exact ⟨hneg, hcl, by omega⟩
          obtain ⟨hlet, hend, hl2⟩ : letterB (chAt (cs R) u.i) = true ∧ u.i + 1 + (((cs R).drop (u.i + 1)).takeWhile idB).length = posN R u ∧ lettersL (cs R) (posN R u) = 0 := by
            have hq := letters_quote hneg
            unfold posN
            have hl0 : lettersL (cs R) (u.i + (lettersL (cs R) u.i).toNat) = 0 := letters_at hq.2
            rw [hl0]
            revert hq hL0 hneg
            clear hl0
            unfold lettersL
            split
            · intro h1 h2; omega
            · split
              · rename_i h8
                intro _ _ hq
                refine ⟨by rw [h8.1]; decide, ?_, rfl⟩
                rw [while_step (ne0_lt (by rw [h8.2.1]; decide)), h8.2.1, if_pos (by decide), while_step (ne0_lt (by rw [h8.2.2]; decide)), h8.2.2, if_neg (by decide)]
                rfl
              · split
                · rename_i h1
                  intro _ _ hq
                  refine ⟨by rcases h1.1 with h | h | h <;> rw [h] <;> decide, ?_, rfl⟩
                  rw [while_step (ne0_lt (by rcases h1.2 with h | h <;> rw [h] <;> decide)), if_neg (by rcases h1.2 with h | h <;> rw [h] <;> decide)]
                  rfl
                · intro _ h; omega
          have hnx : nextL (cs R) u.i = (1, posN R u, false) := by
            unfold nextL
            rw [if_neg (by omega), if_neg (by omega), if_neg hL0, if_pos hlet, hend]
          refine .inr ⟨?_, ?_, ?_, ?_⟩
          · simp only [afterTok, htb, hnx, if_true, Bool.false_eq_true, if_false, e4.1]
          · simp only [afterTok, htb, hnx, if_true]
          · simp only [afterTok, hnx]
            exact hl2
          · simp only [afterTok, hnx]
            exact hz
      · have hq := quotedL_le _ _ (Nat.pos_of_ne_zero hz)
        have e4 : ToldA s u := by
          rcases e3 with e3 | e3
          · exact e3
          · exfalso
            apply hz
            rw [e3.2.2.1]
            simpa using e3.2.2.2
        have htb : tellB (cs R) u.i u.q = false := by
          unfold tellB closesL
          rw [decide_eq_false_iff_not]
          intro h
          have := h.2.1
          rw [if_neg hz] at this
          omega
        have hbad : (nextL (cs R) u.i).2.2 = false := by
          unfold nextL
          by_cases h34 : chAt (cs R) (u.i + (lettersL (cs R) u.i).toNat) = 34
          · rw [if_pos ⟨by omega, by omega, h34⟩]
          · rw [if_neg (fun h => h34 h.2.2), if_pos ⟨by omega, by omega⟩]
        refine .inl ⟨?_, ?_⟩
        · simp only [afterTok, htb, hbad, Bool.false_eq_true, if_false, List.append_nil]
          exact e4.1
        · have := e4.2
          simp only [afterTok, htb, Bool.false_eq_true, if_false]
          omega
  · refine linesFrom_inl hlt ?_
    unfold lineStep
    rw [if_neg (by rw [e1]; exact ht.1.2), if_neg (by rw [e1, ht.2.1]; decide), if_neg (by rw [e1]; exact ht.2.2)]
  · simp only [tokAt, tokN, e1, e2]

theorem toks_sim {R : List Rn} (n : Nat) {s0 t : NS} {l : List Tk} (h : Toks R s0 t l) (hop : s0.op = false) {s : LS} (hs : Sim R s0 s) (hn : s.toks = []) :
    t.op = false ∧ ∃ s', Sim R t s' ∧ linesFrom R n s = linesFrom R n s' ∧ s'.toks = l ∧ s'.from_ = s.from_ ∧ s'.out = s.out ∧ (t.i = s0.i ∨ chAt (cs R) (t.i - 1) ≠ 10) := by
  induction h with
  | nil => exact ⟨hop, s, hs, rfl, hn, rfl, rfl, .inl rfl⟩
  | @snoc t u l h hk ht ih =>
    obtain ⟨h1, s', h2, h3, h4, h5, h6, h7⟩ := ih
    rcases skips_sim n hk h1 h2 with ⟨k1, s2, k2, k3, k4, k5, k6, k7⟩ | ⟨_, k1, _⟩
    · obtain ⟨s3, m1, m2, m3, m4, m5⟩ := tok_sim n ht k2
      exact ⟨rfl, s3, m1, h3.trans (k3.trans m2), by rw [m3, k4, h4], m4.trans (k5.trans h5), m5.trans (k6.trans h6), .inr (next_tail (by rw [cs_len]; exact ht.1.1) ht.1.2)⟩
    · have := ht.1.1; omega

theorem line_sim {R : List Rn} (n : Nat) (hR : chAt (cs R) (R.length - 1) = 10) {s0 t u : NS} {l : List Tk} (h : Toks R s0 t l) (hk : Skips R t u) (hu : ¬ AtIn R u) (hop : s0.op = false) (h0 : s0.i < R.length) {s : LS} (hs : Sim R s0 s) (hn : s.toks = []) :
    (u.op = false ∧ u.i < R.length ∧ u.q < u.i ∧ linesFrom R n s = linesFrom R n ⟨u.i + 1, [], rT R u.i, false, s.out ++ [⟨l, s.from_, rT R u.i, false⟩], u.ds⟩) ∨
    (u.op = true ∧ u.i = R.length ∧ linesFrom R n s = (s.out ++ [⟨l, s.from_, n, true⟩], u.ds)) := by
  obtain ⟨h1, s', h2, h3, h4, h5, h6, h7⟩ := toks_sim n h hop hs hn
  have hb := h.bound (Nat.le_of_lt h0)
  have hb2 := hk.bound hb.2.1
  rcases skips_sim n hk h1 h2 with ⟨k1, s2, ⟨k2a, k2b, k2c⟩, k3, k4, k5, k6, k7⟩ | ⟨k1, k2, k3⟩
  · have hlt : u.i < R.length := by
      rcases Nat.lt_or_ge u.i R.length with h8 | h8
      · exact h8
      · exfalso
        have hui : u.i = R.length := by omega
        rcases k7 with k7 | k7
        · rcases h7 with h7 | h7
          · omega
          · apply h7; rw [← k7, hui]; exact hR
        · apply k7; rw [hui]; exact hR
    have h10 : chAt (cs R) u.i = 10 := by
      apply Classical.byContradiction
      intro e
      exact hu ⟨hlt, e⟩
    have hA : ToldA s2 u := by
      rcases k2c with e | e
      · exact e
      · exact absurd h10 (toldB_in e).2.1
    refine .inl ⟨k1, hlt, hA.2, ?_⟩
    rw [h3, k3]
    refine linesFrom_inl (by rw [k2a]; exact hlt) ?_
    unfold lineStep
    rw [if_pos (by rw [k2a]; exact h10), k2a, k4, h4, k5, h5, k6, h6, hA.1]
  · refine .inr ⟨k1, k2, ?_⟩
    rw [h3, k3, h4, h5, h6]
end Go.Proofs.YtfaoamdlknlgpaaGreat
