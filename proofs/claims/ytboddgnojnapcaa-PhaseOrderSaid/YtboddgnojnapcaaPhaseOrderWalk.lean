/- PhaseOrder: the walk. -/
import Derived.Test.YtboddgnojnapcaaPhase5
import Derived.Test.YtboddgnojnapcaaPhSpec2
namespace Go.Proofs.Ytboddgnojnapcaa
open Go.RowKit
set_option linter.unusedVariables false

theorem plain_take {s : ByteArray} {k : Nat} (hk : k < s.size) : plainB (s.data.toList.take (k + 1)) = (plainB (s.data.toList.take k) && (s[k] != 63) && (s[k] != 92)) := by
  rw [List.take_add_one, ba_at s k hk, Option.toList_some, plainB_snoc]

theorem bne_lit (c : UInt8) {n : Nat} (hn : n < 256) : ((c.toNat : Int) != (n : Int)) = (c != n.toUInt8) := by
  rw [Bool.eq_iff_iff, bne_iff_ne, bne_iff_ne]
  constructor
  · intro h e; exact h (by rw [e]; simp; omega)
  · intro h e; exact h (u8_of hn e)

theorem back_id {s : ByteArray} (hs : s.size ≤ 1000000) (hp : plainB s.data.toList = true) (w : World) :
    Calls Try.prog 15 #[.string s, .int .i64 0, .int .i64 s.size] w fun e w' => e = .returned (.string s) ∧ Below w.heap.size w w' := by
  have := back_any s hs 0 s.size w
  rw [show ((s.size : Nat) : Int) = (s.data.toList.length : Nat) by rw [Lib.size_eq]] at this
  rw [backL_plain hp] at this
  rw [Lib.size_eq]
  exact this

set_option maxRecDepth 100000 in
set_option maxHeartbeats 4000000 in
theorem phaseOrder_walk (a0 : ByteArray) (w0 : a0.size ≤ maxLen) (w : World) :
    Calls Try.prog 4 #[.string a0] w fun e w' => e = .returned (.bool true) ∧ Below w.heap.size w w' := by
  clear w0
  by_cases hs : 4000 < a0.size
  · go_enter Try.func4, Try.ntmps4
    go_wp2_with (go_at_call 9; refine (awake_any _).mono ?_; rintro e w' ⟨rfl, hb⟩)
    go_ret
    exact ⟨rfl, hb⟩
  · have hs' : a0.size ≤ 1000000 := by omega
    go_enter Try.func4, Try.ntmps4
    go_wp2_with fail
    refine (chars_any _ hs' _).mono ?_
    rintro e w1 ⟨v1, rfl, hown1, hb1⟩
    obtain ⟨R, hR⟩ : ∃ R, charsL a0.data.toList = R := ⟨_, rfl⟩
    rw [hR] at hown1
    have hRl : R.length ≤ a0.size + 1 := by rw [← hR, Lib.size_eq]; exact charsL_len _
    have hRl' : (R.length : Int) ≤ (a0.size : Int) + 1 := by omega
    have HR := Lib.hid hR
    clear hR
    obtain ⟨ao1, cap1, rfl, _, _, hr1, _⟩ := hown1.rown (n := R.length) (by simp)
    clear hown1
    go_wp2
    go_loop [5, 6] (fun b i => ∃ k : Nat, k ≤ a0.size ∧ i = .int .i64 k ∧ b = .bool (plainB (a0.data.toList.take k))) (fun _ i => a0.size - (intOf i).toNat)
    case atStart => exact ⟨0, Nat.zero_le _, rfl, rfl⟩
    case round =>
      obtain ⟨k, hk, rfl, rfl⟩ := hrel
      by_cases hlt : k < a0.size
      · have hpt := plain_take hlt
        cases hp : plainB (a0.data.toList.take k)
        · rw [hp] at hpt
          have Hp := Lib.hid hpt; clear hp hpt
          go_wp2
          exact ⟨⟨k + 1, by omega, by go_num, by rw [Hp.out]; simp⟩, by simp [intOf]; omega⟩
        · rw [hp] at hpt
          have Hp := Lib.hid hpt; clear hp hpt
          go_wp2
          · have h63 := bne_lit (a0[k]) (n := 63) (by decide)
            have h92 := bne_lit (a0[k]) (n := 92) (by decide)
            refine ⟨⟨k + 1, by omega, by go_num, ?_⟩, by simp [intOf]; omega⟩
            rw [Hp.out]
            have e1 : ((a0[k]).toNat : Int) ≠ 63 := by assumption
            have e2 : (a0[k] != 63) = true := by
              have : (a0[k] != (63 : Nat).toUInt8) = true := by rw [← h63]; simpa using e1
              exact this
            have e3 : ((a0[k].toNat : Int) != 92) = (a0[k] != 92) := h92
            rw [e2, e3]
            rfl
          · refine ⟨⟨k + 1, by omega, by go_num, ?_⟩, by simp [intOf]; omega⟩
            rw [Hp.out]
            have e1 : ((a0[k]).toNat : Int) = 63 := by assumption
            rw [u8_of (n := 63) (by decide) e1]
            rfl
      · have hk' : k = a0.size := by omega
        rw [hk', Lib.size_eq, List.take_length]
        clear hk hk' hlt
        have hnil := charsL_nil a0.data.toList
        have Hnil := Lib.hid hnil; clear hnil
        by_cases h0 : a0.data.toList = []
        · have hR0 : R = [] := by rw [← HR.out]; exact Hnil.out.2 h0
          subst hR0
          have he : a0.toList.isEmpty = true := by rw [Lib.toList_data, h0]; rfl
          have hsz : a0.size = 0 := by rw [Lib.size_eq, h0]; rfl
          have hp : plainB a0.data.toList = true := by rw [h0]; rfl
          rw [hp]
          have Hp := Lib.hid hp; clear hp
          have H0 := Lib.hid h0; clear h0
          have Hsz := Lib.hid hsz; clear hsz
          go_wp2
          all_goals try (exfalso; omega)
          refine wp_loop_rounds 1 ?_
          rw [rounds_succ]
          go_wp2_with fail
          refine (back_id hs' Hp.out _).mono ?_
          rintro e w' ⟨rfl, hb3⟩
          have hb4 := bstep hb1 hb3 hb1.size
          clear hb3
          go_wp2_with fail
          refine (awake_any _).mono ?_
          rintro e w' ⟨rfl, hb5⟩
          go_wp2
          go_ret
          exact ⟨rfl, bstep hb4 hb5 hb4.size⟩
        · have hRp : 0 < R.length := by
            rw [← HR.out]
            rcases Nat.eq_zero_or_pos (charsL a0.data.toList).length with h | h
            · exact (h0 (Hnil.out.1 (List.eq_nil_of_length_eq_zero h))).elim
            · exact h
          have hz : ((R.length : Int) == 0) = false := beq_eq_false_iff_ne.2 (by omega)
          have he : a0.toList.isEmpty = false := by rw [Lib.toList_data]; simpa using h0
          have H0 := Lib.hid h0; clear h0
          obtain ⟨init, rl, hlast, hlc⟩ := charsL_last a0.data.toList H0.out
          rw [HR.out] at hlast
          have Hlast := Lib.hid hlast; clear hlast
          have Hlc := Lib.hid hlc; clear hlc
          cases hp : plainB a0.data.toList
          · have Hp := Lib.hid hp; clear hp
            go_wp2
            all_goals try (exfalso; omega)
            go_loopw [4, 7] (fun p i w2 => ∃ k : Nat, k ≤ R.length ∧ i = .int .i64 k ∧ p = .int .i64 (atOf R k) ∧ Below w1.heap.size w1 w2) (fun _ i _ => R.length - (intOf i).toNat)
            case atStart => exact ⟨0, Nat.zero_le _, rfl, by rw [atOf_zero]; rfl, Below.refl _ _⟩
            case round =>
              obtain ⟨k, hk, rfl, rfl, hb2⟩ := hrel
              by_cases hlt : k < R.length
              · obtain ⟨r, hr⟩ : ∃ r, R[k]? = some r := ⟨R[k], by simp [hlt]⟩
                obtain ⟨f1, f2, f3, f4⟩ := charsL_at a0.data.toList (k := k) (r := r) (by rw [HR.out]; exact hr)
                rw [HR.out] at f1
                rw [← Lib.size_eq] at f3
                have f5 : (r.t : Int) - (r.f : Int) ≤ 3 := by omega
                have f6 : decide (3 < (r.t : Int) - (r.f : Int)) = false := by simp; omega
                have f7 : IntKind.i64.wrap ((r.t : Int) - (r.f : Int)) = (r.t : Int) - (r.f : Int) := IntWalk.i64_in _ (by omega)
                have f8 : IntKind.i64.wrap ((k : Int) + 1) = (k : Int) + 1 := IntWalk.i64_in _ (by omega)
                have hnext := atOf_succ hr
                have Hnext := Lib.hid hnext; clear hnext
                obtain ⟨b, o, rfl, hat⟩ := (hr1.below hb2) (by intro h; simp at h; subst h; simp at hlt)
                have hi : (R.map Rn.v)[k]? = some r.v := by simp [hr]
                have c0 := hat.cell hi (j := 0) (u := .int .u8 r.c.toNat) rfl
                have c1 := hat.cell hi (j := 1) (u := .int .i64 r.f) rfl
                have c2 := hat.cell hi (j := 2) (u := .int .i64 r.t) rfl
                simp only [Nat.add_zero] at c0
                generalize atOf R k = m at *
                have g1 : decide (r.f < m) = false := by simp; omega
                have g2 : decide (r.t < r.f) = false := by simp; omega
                have g3 : decide (a0.size < r.t) = false := by simp; omega
                clear hat hi hr1
                have Hr := Lib.hid hr; clear hr
                go_wp2
                go_quiet (fail)
                go_wp2
                go_quiet (fail)
                go_wp2
                exact ⟨⟨k + 1, by omega, rfl, congrArg (fun n : Nat => Value.int .i64 n) Hnext.out.symm, below_drewN hb2 _⟩, by simp [intOf]; omega⟩
              · obtain rfl : k = R.length := by omega
                have hR1 : R[R.length - 1]? = some rl := by rw [Hlast.out]; simp
                obtain ⟨b, o, rfl, hat⟩ := (hr1.below hb2) (by intro h; simp at h; subst h; simp at hRp)
                have c0 := hat.cell (i := R.length - 1) (cs := rl.v) (by simp [hR1]) (j := 0) (u := .int .u8 rl.c.toNat) rfl
                rw [Hlc.out] at c0
                have c0' : wr.cell? ⟨b, o + (R.length - 1) * 3, none⟩ = some (.int .u8 10) := c0
                have hbb := bstep hb1 hb2 hb1.size
                clear hk hlt c0 hat hR1 hr1 hb2 hb1
                go_wp2_with (go_at_call 9; refine (awake_any _).mono ?_; rintro e w' ⟨rfl, hb3⟩)
                go_ret
                exact ⟨rfl, bstep hbb hb3 hbb.size⟩
          · have Hp := Lib.hid hp; clear hp
            go_wp2
            all_goals try (exfalso; omega)
            go_loopw [4, 7] (fun p i w2 => ∃ k : Nat, k ≤ R.length ∧ i = .int .i64 k ∧ p = .int .i64 (atOf R k) ∧ Below w1.heap.size w1 w2) (fun _ i _ => R.length - (intOf i).toNat)
            case atStart => exact ⟨0, Nat.zero_le _, rfl, by rw [atOf_zero]; rfl, Below.refl _ _⟩
            case round =>
              obtain ⟨k, hk, rfl, rfl, hb2⟩ := hrel
              by_cases hlt : k < R.length
              · obtain ⟨r, hr⟩ : ∃ r, R[k]? = some r := ⟨R[k], by simp [hlt]⟩
                obtain ⟨f1, f2, f3, f4⟩ := charsL_at a0.data.toList (k := k) (r := r) (by rw [HR.out]; exact hr)
                rw [HR.out] at f1
                rw [← Lib.size_eq] at f3
                have f5 : (r.t : Int) - (r.f : Int) ≤ 3 := by omega
                have f6 : decide (3 < (r.t : Int) - (r.f : Int)) = false := by simp; omega
                have f7 : IntKind.i64.wrap ((r.t : Int) - (r.f : Int)) = (r.t : Int) - (r.f : Int) := IntWalk.i64_in _ (by omega)
                have f8 : IntKind.i64.wrap ((k : Int) + 1) = (k : Int) + 1 := IntWalk.i64_in _ (by omega)
                have hnext := atOf_succ hr
                have Hnext := Lib.hid hnext; clear hnext
                obtain ⟨b, o, rfl, hat⟩ := (hr1.below hb2) (by intro h; simp at h; subst h; simp at hlt)
                have hi : (R.map Rn.v)[k]? = some r.v := by simp [hr]
                have c0 := hat.cell hi (j := 0) (u := .int .u8 r.c.toNat) rfl
                have c1 := hat.cell hi (j := 1) (u := .int .i64 r.f) rfl
                have c2 := hat.cell hi (j := 2) (u := .int .i64 r.t) rfl
                simp only [Nat.add_zero] at c0
                generalize atOf R k = m at *
                have g1 : decide (r.f < m) = false := by simp; omega
                have g2 : decide (r.t < r.f) = false := by simp; omega
                have g3 : decide (a0.size < r.t) = false := by simp; omega
                clear hat hi hr1
                by_cases hks : k < a0.size
                · have hrr := charsL_plain Hp.out (k := k) (ba_at a0 k hks)
                  rw [HR.out, hr] at hrr
                  obtain rfl := Option.some.inj hrr
                  clear hr hrr
                  simp only at c0 c1 c2 f1 f2 f3 f4 f5 f6 f7 g1 g2 g3
                  have c3 : wr.cell? ⟨b, o + k * 3 + 2, none⟩ = some (.int .i64 ((k : Int) + 1)) := c2
                  have f9 : IntKind.i64.wrap ((k : Int) + 1 - (k : Int)) = 1 := by rw [show (k : Int) + 1 - (k : Int) = 1 by omega]; rfl
                  clear c2 f4 f5 f6 f7 g2 g3
                  have g2 : decide ((k : Int) + 1 < (k : Int)) = false := by simp; omega
                  have g3 : decide ((a0.size : Int) < (k : Int) + 1) = false := by simp; omega
                  have g4 : decide (k < a0.size) = true := by simpa using hks
                  go_wp2
                  go_quiet (fail)
                  go_wp2
                  go_quiet (fail)
                  go_wp2
                  exact ⟨⟨k + 1, by omega, rfl, congrArg (fun n : Nat => Value.int .i64 n) Hnext.out.symm, below_drewN hb2 _⟩, by simp [intOf]; omega⟩
                · have Hr := Lib.hid hr; clear hr
                  go_wp2
                  go_quiet (fail)
                  go_wp2
                  go_quiet (fail)
                  go_wp2
                  exact ⟨⟨k + 1, by omega, rfl, congrArg (fun n : Nat => Value.int .i64 n) Hnext.out.symm, below_drewN hb2 _⟩, by simp [intOf]; omega⟩
              · obtain rfl : k = R.length := by omega
                have hR1 : R[R.length - 1]? = some rl := by rw [Hlast.out]; simp
                obtain ⟨b, o, rfl, hat⟩ := (hr1.below hb2) (by intro h; simp at h; subst h; simp at hRp)
                have c0 := hat.cell (i := R.length - 1) (cs := rl.v) (by simp [hR1]) (j := 0) (u := .int .u8 rl.c.toNat) rfl
                rw [Hlc.out] at c0
                have c0' : wr.cell? ⟨b, o + (R.length - 1) * 3, none⟩ = some (.int .u8 10) := c0
                have hbb := bstep hb1 hb2 hb1.size
                clear hk hlt c0 hat hR1 hr1 hb2 hb1
                go_wp2_with fail
                refine (back_id hs' Hp.out _).mono ?_
                rintro e w' ⟨rfl, hb3⟩
                have hb4 := bstep hbb hb3 hbb.size
                clear hb3
                go_wp2_with fail
                refine (awake_any _).mono ?_
                rintro e w' ⟨rfl, hb5⟩
                go_wp2
                go_ret
                exact ⟨rfl, bstep hb4 hb5 hb4.size⟩
end Go.Proofs.Ytboddgnojnapcaa
