/- PhaseChars: the walk. -/
import Derived.Test.YtboddgnojnapcaaPhase5
namespace Go.Proofs.Ytboddgnojnapcaa
open Go.RowKit
set_option linter.unusedVariables false

set_option maxHeartbeats 1000000 in
theorem phaseChars_walk (a0 : ByteArray) (w0 : a0.size ≤ maxLen) (a1 : Int) (w1 : (Lit.int .i64 a1).wf = true) (a2 : Int) (w2 : (Lit.int .i64 a2).wf = true) (a3 : Int) (w3 : (Lit.int .u8 a3).wf = true) (w : World) :
    Calls Try.prog 3 #[.string a0, .int .i64 a1, .int .i64 a2, .int .u8 a3] w fun e w' => e = .returned (.bool true) ∧ Below w.heap.size w w' := by
  obtain ⟨c, rfl⟩ := u8_arg w3
  clear w0 w1 w2 w3
  by_cases hs : 4000 < a0.size
  · go_enter Try.func3, Try.ntmps3
    go_wp2_with (go_at_call 9; refine (awake_any _).mono ?_; rintro e w' ⟨rfl, hb⟩)
    go_ret
    exact ⟨rfl, hb⟩
  · have hs' : a0.size ≤ 1000000 := by omega
    go_enter Try.func3, Try.ntmps3
    go_wp2_with fail
    refine (trigraph_any c _).mono ?_
    rintro e w' ⟨rfl, rfl⟩
    go_wp2_with fail
    refine (rtri_any c _).mono ?_
    rintro e w' ⟨rfl, rfl⟩
    go_wp2_with fail
    refine (chars_any _ hs' _).mono ?_
    rintro e w1 ⟨v1, rfl, hown1, hb1⟩
    obtain ⟨ao1, cap1, rfl, _, _, hr1, _⟩ := hown1.rown (n := (charsL a0.data.toList).length) (by simp)
    go_wp2_with fail
    refine (rchars_any _ hs' _).mono ?_
    rintro e w2 ⟨v2, rfl, hown2, hb2⟩
    obtain ⟨ao2, cap2, rfl, _, _, hr2, _⟩ := hown2.rown (n := (charsL a0.data.toList).length) (by simp)
    have hb12 := bstep hb1 hb2 hb1.size
    have hr1' := hr1.below hb2
    clear hown1 hown2 hr1 hb1 hb2
    go_wp2_with fail
    refine (same_yes _ _ _ _ _ (by have := charsL_len a0.data.toList; rw [← Lib.size_eq] at this; omega) _ hr1' hr2).mono ?_
    rintro e w3 ⟨rfl, hb3⟩
    have hb13 := bstep hb12 hb3 hb12.size
    clear hb12 hb3 hr1' hr2
    go_wp2_with fail
    refine (back_any _ hs' _ _ _).mono ?_
    rintro e w4 ⟨rfl, hb4⟩
    have hb14 := bstep hb13 hb4 hb13.size
    clear hb13 hb4
    go_wp2_with fail
    refine (rback_any _ hs' _ _ _).mono ?_
    rintro e w5 ⟨rfl, hb5⟩
    have hb15 := bstep hb14 hb5 hb14.size
    clear hb14 hb5
    go_wp2_with fail
    refine (awake_any _).mono ?_
    rintro e w6 ⟨rfl, hb6⟩
    go_wp2
    go_ret
    exact ⟨rfl, bstep hb15 hb6 hb15.size⟩
end Go.Proofs.Ytboddgnojnapcaa
