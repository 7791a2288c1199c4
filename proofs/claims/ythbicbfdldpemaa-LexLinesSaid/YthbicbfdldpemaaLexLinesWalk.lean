/- LexLines: the walk. -/
import Derived.Test.YthbicbfdldpemaaLw22
import Derived.Test.YthbicbfdldpemaaLx9
import Derived.Test.YthbicbfdldpemaaLexLinesSpec
namespace Go.Proofs.Ythbicbfdldpemaa
open Go.RowKit
set_option linter.unusedVariables false

theorem LnsAt.shape {w : World} {S : Nat} {file : ByteArray} {ls : List Ln} {css : List (List Value)} (h : LnsAt w S file ls css) : ∀ c ∈ css, ∃ (ao : Option Addr) (n k f t : Nat) (op : Bool), c = [.slice ao n k, .int .i64 f, .int .i64 t, .bool op] := by
  induction h with
  | nil => intro c hc; cases hc
  | cons h r ih =>
    intro c hc
    rcases List.mem_cons.1 hc with rfl | hc
    · obtain ⟨ao, cap, e, _⟩ := h
      exact ⟨_, _, _, _, _, _, e⟩
    · exact ih c hc

set_option maxHeartbeats 2000000 in
theorem lexLines_walk (a0 : ByteArray) (w0 : a0.size ≤ maxLen) (a1 : ByteArray) (w1 : a1.size ≤ maxLen) (w : World) :
    Calls Try.prog 6 #[.string a0, .string a1] w fun e w' => e = .returned (.bool true) ∧ Below w.heap.size w w' := by
  clear w0 w1
  by_cases h1 : 3000 < a1.size
  · have e1 : (3000 : Int) < (a1.size : Int) := by omega
    go_enter Try.func6, Try.ntmps6
    go_wp2_with (go_at_call 22; refine (lexAwake_any _).mono ?_; rintro e w' ⟨rfl, hb⟩)
    go_ret
    exact ⟨rfl, hb⟩
  · have e1 : ¬ (3000 : Int) < (a1.size : Int) := by omega
    by_cases h2 : 100 < a0.size
    · have e2 : (100 : Int) < (a0.size : Int) := by omega
      go_enter Try.func6, Try.ntmps6
      go_wp2_with (go_at_call 22; refine (lexAwake_any _).mono ?_; rintro e w' ⟨rfl, hb⟩)
      go_ret
      exact ⟨rfl, hb⟩
    · have hs : a1.size ≤ 1000000 := by omega
      have e2 : ¬ (100 : Int) < (a0.size : Int) := by omega
      obtain ⟨hlt, hll, hld⟩ := linesL_lens a1.data.toList
      rw [← Lib.size_eq] at hlt hll hld
      go_enter Try.func6, Try.ntmps6
      go_wp2_with fail
      refine (lines_any a0 a1 hs _).mono ?_
      rintro e v1 ⟨vo, vd, lcs, rfl, hO1, hL1, hD1, hb1⟩
      have hlc1 := hL1.len
      obtain ⟨oa1, oc1, rfl, hoc1, _, hor1, _⟩ := hO1.rown (n := (linesL a1.data.toList).1.length) (by rw [hlc1])
      obtain ⟨da1, dc1, rfl, hdc1, _, hdr1, _⟩ := hD1.rown (n := (linesL a1.data.toList).2.length) (by simp)
      go_wp2_with fail
      refine (rLines_any a0 a1 hs _).mono ?_
      rintro e v2 ⟨vo, vd, lcs2, rfl, hO2, hL2, hD2, hb2⟩
      have hlc2 := hL2.len
      obtain ⟨oa2, oc2, rfl, hoc2, _, hor2, _⟩ := hO2.rown (n := (linesL a1.data.toList).1.length) (by rw [hlc2])
      obtain ⟨da2, dc2, rfl, hdc2, _, hdr2, _⟩ := hD2.rown (n := (linesL a1.data.toList).2.length) (by simp)
      have hL1' := (hL1.kept (KeptTok.below hb2)).mono hb2.size
      have hb12 := hb1.trans (hb2.mono hb1.size)
      have hor1' := hor1.below hb2
      have hdr1' := hdr1.below hb2
      have HF := flat_any lcs hL1.shape oa1 oc1 (by omega) (by omega) v2 hor1'
      rw [hlc1] at HF
      clear hO1 hO2 hD1 hD2 hL1 hor1 hdr1 hb1 hb2
      go_wp2_with fail
      refine HF.mono ?_
      rintro e v3 ⟨vf, rfl, hO3, hb3⟩
      obtain ⟨oa3, oc3, rfl, hoc3, _, hor3, _⟩ := hO3.rown (n := (linesL a1.data.toList).1.length) (by rw [hlc1])
      have hL13 := (hL1'.kept (KeptTok.below hb3)).mono hb3.size
      have hL23 := (hL2.kept (KeptTok.below hb3)).mono hb3.size
      have hb13 := hb12.trans (hb3.mono hb12.size)
      have hor2' := hor2.below hb3
      have hdr1'' := hdr1'.below hb3
      have hdr2' := hdr2.below hb3
      have HS := sameLines_any a0 (linesL a1.data.toList).1 oa3 oa2 oc3 oc2 v3.heap.size lcs lcs2 (by omega) (by omega) (by omega) (fun l hl => by have := hlt l hl; omega) v3 (Nat.le_refl _) hL13 hL23 hor3 hor2'
      clear hO3 hL1' hL2 hor1' hor2 hdr1' hdr2 hb12 hb3 HF
      go_wp2_with fail
      refine HS.mono ?_
      rintro e v4 ⟨rfl, hb4⟩
      have hb14 := hb13.trans (hb4.mono hb13.size)
      have HD := sameDiags_any a0 (linesL a1.data.toList).2 da1 da2 dc1 dc2 (by omega) (by simpa using hdc1) (by simpa using hdc2) v4 (hdr1''.below hb4) (hdr2'.below hb4)
      clear hL13 hL23 hor3 hor2' HS hb4 hb13
      go_wp2_with fail
      refine HD.mono ?_
      rintro e v5 ⟨rfl, hb5⟩
      have hb15 := hb14.trans (hb5.mono hb14.size)
      go_wp2_with fail
      refine (lexAwake_any _).mono ?_
      rintro e v6 ⟨rfl, hb6⟩
      go_wp2
      go_ret
      exact ⟨rfl, hb15.trans (hb6.mono hb15.size)⟩
end Go.Proofs.Ythbicbfdldpemaa
