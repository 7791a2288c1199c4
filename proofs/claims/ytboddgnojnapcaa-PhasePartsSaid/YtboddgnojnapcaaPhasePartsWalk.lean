/- PhaseParts: the walk. -/
import Derived.Test.YtboddgnojnapcaaPhase5
import Derived.Test.YtboddgnojnapcaaPhSpec3
namespace Go.Proofs.Ytboddgnojnapcaa
open Go.RowKit
set_option linter.unusedVariables false

theorem app_data (a b : ByteArray) : (a ++ b).data.toList = a.data.toList ++ b.data.toList := by
  obtain ⟨⟨l⟩⟩ := a
  obtain ⟨⟨m⟩⟩ := b
  rw [ByteArray.data_append]
  simp

theorem app_mk (X Y : List UInt8) : (⟨(X ++ Y).toArray⟩ : ByteArray) = ⟨X.toArray⟩ ++ ⟨Y.toArray⟩ := by
  apply ByteArray.ext
  rw [ByteArray.data_append]
  simp

theorem cut_of {a : ByteArray} (h1 : ∀ h : 0 < a.size, ((a[a.size - 1]'(by omega)).toNat : Int) ≠ 63 ∧ ((a[a.size - 1]'(by omega)).toNat : Int) ≠ 92) (h2 : 2 < a.size → ((a.extract (a.size - 3) a.size).toList == [63, 63, 47]) = false) : cutB a.data.toList = true := by
  have hlast : ∀ c, a.data.toList.getLast? = some c → (c.toNat : Int) ≠ 63 ∧ (c.toNat : Int) ≠ 92 := by
    intro c hc
    have hp : 0 < a.size := by
      rw [Lib.size_eq]
      cases hl : a.data.toList with
      | nil => rw [hl] at hc; simp at hc
      | cons x r => simp
    have := h1 hp
    rw [List.getLast?_eq_getElem?, ← Lib.size_eq, ba_at a (a.size - 1) (by omega)] at hc
    rw [← Option.some.inj hc]
    exact this
  simp only [cutB, Bool.and_eq_true, bne_iff_ne, ne_eq, Bool.not_eq_true', Bool.eq_false_iff, List.isSuffixOf_iff_suffix]
  refine ⟨⟨fun h => (hlast _ h).1 rfl, fun h => (hlast _ h).2 rfl⟩, fun h => ?_⟩
  have hn : 2 < a.size := by have := h.length_le; rw [← Lib.size_eq] at this; simp at this; omega
  have h3 := h2 hn
  rw [Lib.toList_data, Lib.extract_data, List.take_of_length_le (by rw [List.length_drop, Lib.size_eq]; omega)] at h3
  rw [List.suffix_iff_eq_drop, ← Lib.size_eq] at h
  simp only [List.length_cons, List.length_nil, Nat.zero_add, Nat.reduceAdd] at h
  rw [← h] at h3
  simp at h3

theorem app_size {a b : ByteArray} (ha : a.size ≤ 1500) (hb : b.size ≤ 1500) : (a ++ b).size ≤ 1000000 := by rw [ByteArray.size_append]; omega

theorem pA {a x : ByteArray} (ha : a.size ≤ 1500) (hx : (⟨(backL a.data.toList 0 a.size).toArray⟩ : ByteArray) = x) (w : World) : Calls Try.prog 15 #[.string a, .int .i64 0, .int .i64 a.size] w fun e w' => e = .returned (.string x) ∧ Below w.heap.size w w' := by
  subst hx; exact back_any a (by omega) 0 a.size w

theorem pAll {a b x y : ByteArray} (ha : a.size ≤ 1500) (hb : b.size ≤ 1500) (hc : cutB a.data.toList = true) (hx : (⟨(backL a.data.toList 0 a.size).toArray⟩ : ByteArray) = x) (hy : (⟨(backL b.data.toList 0 b.size).toArray⟩ : ByteArray) = y) (w : World) : Calls Try.prog 15 #[.string (a ++ b), .int .i64 0, .int .i64 ((a.size : Int) + b.size)] w fun e w' => e = .returned (.string (x ++ y)) ∧ Below w.heap.size w w' := by
  have h := back_any (a ++ b) (app_size ha hb) 0 ((a.size : Int) + b.size) w
  rw [app_data] at h
  have e := (back_parts b.data.toList hc).1
  rw [← Lib.size_eq, ← Lib.size_eq] at e
  rw [e, app_mk, hx, hy] at h
  exact h

theorem pA2 {a b x : ByteArray} (ha : a.size ≤ 1500) (hb : b.size ≤ 1500) (hc : cutB a.data.toList = true) (hx : (⟨(backL a.data.toList 0 a.size).toArray⟩ : ByteArray) = x) (w : World) : Calls Try.prog 15 #[.string (a ++ b), .int .i64 0, .int .i64 a.size] w fun e w' => e = .returned (.string x) ∧ Below w.heap.size w w' := by
  have h := back_any (a ++ b) (app_size ha hb) 0 a.size w
  rw [app_data] at h
  have e := (back_parts b.data.toList hc).2.1
  rw [← Lib.size_eq] at e
  rw [e, hx] at h
  exact h

theorem pB2 {a b y : ByteArray} (ha : a.size ≤ 1500) (hb : b.size ≤ 1500) (hc : cutB a.data.toList = true) (hy : (⟨(backL b.data.toList 0 b.size).toArray⟩ : ByteArray) = y) (w : World) : Calls Try.prog 15 #[.string (a ++ b), .int .i64 a.size, .int .i64 ((a.size : Int) + b.size)] w fun e w' => e = .returned (.string y) ∧ Below w.heap.size w w' := by
  have h := back_any (a ++ b) (app_size ha hb) a.size ((a.size : Int) + b.size) w
  rw [app_data] at h
  have e := (back_parts b.data.toList hc).2.2
  rw [← Lib.size_eq, ← Lib.size_eq] at e
  rw [e, hy] at h
  exact h

set_option maxHeartbeats 2000000 in
theorem phaseParts_walk (a : ByteArray) (w0 : a.size ≤ maxLen) (b : ByteArray) (w1 : b.size ≤ maxLen) (w : World) :
    Calls Try.prog 5 #[.string a, .string b] w fun e w' => e = .returned (.bool true) ∧ Below w.heap.size w w' := by
  clear w0 w1
  obtain ⟨x, hx⟩ : ∃ x, (⟨(backL a.data.toList 0 a.size).toArray⟩ : ByteArray) = x := ⟨_, rfl⟩
  obtain ⟨y, hy⟩ : ∃ y, (⟨(backL b.data.toList 0 b.size).toArray⟩ : ByteArray) = y := ⟨_, rfl⟩
  have hxs : x.size ≤ a.size := by
    rw [← hx, Lib.size_eq]
    simp only [backL]
    have := pickL_len (standL a.data.toList) 0 a.size
    have := standL_len a.data.toList
    rw [← Lib.size_eq] at this
    omega
  have hys : y.size ≤ b.size := by
    rw [← hy, Lib.size_eq]
    simp only [backL]
    have := pickL_len (standL b.data.toList) 0 b.size
    have := standL_len b.data.toList
    rw [← Lib.size_eq] at this
    omega
  have Hx := Lib.hid hx; clear hx
  have Hy := Lib.hid hy; clear hy
  go_enter Try.func5, Try.ntmps5
  go_wp2_with fail
  all_goals first
    | (go_at_call 9; refine (awake_any _).mono ?_; rintro e w1 ⟨rfl, hb1⟩; go_wp2; go_ret; exact ⟨rfl, hb1⟩)
    | (have ha : a.size ≤ 1500 := by omega
       have hb : b.size ≤ 1500 := by omega
       have hc : cutB a.data.toList = true := by
         refine cut_of (fun _ => ?_) (fun _ => ?_)
         · first | (exfalso; omega) | exact ⟨by assumption, by assumption⟩
         · first | (exfalso; omega) | assumption
       have Hc := Lib.hid hc; clear hc
       refine (pAll ha hb Hc.out Hx.out Hy.out _).mono ?_
       rintro e w1 ⟨rfl, hb1⟩
       go_wp2_with fail
       refine (pA ha Hx.out _).mono ?_
       rintro e w2 ⟨rfl, hb2⟩
       have hb12 := bstep hb1 hb2 hb1.size
       clear hb1 hb2
       go_wp2_with fail
       refine (pA hb Hy.out _).mono ?_
       rintro e w3 ⟨rfl, hb3⟩
       have hb13 := bstep hb12 hb3 hb12.size
       clear hb12 hb3
       go_wp2_with fail
       refine (pA2 ha hb Hc.out Hx.out _).mono ?_
       rintro e w4 ⟨rfl, hb4⟩
       have hb14 := bstep hb13 hb4 hb13.size
       clear hb13 hb4
       go_wp2_with fail
       refine (pB2 ha hb Hc.out Hy.out _).mono ?_
       rintro e w5 ⟨rfl, hb5⟩
       have hb15 := bstep hb14 hb5 hb14.size
       clear hb14 hb5
       go_wp2_with fail
       refine (awake_any _).mono ?_
       rintro e w6 ⟨rfl, hb6⟩
       go_wp2
       go_ret
       exact ⟨rfl, bstep hb15 hb6 hb15.size⟩)
end Go.Proofs.Ytboddgnojnapcaa
