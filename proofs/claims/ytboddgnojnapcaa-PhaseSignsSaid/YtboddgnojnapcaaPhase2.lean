/- Chapter 4, on: phase.Chars, Back. -/
import Derived.Test.YtboddgnojnapcaaPhase
import Derived.Test.YtboddgnojnapcaaBuilder
namespace Go.Proofs.Ytboddgnojnapcaa
open Go.RowKit

theorem map_len {l : List Rn} : (l.map Rn.v).length = l.length := List.length_map ..

set_option maxHeartbeats 1000000 in
theorem chars_any (s : ByteArray) (hs : s.size ≤ 1000000) (w : World) :
    Calls Try.prog 13 #[.string s] w fun e w' => ∃ v, e = .returned v ∧ Own w' w.heap.size 33 3 v ((charsL s.data.toList).map Rn.v) ∧ Below w.heap.size w w' := by
  have hl : (standL s.data.toList).length ≤ s.size := by rw [Lib.size_eq]; exact standL_len _
  by_cases h0 : s.toList.isEmpty = true
  · go_enter Try.func13, Try.ntmps13
    go_wp2_with fail
    refine (stand_any s hs w).mono ?_
    rintro e w1 ⟨v, rfl, hown, hb⟩
    go_wp2
    go_ret
    refine ⟨v, rfl, ?_, hb⟩
    have : s.data.toList = [] := by rw [← Lib.toList_data]; simpa using h0
    unfold charsL
    rw [if_neg (by simp [this])]
    exact hown
  · have h0' : s.toList.isEmpty = false := by simpa using h0
    have hne : s.data.toList ≠ [] := by rw [← Lib.toList_data]; simpa using h0'
    rcases List.eq_nil_or_concat (standL s.data.toList) with hn | ⟨init, r, hn⟩
    · have H := Lib.hid hn; clear hn h0 hl
      have HN := Lib.hid hne; clear hne
      go_enter Try.func13, Try.ntmps13
      go_wp2_with fail
      refine (stand_any s hs w).mono ?_
      rintro e w1 ⟨v, rfl, hown, hb⟩
      rw [H.out] at hown
      obtain ⟨ao, cap, rfl, _, _, _, hnone⟩ := hown.rown rfl
      go_wp2_with (at_builtin; go_must (refine wpList_append1 E26 rfl rfl hown rfl rfl (by simp) rfl (by simp [Value.oneCell']) (by simp) (by decide) (by have := hb.size; simp; omega) ?_); intro v2 w2 hown2 hg2)
      go_ret
      refine ⟨v2, rfl, ?_, bapp hb hown hg2 hb.size⟩
      unfold charsL
      rw [if_pos ⟨HN.out, .inl H.out⟩, H.out]
      exact hown2.last (by simp [Rn.v])
    · rw [List.concat_eq_append] at hn
      have hil : init.length + 1 ≤ s.size := by rw [hn] at hl; simpa using hl
      have H := Lib.hid hn; clear hn h0 hl
      have HN := Lib.hid hne; clear hne
      by_cases h10 : (r.c.toNat : Int) = 10
      · go_enter Try.func13, Try.ntmps13
        go_wp2_with fail
        refine (stand_any s hs w).mono ?_
        rintro e w1 ⟨v, rfl, hown, hb⟩
        rw [H.out] at hown
        obtain ⟨ao, cap, rfl, _, _, hrow, _⟩ := hown.rown (n := init.length + 1) (by simp)
        obtain ⟨b, o, rfl, hat⟩ := hrow (by simp)
        have hc := hat.cell (i := init.length) (cs := r.v) (by simp) (j := 0) (u := .int .u8 r.c.toNat) (by simp [Rn.v])
        have h10' : ((r.c.toNat : Int) == 10) = true := by simp [h10]
        clear hrow hat
        simp only [Nat.add_zero] at hc
        rw [h10] at hc h10'
        go_wp2
        go_ret
        refine ⟨_, rfl, ?_, hb⟩
        have hr : r.c = 10 := u8_of (n := 10) (by decide) h10
        unfold charsL
        rw [if_neg (by rw [H.out]; simp [hr]), H.out]
        exact hown
      · go_enter Try.func13, Try.ntmps13
        go_wp2_with fail
        refine (stand_any s hs w).mono ?_
        rintro e w1 ⟨v, rfl, hown, hb⟩
        rw [H.out] at hown
        obtain ⟨ao, cap, rfl, _, _, hrow, _⟩ := hown.rown (n := init.length + 1) (by simp)
        obtain ⟨b, o, rfl, hat⟩ := hrow (by simp)
        have hc := hat.cell (i := init.length) (cs := r.v) (by simp) (j := 0) (u := .int .u8 r.c.toNat) (by simp [Rn.v])
        have h10' : ((r.c.toNat : Int) == 10) = false := by simpa using h10
        have hz : ((init.length : Int) + 1 == 0) = false := by simp; omega
        clear hrow hat
        simp only [Nat.add_zero] at hc
        go_wp2_with (at_builtin; go_must (refine wpList_append1 E26 rfl rfl hown rfl rfl (by simp) rfl (by simp [Value.oneCell']) (by simp; omega) (by decide) (by have := hb.size; simp; omega) ?_); intro v2 w2 hown2 hg2)
        go_ret
        refine ⟨v2, rfl, ?_, bapp hb hown hg2 hb.size⟩
        have hr : r.c ≠ 10 := by intro e; rw [e] at h10; exact h10 rfl
        unfold charsL
        rw [if_pos ⟨HN.out, .inr (by rw [H.out]; simp [hr])⟩, H.out, List.map_append]
        exact hown2.last (by simp [Rn.v])

set_option maxHeartbeats 1000000 in
theorem back_any (s : ByteArray) (hs : s.size ≤ 1000000) (x y : Int) (w : World) :
    Calls Try.prog 15 #[.string s, .int .i64 x, .int .i64 y] w fun e w' => e = .returned (.string ⟨(backL s.data.toList x y).toArray⟩) ∧ Below w.heap.size w w' := by
  have hl : (standL s.data.toList).length ≤ s.size := by rw [Lib.size_eq]; exact standL_len _
  obtain ⟨L, hL⟩ : ∃ L, standL s.data.toList = L := ⟨_, rfl⟩
  rw [hL] at hl
  have H := Lib.hid hL; clear hL
  go_enter Try.func15, Try.ntmps15
  go_wp2_with fail
  refine (stand_any s hs _).mono ?_
  rintro e w1 ⟨v, rfl, hown, hb⟩
  rw [H.out] at hown
  obtain ⟨ao, cap, rfl, _, _, _, _⟩ := hown.rown (n := L.length) (by simp)
  have hb0 : Below w.heap.size w w1 := (((Below.refl _ w).alloc (Nat.le_refl _) _).trans (hb.mono (by simp)))
  have hbld : Bld w1 w.heap.size w.heap.size [] := (bld_new w).below hb
  have hown0 := hown.mono (B' := w.heap.size) (by simp)
  clear hb hown
  go_wp2
  go_loopw [13] (fun i wr => ∃ k : Nat, k ≤ L.length ∧ i = .int .i64 k ∧ Own wr w.heap.size 33 3 (.slice ao L.length cap) (L.map Rn.v) ∧ Bld wr w.heap.size w.heap.size (pickL (L.take k) x y) ∧ Below w.heap.size w wr) (fun i _ => L.length - (intOf i).toNat)
  case atStart => exact ⟨0, Nat.zero_le _, rfl, hown0, hbld, hb0⟩
  case round =>
    obtain ⟨k, hk, rfl, hown, hbld, hb⟩ := hrel
    clear hown0 hb0
    by_cases hlt : k < L.length
    · obtain ⟨r, hr⟩ : ∃ r, L[k]? = some r := ⟨L[k], by simp [hlt]⟩
      obtain ⟨b, o, rfl, hat⟩ := hown.here (by intro h; simp at h; subst h; simp at hlt)
      have hi : (L.map Rn.v)[k]? = some r.v := by simp [hr]
      have c0 := hat.cell hi (j := 0) (u := .int .u8 r.c.toNat) rfl
      have c1 := hat.cell hi (j := 1) (u := .int .i64 r.f) rfl
      have c2 := hat.cell hi (j := 2) (u := .int .i64 r.t) rfl
      simp only [Nat.add_zero] at c0
      have hsn := pickL_snoc (L.take k) r x y
      have htk : L.take k ++ [r] = L.take (k + 1) := by rw [List.take_add_one, hr]; rfl
      rw [htk] at hsn
      have HS := Lib.hid hsn
      have hpl := pickL_len (L.take k) x y
      have htl : (L.take k).length ≤ k := List.length_take_le ..
      clear hsn htk hr hat hi
      go_wp2_with (go_at_call 29; go_must (refine (bld_byte (hbld.alloc _) (by omega) (by have := hb.size; simp; omega) r.c).mono ?_); rintro e w2 ⟨rfl, hbld2, hkb⟩)
      · go_roundw
        case rel => exact ⟨k + 1, by omega, by go_num, own_kb (hown.alloc _) (hbld.alloc _) (by decide) (by decide) hkb, by rw [HS.out, if_pos ⟨by assumption, by assumption⟩]; exact hbld2, (hb.alloc hb.size _).trans hkb.below⟩
        case measure => simp [intOf]; omega
      all_goals
        refine ⟨⟨k + 1, by omega, by go_num, hown.alloc _, ?_, hb.alloc hb.size _⟩, by simp [intOf]; omega⟩
        rw [HS.out, if_neg (by omega)]
        exact hbld.alloc _
    · go_wp2_with (go_at_call 30; go_must (refine (bld_done hbld hb.size).mono ?_); rintro e w2 ⟨rfl, hbld2, hkb⟩)
      go_ret
      refine ⟨?_, hb.trans hkb.below⟩
      rw [show k = L.length by omega, List.take_length, ← H.out]
      rfl
end Go.Proofs.Ytboddgnojnapcaa
