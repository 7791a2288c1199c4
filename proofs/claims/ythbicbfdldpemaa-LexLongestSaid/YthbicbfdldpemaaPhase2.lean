/- Chapter 4, on: phase.Chars, Back. -/
import Derived.Test.YthbicbfdldpemaaPhase
import Derived.Test.YthbicbfdldpemaaBuilder
namespace Go.Proofs.Ythbicbfdldpemaa
open Go.RowKit

theorem map_len {l : List Rn} : (l.map Rn.v).length = l.length := List.length_map ..

set_option maxHeartbeats 1000000 in
theorem chars_any (s : ByteArray) (hs : s.size ≤ 1000000) (w : World) :
    Calls Try.prog 50 #[.string s] w fun e w' => ∃ v, e = .returned v ∧ Own w' w.heap.size 97 3 v ((charsL s.data.toList).map Rn.v) ∧ Below w.heap.size w w' := by
  have hl : (standL s.data.toList).length ≤ s.size := by rw [Lib.size_eq]; exact standL_len _
  by_cases h0 : s.toList.isEmpty = true
  · go_enter Try.func50, Try.ntmps50
    go_wp2_with fail
    refine (stand_any s hs w).mono ?_
    rintro e w1 ⟨v, rfl, hown, hb⟩
    go_wp2
    go_ret
    refine ⟨v, rfl, ?_, hb⟩
    have : s.data.toList = [] := by rw [← Lib.toList_data]; simpa using h0
    unfold charsL
    rw [if_neg (by simp [this])]
    exact hown
  · have h0' : s.toList.isEmpty = false := by simpa using h0
    have hne : s.data.toList ≠ [] := by rw [← Lib.toList_data]; simpa using h0'
    rcases List.eq_nil_or_concat (standL s.data.toList) with hn | ⟨init, r, hn⟩
    · have H := Lib.hid hn; clear hn h0 hl
      have HN := Lib.hid hne; clear hne
      go_enter Try.func50, Try.ntmps50
      go_wp2_with fail
      refine (stand_any s hs w).mono ?_
      rintro e w1 ⟨v, rfl, hown, hb⟩
      rw [H.out] at hown
      obtain ⟨ao, cap, rfl, _, _, _, hnone⟩ := hown.rown rfl
      go_wp2_with (at_builtin; go_must (refine wpList_append1 E26 rfl rfl hown rfl rfl (by simp) rfl (by simp [Value.oneCell']) (by simp) (by decide) (by have := hb.size; simp; omega) ?_); intro v2 w2 hown2 hg2)
      go_ret
      refine ⟨v2, rfl, ?_, bapp hb hown hg2 hb.size⟩
      unfold charsL
      rw [if_pos ⟨HN.out, .inl H.out⟩, H.out]
      exact hown2.last (by simp [Rn.v])
    · rw [List.concat_eq_append] at hn
      have hil : init.length + 1 ≤ s.size := by rw [hn] at hl; simpa using hl
      have H := Lib.hid hn; clear hn h0 hl
      have HN := Lib.hid hne; clear hne
      by_cases h10 : (r.c.toNat : Int) = 10
      · go_enter Try.func50, Try.ntmps50
        go_wp2_with fail
        refine (stand_any s hs w).mono ?_
        rintro e w1 ⟨v, rfl, hown, hb⟩
        rw [H.out] at hown
        obtain ⟨ao, cap, rfl, _, _, hrow, _⟩ := hown.rown (n := init.length + 1) (by simp)
        obtain ⟨b, o, rfl, hat⟩ := hrow (by simp)
        have hc := hat.cell (i := init.length) (cs := r.v) (by simp) (j := 0) (u := .int .u8 r.c.toNat) (by simp [Rn.v])
        have h10' : ((r.c.toNat : Int) == 10) = true := by simp [h10]
        clear hrow hat
        simp only [Nat.add_zero] at hc
        rw [h10] at hc h10'
        go_wp2
        go_ret
        refine ⟨_, rfl, ?_, hb⟩
        have hr : r.c = 10 := u8_of (n := 10) (by decide) h10
        unfold charsL
        rw [if_neg (by rw [H.out]; simp [hr]), H.out]
        exact hown
      · go_enter Try.func50, Try.ntmps50
        go_wp2_with fail
        refine (stand_any s hs w).mono ?_
        rintro e w1 ⟨v, rfl, hown, hb⟩
        rw [H.out] at hown
        obtain ⟨ao, cap, rfl, _, _, hrow, _⟩ := hown.rown (n := init.length + 1) (by simp)
        obtain ⟨b, o, rfl, hat⟩ := hrow (by simp)
        have hc := hat.cell (i := init.length) (cs := r.v) (by simp) (j := 0) (u := .int .u8 r.c.toNat) (by simp [Rn.v])
        have h10' : ((r.c.toNat : Int) == 10) = false := by simpa using h10
        have hz : ((init.length : Int) + 1 == 0) = false := by simp; omega
        clear hrow hat
        simp only [Nat.add_zero] at hc
        go_wp2_with (at_builtin; go_must (refine wpList_append1 E26 rfl rfl hown rfl rfl (by simp) rfl (by simp [Value.oneCell']) (by simp; omega) (by decide) (by have := hb.size; simp; omega) ?_); intro v2 w2 hown2 hg2)
        go_ret
        refine ⟨v2, rfl, ?_, bapp hb hown hg2 hb.size⟩
        have hr : r.c ≠ 10 := by intro e; rw [e] at h10; exact h10 rfl
        unfold charsL
        rw [if_pos ⟨HN.out, .inr (by rw [H.out]; simp [hr])⟩, H.out, List.map_append]
        exact hown2.last (by simp [Rn.v])

end Go.Proofs.Ythbicbfdldpemaa
