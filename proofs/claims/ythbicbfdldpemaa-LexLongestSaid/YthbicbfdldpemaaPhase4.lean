/- Chapter 4, the reference's Chars and Back; the law's own helper 'same'. -/
import Derived.Test.YthbicbfdldpemaaPhase3
namespace Go.Proofs.Ythbicbfdldpemaa
open Go.RowKit

set_option maxHeartbeats 1000000 in
theorem rchars_any (s : ByteArray) (hs : s.size ≤ 1000000) (w : World) :
    Calls Try.prog 52 #[.string s] w fun e w' => ∃ v, e = .returned v ∧ Own w' w.heap.size 100 3 v ((charsL s.data.toList).map Rn.v) ∧ Below w.heap.size w w' := by
  have hl : (standL s.data.toList).length ≤ s.size := by rw [Lib.size_eq]; exact standL_len _
  have hpl : (plainL 0 s.data.toList).length ≤ s.size := by rw [Lib.size_eq]; exact plainL_len _ _ _ (Nat.le_refl _)
  have key : Calls Try.prog 52 #[.string s] w fun e w' => ∃ v, e = .returned v ∧ Own w' w.heap.size 100 3 v ((charsL s.data.toList).map Rn.v) ∧ Below w.heap.size w w' := by
    go_enter Try.func52, Try.ntmps52
    go_wp2_with fail
    refine (plain_any s hs w).mono ?_
    rintro e w1 ⟨v1, rfl, hown1, hb1⟩
    obtain ⟨ao1, cap1, rfl, _, _, hrow1, _⟩ := hown1.rown (n := (plainL 0 s.data.toList).length) (by simp)
    go_wp2_with fail
    refine (spliced_any _ _ _ (by omega) _ hrow1).mono ?_
    rintro e w2 ⟨v, rfl, hown, hb2⟩
    have hown := hown.mono (B' := w.heap.size) hb1.size
    have hb : Below w.heap.size w w2 := bstep hb1 hb2 hb1.size
    clear hown1 hrow1 hb1 hb2
    change Own w2 w.heap.size 100 3 v ((standL s.data.toList).map Rn.v) at hown
    by_cases h0 : s.size = 0
    · have h00 : ¬ ((0 : Int) < (s.size : Int)) := by omega
      go_wp2
      go_ret
      refine ⟨v, rfl, ?_, hb⟩
      have : s.data.toList = [] := by rw [← List.length_eq_zero_iff, ← Lib.size_eq]; exact h0
      unfold charsL
      rw [if_neg (by simp [this])]
      exact hown
    · have h00 : 0 < s.size := by omega
      have hne : s.data.toList ≠ [] := by rw [ne_eq, ← List.length_eq_zero_iff, ← Lib.size_eq]; exact h0
      have HN := Lib.hid hne; clear hne h0
      rcases List.eq_nil_or_concat (standL s.data.toList) with hn | ⟨init, r, hn⟩
      · rw [hn] at hown
        have H := Lib.hid hn; clear hn hl
        obtain ⟨ao, cap, rfl, _, _, _, _⟩ := hown.rown rfl
        go_wp2_with (at_builtin; go_must (refine wpList_append1 E28 rfl rfl hown rfl rfl (by simp) rfl (by simp [Value.oneCell']) (by simp) (by decide) hb.size ?_); intro v2 w2 hown2 hg2)
        go_ret
        refine ⟨v2, rfl, ?_, bapp hb hown hg2 hb.size⟩
        unfold charsL
        rw [if_pos ⟨HN.out, .inl H.out⟩, H.out]
        exact hown2.last (by simp [Rn.v])
      · rw [List.concat_eq_append] at hn
        have hil : init.length + 1 ≤ s.size := by rw [hn] at hl; simpa using hl
        rw [hn] at hown
        have H := Lib.hid hn; clear hn hl
        obtain ⟨ao, cap, rfl, _, _, hrow, _⟩ := hown.rown (n := init.length + 1) (by simp)
        obtain ⟨b, o, rfl, hat⟩ := hrow (by simp)
        have hc := hat.cell (i := init.length) (cs := r.v) (by simp) (j := 0) (u := .int .u8 r.c.toNat) (by simp [Rn.v])
        have hz : ((init.length : Int) + 1 == 0) = false := by simp; omega
        clear hrow hat
        simp only [Nat.add_zero] at hc
        by_cases h10 : (r.c.toNat : Int) = 10
        · have h10' : ((10 : Int) == 10) = true := rfl
          rw [h10] at hc
          go_wp2
          go_ret
          refine ⟨_, rfl, ?_, hb⟩
          have hr : r.c = 10 := u8_of (n := 10) (by decide) h10
          unfold charsL
          rw [if_neg (by rw [H.out]; simp [hr]), H.out]
          exact hown
        · have h10' : ((r.c.toNat : Int) == 10) = false := by simpa using h10
          go_wp2_with (at_builtin; go_must (refine wpList_append1 E28 rfl rfl hown rfl rfl (by simp) rfl (by simp [Value.oneCell']) (by simp; omega) (by decide) hb.size ?_); intro v2 w2 hown2 hg2)
          go_ret
          refine ⟨v2, rfl, ?_, bapp hb hown hg2 hb.size⟩
          have hr : r.c ≠ 10 := by intro e; rw [e] at h10; exact h10 rfl
          unfold charsL
          rw [if_pos ⟨HN.out, .inr (by rw [H.out]; simp [hr])⟩, H.out, List.map_append]
          exact hown2.last (by simp [Rn.v])
  exact key


set_option maxHeartbeats 1000000 in
theorem rback_any (s : ByteArray) (hs : s.size ≤ 1000000) (x y : Int) (w : World) :
    Calls Try.prog 28 #[.string s, .int .i64 x, .int .i64 y] w fun e w' => e = .returned (.string ⟨(backL s.data.toList x y).toArray⟩) ∧ Below w.heap.size w w' := by
  have hpl : (plainL 0 s.data.toList).length ≤ s.size := by rw [Lib.size_eq]; exact plainL_len _ _ _ (Nat.le_refl _)
  have hl : (standL s.data.toList).length ≤ s.size := by rw [Lib.size_eq]; exact standL_len _
  go_enter Try.func28, Try.ntmps28
  go_wp2_with fail
  refine (plain_any s hs w).mono ?_
  rintro e w1 ⟨v1, rfl, hown1, hb1⟩
  obtain ⟨ao1, cap1, rfl, _, _, hrow1, _⟩ := hown1.rown (n := (plainL 0 s.data.toList).length) (by simp)
  go_wp2_with fail
  refine (spliced_any _ _ _ (by omega) _ hrow1).mono ?_
  rintro e w2 ⟨v, rfl, hown, hb2⟩
  have hown0 := hown.mono (B' := w.heap.size) hb1.size
  have hb0 : Below w.heap.size w w2 := bstep hb1 hb2 hb1.size
  clear hown1 hrow1 hb1 hb2 hown
  change Own w2 w.heap.size 100 3 v ((standL s.data.toList).map Rn.v) at hown0
  obtain ⟨L, hL⟩ : ∃ L, standL s.data.toList = L := ⟨_, rfl⟩
  rw [hL] at hl hown0
  have H := Lib.hid hL; clear hL
  obtain ⟨ao, cap, rfl, _, _, _, _⟩ := hown0.rown (n := L.length) (by simp)
  go_wp2
  go_loopw [8, 9] (fun v i wr => ∃ k : Nat, k ≤ L.length ∧ i = .int .i64 k ∧ Own wr w.heap.size 100 3 (.slice ao L.length cap) (L.map Rn.v) ∧ Own wr w.heap.size 5 1 v ((pickL (L.take k) x y).map fun c => [.int .u8 c.toNat]) ∧ Below w.heap.size w wr) (fun _ i _ => L.length - (intOf i).toNat)
  case atStart => exact ⟨0, Nat.zero_le _, rfl, hown0, Own.nil _ _ _ _, hb0⟩
  case round =>
    obtain ⟨k, hk, rfl, hown, hown8, hb⟩ := hrel
    clear hown0 hb0
    by_cases hlt : k < L.length
    · obtain ⟨r, hr⟩ : ∃ r, L[k]? = some r := ⟨L[k], by simp [hlt]⟩
      obtain ⟨b, o, rfl, hat⟩ := hown.here (by intro h; simp at h; subst h; simp at hlt)
      have hi : (L.map Rn.v)[k]? = some r.v := by simp [hr]
      have c0 := hat.cell hi (j := 0) (u := .int .u8 r.c.toNat) rfl
      have c1 := hat.cell hi (j := 1) (u := .int .i64 r.f) rfl
      have c2 := hat.cell hi (j := 2) (u := .int .i64 r.t) rfl
      simp only [Nat.add_zero] at c0
      have hsn := pickL_snoc (L.take k) r x y
      have htk : L.take k ++ [r] = L.take (k + 1) := by rw [List.take_add_one, hr]; rfl
      rw [htk] at hsn
      have HS := Lib.hid hsn
      have hpl2 := pickL_len (L.take k) x y
      have htl : (L.take k).length ≤ k := List.length_take_le ..
      clear hsn htk hr hat hi
      go_wp2_with (at_builtin; go_must (refine wpList_append1 E36 rfl rfl hown8 rfl rfl (by simp) rfl (by simp [Value.oneCell']) (by simp; omega) (by decide) hb.size ?_); intro v2 w3 hown2 hg2)
      · refine ⟨⟨k + 1, by omega, by go_num, hown.kept hg2 (own_apart hown hown8 (by decide)), ?_, bapp hb hown8 hg2 hb.size⟩, by simp [intOf]; omega⟩
        rw [HS.out, if_pos ⟨by assumption, by assumption⟩, List.map_append]
        exact hown2
      all_goals
        refine ⟨⟨k + 1, by omega, by go_num, hown, ?_, hb⟩, by simp [intOf]; omega⟩
        rw [HS.out, if_neg (by omega)]
        exact hown8
    · have hcv := run_str_own (P := Try.prog) hown8 45 9 Try.underlying45 Try.underlying5 Try.underlying9
      go_wp2
      go_ret
      refine ⟨?_, hb⟩
      rw [show k = L.length by omega, List.take_length, ← H.out]
      rfl
end Go.Proofs.Ythbicbfdldpemaa
