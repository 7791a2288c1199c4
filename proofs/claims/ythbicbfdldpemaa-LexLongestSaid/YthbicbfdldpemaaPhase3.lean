/- Chapter 4, the reference: plain, spliced, Chars, Back. -/
import Derived.Test.YthbicbfdldpemaaPhase2
namespace Go.Proofs.Ythbicbfdldpemaa
open Go.RowKit

theorem E28 : EI Try.prog 98 100 (.agg #[.int .u8 0, .int .i64 0, .int .i64 0]) 3 24 := ⟨Try.underlying98, by kernel_rfl, rfl, by decide⟩
theorem E36 : EI Try.prog 45 5 (.int .u8 0) 1 1 := ⟨Try.underlying45, by kernel_rfl, rfl, by decide⟩

theorem oneAt_tri {s : ByteArray} {k : Nat} (hk : k + 2 < s.size) (h1 : ((s[k]'(by omega)).toNat : Int) = 63) (h2 : ((s[k + 1]'(by omega)).toNat : Int) = 63) (ht : (tri (s[k + 2]'hk)).isSome = true) : oneAt s.data.toList k = ⟨(tri (s[k + 2]'hk)).getD 0, k, k + 3⟩ := by
  refine oneAt_hit hk ((hp2_iff _).2 ⟨?_, ?_⟩) ht
  · rw [List.getElem?_drop, Nat.add_zero, ba_at s k (by omega), u8_of (n := 63) (by decide) h1]; rfl
  · rw [List.getElem?_drop, ba_at s (k + 1) (by omega), u8_of (n := 63) (by decide) h2]; rfl

theorem oneAt_plain {s : ByteArray} {k : Nat} (hk : k < s.size) (h : ∀ hk : k + 2 < s.size, ((s[k]'(by omega)).toNat : Int) = 63 → ((s[k + 1]'(by omega)).toNat : Int) = 63 → (tri (s[k + 2]'hk)).isSome = false) : oneAt s.data.toList k = ⟨s[k]'hk, k, k + 1⟩ := by
  cases hp : hp2 (s.data.toList.drop k)
  · exact oneAt_no hk hp
  · by_cases h2 : k + 2 < s.size
    · have h3 := (hp2_iff _).1 hp
      rw [List.getElem?_drop, List.getElem?_drop, Nat.add_zero, ba_at s k (by omega), ba_at s (k + 1) (by omega)] at h3
      exact oneAt_miss h2 hp (h h2 (by rw [Option.some.inj h3.1]; rfl) (by rw [Option.some.inj h3.2]; rfl))
    · exact oneAt_end hk h2 hp

theorem plain_keep {L : List UInt8} {k : Nat} {acc : List Rn} (hk : k < L.length) {c : UInt8} {f t : Nat} (hr : oneAt L k = ⟨c, f, t⟩) (h : acc ++ plainL k (L.drop k) = plainL 0 L) : Hid ((acc ++ [⟨c, f, t⟩]) ++ plainL t (L.drop t) = plainL 0 L) := by
  show _ = _
  rw [← h, plainL_step hk, hr]; simp

set_option maxHeartbeats 1000000 in
theorem plain_any (s : ByteArray) (hs : s.size ≤ 1000000) (w : World) :
    Calls Try.prog 59 #[.string s] w fun e w' => ∃ v, e = .returned v ∧ Own w' w.heap.size 100 3 v ((plainL 0 s.data.toList).map Rn.v) ∧ Below w.heap.size w w' := by
  go_enter Try.func59, Try.ntmps59
  go_wp2
  go_loopw [3, 4] (fun v i wr => ∃ (k : Nat) (acc : List Rn), k ≤ s.size ∧ i = .int .i64 k ∧ Own wr w.heap.size 100 3 v (acc.map Rn.v) ∧ acc.length ≤ k ∧ Hid (acc ++ plainL k (s.data.toList.drop k) = plainL 0 s.data.toList) ∧ Below w.heap.size w wr) (fun _ i _ => s.size - (intOf i).toNat)
  case atStart => exact ⟨0, [], Nat.zero_le _, rfl, Own.nil _ _ _ _, Nat.le_refl _, by simp [Hid], Below.refl _ _⟩
  case round =>
    obtain ⟨k, acc, hk, rfl, hown, hacc, hst, hb⟩ := hrel
    by_cases hlt : k < s.size
    · have hL : k < s.data.toList.length := by rw [← Lib.size_eq]; exact hlt
      have HL := Lib.hid hL; clear hL
      go_wp2_with (first
        | (go_at_call 83; refine (rtri_any _ _).mono ?_; rintro e w' ⟨rfl, rfl⟩)
        | (at_builtin; go_must (refine wpList_append1 E28 rfl rfl hown rfl rfl (by simp) rfl (by simp [Value.oneCell']) (by simp; omega) (by decide) hb.size ?_); intro v2 w2 hown2 hg2))
      · go_roundw
        case rel => exact ⟨k + 3, acc ++ [⟨(tri (s[k + 2])).getD 0, k, k + 3⟩], by omega, by go_num, by rw [List.map_append]; exact hown2.last (by simp [Rn.v]), by simp; omega, plain_keep HL.out (oneAt_tri (by omega) (by assumption) (by apply u8_beq; assumption) (by assumption)) hst.out, bapp hb hown hg2 hb.size⟩
        case measure => simp [intOf]; omega
      all_goals
        refine ⟨⟨k + 1, acc ++ [⟨s[k], k, k + 1⟩], by omega, by go_num, by rw [List.map_append]; exact hown2.last (by simp [Rn.v, *]), by simp; omega, plain_keep HL.out (oneAt_plain hlt ?_) hst.out, bapp hb hown hg2 hb.size⟩, by simp [intOf]; omega⟩
        intro h1 h2 h3
        first
          | assumption
          | (exfalso; omega)
          | (exfalso; exact u8_bne (by assumption) h3)
    · go_wp2
      go_ret
      have h := hst.out
      rw [plainL_nil (by rw [← Lib.size_eq]; omega), List.append_nil] at h
      rw [← h]
      exact ⟨_, rfl, hown, hb⟩

theorem spliced_nil {R : List Rn} {k : Nat} (h : R.length ≤ k) : splicedL (R.drop k) = [] := by rw [List.drop_eq_nil_of_le h]; rfl

theorem spliced_skip {R : List Rn} {k : Nat} {r r2 : Rn} {acc L : List Rn} (hr : R[k]? = some r) (hr2 : R[k + 1]? = some r2) (h1 : (r.c.toNat : Int) = 92) (h2 : (r2.c.toNat : Int) = 10) (h : acc ++ splicedL (R.drop k) = L) : Hid (acc ++ splicedL (R.drop (k + 2)) = L) := by
  obtain ⟨hk, e1⟩ := List.getElem?_eq_some_iff.1 hr
  obtain ⟨hk2, e2⟩ := List.getElem?_eq_some_iff.1 hr2
  show _ = _
  rw [← h, List.drop_eq_getElem_cons hk, List.drop_eq_getElem_cons hk2, e1, e2, splicedL, if_pos ⟨u8_of (n := 92) (by decide) h1, u8_of (n := 10) (by decide) h2⟩]

theorem spliced_keep {R : List Rn} {k : Nat} {r : Rn} {acc L : List Rn} (hr : R[k]? = some r) (hno : ∀ r2, R[k + 1]? = some r2 → (r.c.toNat : Int) = 92 → (r2.c.toNat : Int) = 10 → False) (h : acc ++ splicedL (R.drop k) = L) : Hid ((acc ++ [r]) ++ splicedL (R.drop (k + 1)) = L) := by
  obtain ⟨hk, e1⟩ := List.getElem?_eq_some_iff.1 hr
  show _ = _
  rw [← h, List.drop_eq_getElem_cons hk, e1]
  by_cases hk2 : k + 1 < R.length
  · rw [List.drop_eq_getElem_cons hk2, splicedL, if_neg]
    · simp
    · rintro ⟨h1, h2⟩
      exact hno _ (List.getElem?_eq_getElem hk2) (by rw [h1]; rfl) (by rw [h2]; rfl)
  · rw [List.drop_eq_nil_of_le (by omega)]; simp [splicedL]

set_option maxHeartbeats 1000000 in
theorem spliced_any (R : List Rn) (ao : Option Addr) (cap : Nat) (hn : R.length ≤ 1000000) (w : World) (hrow : Row w 3 ao (R.map Rn.v)) :
    Calls Try.prog 58 #[.slice ao R.length cap] w fun e w' => ∃ v, e = .returned v ∧ Own w' w.heap.size 100 3 v ((splicedL R).map Rn.v) ∧ Below w.heap.size w w' := by
  go_enter Try.func58, Try.ntmps58
  go_wp2
  go_loopw [3, 4] (fun v i wr => ∃ (k : Nat) (acc : List Rn), k ≤ R.length ∧ i = .int .i64 k ∧ Own wr w.heap.size 100 3 v (acc.map Rn.v) ∧ acc.length ≤ k ∧ Hid (acc ++ splicedL (R.drop k) = splicedL R) ∧ Below w.heap.size w wr) (fun _ i _ => R.length - (intOf i).toNat)
  case atStart => exact ⟨0, [], Nat.zero_le _, rfl, Own.nil _ _ _ _, Nat.le_refl _, by simp [Hid], Below.refl _ _⟩
  case round =>
    obtain ⟨k, acc, hk, rfl, hown, hacc, hst, hb⟩ := hrel
    by_cases hlt : k < R.length
    · obtain ⟨r, hr⟩ : ∃ r, R[k]? = some r := ⟨R[k], by simp [hlt]⟩
      obtain ⟨b, o, rfl, hat⟩ := (hrow.below hb) (by intro h; simp at h; subst h; simp at hlt)
      have hi : (R.map Rn.v)[k]? = some r.v := by simp [hr]
      have c0 := hat.cell hi (j := 0) (u := .int .u8 r.c.toNat) rfl
      have c1 := hat.cell hi (j := 1) (u := .int .i64 r.f) rfl
      have c2 := hat.cell hi (j := 2) (u := .int .i64 r.t) rfl
      simp only [Nat.add_zero] at c0
      have HR := Lib.hid hr
      clear hr hi
      by_cases h2 : k + 1 < R.length
      · obtain ⟨r2, hr2⟩ : ∃ r2, R[k + 1]? = some r2 := ⟨R[k + 1], by simp [h2]⟩
        have d0 := hat.cell (i := k + 1) (cs := r2.v) (by simp [hr2]) (j := 0) (u := .int .u8 r2.c.toNat) rfl
        simp only [Nat.add_zero] at d0
        have HR2 := Lib.hid hr2
        clear hr2 hat
        go_wp2_with (at_builtin; go_must (refine wpList_append1 E28 rfl rfl hown rfl rfl (by simp) rfl (by simp [Value.oneCell']) (by simp; omega) (by decide) hb.size ?_); intro v2 w2 hown2 hg2)
        all_goals first
          | (exfalso; omega)
          | (refine ⟨⟨k + 2, acc, by omega, by go_num, hown, by omega, spliced_skip HR.out HR2.out (by assumption) (u8_beq (by assumption)) hst.out, hb⟩, by simp [intOf]; omega⟩; done)
          | (refine ⟨⟨k + 1, acc ++ [r], by omega, by go_num, by rw [List.map_append]; exact hown2.last (by simp [Rn.v, *]), by simp; omega, spliced_keep HR.out ?_ hst.out, bapp hb hown hg2 hb.size⟩, by simp [intOf]; omega⟩
             intro r3 e3 h3 h4
             rw [HR2.out] at e3
             obtain rfl := Option.some.inj e3
             first
               | contradiction
               | exact u8_bne (by assumption) h4)
      · clear hat
        go_wp2_with (at_builtin; go_must (refine wpList_append1 E28 rfl rfl hown rfl rfl (by simp) rfl (by simp [Value.oneCell']) (by simp; omega) (by decide) hb.size ?_); intro v2 w2 hown2 hg2)
        all_goals first
          | (exfalso; omega)
          | (refine ⟨⟨k + 1, acc ++ [r], by omega, by go_num, by rw [List.map_append]; exact hown2.last (by simp [Rn.v, *]), by simp; omega, spliced_keep HR.out ?_ hst.out, bapp hb hown hg2 hb.size⟩, by simp [intOf]; omega⟩
             intro r3 e3 h3 h4
             rw [List.getElem?_eq_none (by omega)] at e3
             cases e3)
    · go_wp2
      go_ret
      have h := hst.out
      rw [spliced_nil (by omega), List.append_nil] at h
      rw [← h]
      exact ⟨_, rfl, hown, hb⟩
end Go.Proofs.Ythbicbfdldpemaa
