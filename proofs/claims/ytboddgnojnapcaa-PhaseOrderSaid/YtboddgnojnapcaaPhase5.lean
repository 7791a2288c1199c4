/- Chapter 4: the laws' own helpers 'same' and 'awake'. -/
import Derived.Test.YtboddgnojnapcaaPhase4
namespace Go.Proofs.Ytboddgnojnapcaa
open Go.RowKit

set_option maxHeartbeats 1000000 in
theorem same_yes (A : List Rn) (a1 a2 : Option Addr) (c1 c2 : Nat) (hn : A.length ≤ 1000000) (w : World) (h1 : Row w 3 a1 (A.map Rn.v)) (h2 : Row w 3 a2 (A.map Rn.v)) :
    Calls Try.prog 12 #[.slice a1 A.length c1, .slice a2 A.length c2] w fun e w' => e = .returned (.bool true) ∧ Below w.heap.size w w' := by
  go_enter Try.func12, Try.ntmps12
  go_wp2
  go_loopw [5] (fun i wr => ∃ k : Nat, k ≤ A.length ∧ i = .int .i64 k ∧ Below w.heap.size w wr) (fun i _ => A.length - (intOf i).toNat)
  case atStart => exact ⟨0, Nat.zero_le _, rfl, Below.refl _ _⟩
  case round =>
    obtain ⟨k, hk, rfl, hb⟩ := hrel
    by_cases hlt : k < A.length
    · obtain ⟨r, hr⟩ : ∃ r, A[k]? = some r := ⟨A[k], by simp [hlt]⟩
      obtain ⟨b, o, rfl, hat⟩ := (h1.below hb) (by intro h; simp at h; subst h; simp at hlt)
      obtain ⟨b', o', rfl, hat'⟩ := (h2.below hb) (by intro h; simp at h; subst h; simp at hlt)
      have hi : (A.map Rn.v)[k]? = some r.v := by simp [hr]
      have c0 := hat.cell hi (j := 0) (u := .int .u8 r.c.toNat) rfl
      have c1 := hat.cell hi (j := 1) (u := .int .i64 r.f) rfl
      have c2 := hat.cell hi (j := 2) (u := .int .i64 r.t) rfl
      have d0 := hat'.cell hi (j := 0) (u := .int .u8 r.c.toNat) rfl
      have d1 := hat'.cell hi (j := 1) (u := .int .i64 r.f) rfl
      have d2 := hat'.cell hi (j := 2) (u := .int .i64 r.t) rfl
      simp only [Nat.add_zero] at c0 d0
      clear hr hi hat hat'
      go_wp2
      go_quiet (fail)
      go_wp2
      exact ⟨⟨k + 1, by omega, by go_num, below_drewN hb nq⟩, by simp [intOf]; omega⟩
    · go_wp2
      go_ret
      exact ⟨rfl, hb⟩

def awakeL : List Rn := [⟨97, 0, 1⟩, ⟨98, 3, 4⟩, ⟨35, 4, 7⟩, ⟨10, 7, 7⟩]

theorem aw_chars (w : World) : Calls Try.prog 13 #[.string ⟨#[97, 92, 10, 98, 63, 63, 61]⟩] w fun e w' => ∃ ao cap, e = .returned (.slice ao awakeL.length cap) ∧ Row w' 3 ao (awakeL.map Rn.v) ∧ Below w.heap.size w w' := by
  refine (chars_any _ (by decide) w).mono ?_
  rintro e w' ⟨v, rfl, hown, hb⟩
  rw [show charsL (⟨#[97, 92, 10, 98, 63, 63, 61]⟩ : ByteArray).data.toList = awakeL from by decide] at hown
  obtain ⟨ao, cap, rfl, _, _, hr, _⟩ := hown.rown (n := awakeL.length) rfl
  exact ⟨ao, cap, rfl, hr, hb⟩

theorem aw_tri1 (w : World) : Calls Try.prog 10 #[.int .u8 60] w fun e w' => e = .returned (.tuple #[.int .u8 123, .bool true]) ∧ w = w' := trigraph_any 60 w
theorem aw_tri2 (w : World) : Calls Try.prog 10 #[.int .u8 63] w fun e w' => e = .returned (.tuple #[.int .u8 0, .bool false]) ∧ w = w' := trigraph_any 63 w
theorem aw_back (w : World) : Calls Try.prog 15 #[.string ⟨#[97, 92, 10, 98]⟩, .int .i64 0, .int .i64 4] w fun e w' => e = .returned (.string ⟨#[97, 98]⟩) ∧ Below w.heap.size w w' := by
  have := back_any ⟨#[97, 92, 10, 98]⟩ (by decide) 0 4 w
  rw [show backL (⟨#[97, 92, 10, 98]⟩ : ByteArray).data.toList 0 4 = [97, 98] from by decide] at this
  exact this

set_option maxHeartbeats 1000000 in
theorem awake_any (w : World) : Calls Try.prog 9 #[] w fun e w' => e = .returned (.bool true) ∧ Below w.heap.size w w' := by
  go_enter Try.func9, Try.ntmps9
  go_wp2_with fail
  refine (aw_chars _).mono ?_
  rintro e w1 ⟨ao, cap, rfl, hr, hb⟩
  go_wp2_with fail
  refine (aw_tri1 _).mono ?_
  rintro e w' ⟨rfl, rfl⟩
  go_wp2_with fail
  refine (aw_tri2 _).mono ?_
  rintro e w' ⟨rfl, rfl⟩
  go_wp2_with fail
  refine (same_yes awakeL _ _ _ _ (by decide) _ (hr.below ((Below.refl _ _).alloc (Nat.le_refl _) _)) (row_new _ (css := awakeL.map Rn.v) (by decide) _ rfl rfl)).mono ?_
  rintro e w2 ⟨rfl, hb2⟩
  go_wp2_with fail
  refine (aw_back _).mono ?_
  rintro e w3 ⟨rfl, hb3⟩
  go_wp2
  go_ret
  exact ⟨rfl, bstep (bstep (hb.alloc hb.size _) hb2 (by have := hb.size; simp; omega)) hb3 (by have := hb.size; have := hb2.size; simp at this; omega)⟩
end Go.Proofs.Ytboddgnojnapcaa
