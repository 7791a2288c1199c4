/- Ropes: end, Start, Line. -/
import Derived.Test.YtnmlijngnnlejaaRp9
namespace Go.Proofs.Ytnmlijngnnlejaa
open Go.RowKit
set_option linter.unusedVariables false

set_option maxRecDepth 100000 in
set_option maxHeartbeats 4000000 in
theorem end_leaf {g n : Nat} (s : ByteArray) (hm : s.size ≤ 1000000) (hn : n ≤ s.data.toList.count 10) (w : World)
    (c0 : w.cell? ⟨g, 0, none⟩ = some (.string s)) (c1 : w.cell? ⟨g, 1, none⟩ = some (.pointer none)) :
    Calls Try.prog 25 #[.pointer (some ⟨g, 0, none⟩), .int .i64 n] w fun e w' => e = .returned (.int .i64 ((nlEnd s.data.toList n : Nat) - 1)) ∧ w' = w := by
  have HI : Hid (∀ p : Int, 0 ≤ p → p ≤ (s.size : Int) → Calls Try.prog 37 #[.string (s.extract p.toNat s.size), .int .u8 10] w fun e w' => e = .returned (.int .i64 (Lib.indexByte (s.data.toList.drop p.toNat) 10)) ∧ w' = w) := Lib.hid (by
    intro p h0 h1
    have h := Try.strings_IndexByte (s.extract p.toNat s.size) 10 w
    have hd : (s.extract p.toNat s.size).data.toList = s.data.toList.drop p.toNat := by
      rw [ByteArray.data_extract, Array.toList_extract, List.extract_eq_take_drop, List.take_of_length_le (by rw [List.length_drop, ← Lib.size_eq]; omega)]
    rw [hd] at h
    exact h)
  have c2 := List.count_le_length (a := 10) (l := s.data.toList)
  rw [← Lib.size_eq] at c2
  have hn2 : (n : Int) ≤ 1000000 := by omega
  have HN : Hid (∀ j, nlEnd s.data.toList j ≤ s.size) := Lib.hid (fun j => by rw [Lib.size_eq]; exact nlEnd_le _ _)
  have HS : Hid (∀ j, j < n → ((nlEnd s.data.toList (j + 1) : Nat) : Int) = nlEnd s.data.toList j + 1 + Lib.indexByte (s.data.toList.drop (nlEnd s.data.toList j)) 10) := Lib.hid (fun j hj => nlEnd_step _ _ (by omega))
  replace hn := Lib.hid hn
  go_enter Try.func25, Try.ntmps25
  go_wp2_with fail
  go_loopg [1, 5] n (fun u v1 v5 w9 => ∃ j : Nat, u = n - j ∧ j ≤ n ∧ v1 = .int .i64 ((n : Int) - (j : Int)) ∧ v5 = .int .i64 ((nlEnd s.data.toList j : Nat) - 1) ∧ w9 = w)
  case atStart => exact ⟨0, rfl, Nat.zero_le _, by simp, by rw [nlEnd_zero]; rfl, rfl⟩
  case round =>
    obtain ⟨j, rfl, hj, rfl, rfl, hwr⟩ := hrel
    replace hwr := hwr.symm
    subst hwr
    by_cases hjn : j = n
    · subst hjn
      have f0 : ¬ (0 : Int) < (j : Int) - (j : Int) := by omega
      go_wp2
      go_ret
      exact ⟨rfl, rfl⟩
    · have f0 : (0 : Int) < (n : Int) - (j : Int) := by omega
      have hx := HS.out j (by omega)
      have hp := HN.out j
      have hp2 := HN.out (j + 1)
      obtain ⟨ix, hix⟩ : ∃ ix, ix = Lib.indexByte (s.data.toList.drop (nlEnd s.data.toList j)) 10 := ⟨_, rfl⟩
      have HI1 := HI.out (nlEnd s.data.toList j) (by omega) (by omega)
      rw [Int.toNat_natCast, ← hix] at HI1
      rw [← hix] at hx
      obtain ⟨p, hp0⟩ : ∃ p, p = nlEnd s.data.toList j := ⟨_, rfl⟩
      obtain ⟨p2, hp2'⟩ : ∃ p2, p2 = nlEnd s.data.toList (j + 1) := ⟨_, rfl⟩
      rw [← hp0] at hx hp HI1 ⊢
      rw [← hp2'] at hx hp2
      have e1 : (p : Int) - 1 + 1 = (p : Int) := by omega
      have e1' : (-1 : Int) + (p : Int) + 1 = (p : Int) := by omega
      have f1 : (p : Int) ≤ (s.size : Int) := by omega
      have k1 : IntKind.i64.wrap ((p : Int) - 1 + 1) = (p : Int) := by rw [e1]; exact IntWalk.i64_in _ (by omega)
      have k2 : IntKind.i64.wrap (1 + ix) = 1 + ix := IntWalk.i64_in _ (by omega)
      have k3 : IntKind.i64.wrap ((p : Int) - 1 + (1 + ix)) = (p2 : Int) - 1 := by rw [show (p : Int) - 1 + (1 + ix) = (p2 : Int) - 1 by omega]; exact IntWalk.i64_in _ (by omega)
      have k4 : IntKind.i64.wrap ((n : Int) - (j : Int) - 1) = (n : Int) - ((j + 1 : Nat) : Int) := by rw [show (n : Int) - (j : Int) - 1 = (n : Int) - ((j + 1 : Nat) : Int) by omega]; exact IntWalk.i64_in _ (by omega)
      have f2 : Hid (n - (j + 1) < n - j) := Lib.hid (by omega)
      replace hp2' := Lib.hid hp2'
      replace hp0 := Lib.hid hp0
      replace hix := Lib.hid hix
      replace HI1 := Lib.hid HI1
      go_wp2_with fail
      refine HI1.out.mono ?_
      rintro e w' ⟨rfl, hw'⟩
      replace hw' := hw'.symm
      subst hw'
      go_wp2_with fail
      go_roundg (n - (j + 1))
      case measure => exact f2.out
      case rel => exact ⟨j + 1, rfl, by omega, by first | rfl | (rw [show (n : Int) - ((j : Int) + 1) = (n : Int) - ((j + 1 : Nat) : Int) by omega]), by rw [← hp2'.out, hx], rfl⟩

set_option maxRecDepth 100000 in
theorem end_left {B g n na r : Nat} {aa : Addr} (hn : (n : Int) ≤ na) (hna : na ≤ 1000000) (hr : r ≤ 1000000) (w : World) (hB : B ≤ w.heap.size)
    (HC : ∀ W, KL B g w W → W.cell? ⟨g, 1, none⟩ = some (.pointer (some aa)))
    (HE : Calls Try.prog 24 #[.pointer (some aa)] w fun e w' => e = .returned (.int .i64 na) ∧ KL B g w w')
    (HA : ∀ W, KL B g w W → Calls Try.prog 25 #[.pointer (some aa), .int .i64 n] W fun e w' => e = .returned (.int .i64 ((r : Int) - 1)) ∧ KL B g W w') :
    Calls Try.prog 25 #[.pointer (some ⟨g, 0, none⟩), .int .i64 n] w fun e w' => e = .returned (.int .i64 ((r : Int) - 1)) ∧ KR B g w w' := by
  have c0 := HC _ (KL.refl B g w)
  replace HC := Lib.hid HC
  replace HE := Lib.hid HE
  replace HA := Lib.hid HA
  go_enter Try.func25, Try.ntmps25
  go_wp2_with fail
  refine HE.out.mono ?_
  rintro e w1 ⟨rfl, k1⟩
  have c1 := HC.out _ k1
  have HA1 := Lib.hid (HA.out _ k1)
  replace k1 := Lib.hid k1
  go_wp2_with fail
  refine HA1.out.mono ?_
  rintro e w2 ⟨rfl, k2⟩
  replace k2 := Lib.hid k2
  go_wp2
  go_ret
  exact ⟨rfl, (k1.out.trans k2.out).kr⟩

set_option maxRecDepth 100000 in
set_option maxHeartbeats 4000000 in
theorem end_right {B g n na la r : Nat} {aa : Addr} {pb : Option Addr} (hn : ¬ (n : Int) ≤ na) (hna : na ≤ 1000000) (hr : r ≤ 1000000) (hla : la ≤ 1000000) (hnn : n ≤ 1000000) (w : World) (hB : B ≤ w.heap.size)
    (HC : ∀ W, KL B g w W → W.cell? ⟨g, 1, none⟩ = some (.pointer (some aa)) ∧ W.cell? ⟨g, 2, none⟩ = some (.pointer pb))
    (HE : ∀ W, KL B g w W → Calls Try.prog 24 #[.pointer (some aa)] W fun e w' => e = .returned (.int .i64 na) ∧ KL B g W w')
    (HL : ∀ W, KL B g w W → Calls Try.prog 10 #[.pointer (some aa)] W fun e w' => e = .returned (.int .i64 la) ∧ w' = W)
    (HA : ∀ W, KL B g w W → Calls Try.prog 25 #[.pointer pb, .int .i64 ((n : Int) - na)] W fun e w' => e = .returned (.int .i64 ((r : Int) - 1)) ∧ KL B g W w') :
    Calls Try.prog 25 #[.pointer (some ⟨g, 0, none⟩), .int .i64 n] w fun e w' => e = .returned (.int .i64 (((la + r : Nat) : Int) - 1)) ∧ KR B g w w' := by
  obtain ⟨c0, _⟩ := HC _ (KL.refl B g w)
  replace HC := Lib.hid HC
  replace HE := Lib.hid HE
  replace HA := Lib.hid HA
  replace HL := Lib.hid HL
  have kw1 : IntKind.i64.wrap ((la : Int) + ((r : Int) - 1)) = ((la + r : Nat) : Int) - 1 := by rw [show (la : Int) + ((r : Int) - 1) = ((la + r : Nat) : Int) - 1 by omega]; exact IntWalk.i64_in _ (by omega)
  have kw2 : IntKind.i64.wrap ((n : Int) - (na : Int)) = (n : Int) - (na : Int) := IntWalk.i64_in _ (by omega)
  have kd0 : Hid (∀ W, KL B g w W → KL B g w W.drew) := Lib.hid (fun W h => h.trans (KL.of_below (Nat.le_trans hB h.below.size) (Below.refl _ _).drew))
  go_enter Try.func25, Try.ntmps25
  go_wp2_with fail
  refine (HE.out _ (KL.refl B g w)).mono ?_
  rintro e w1 ⟨rfl, k1⟩
  have y0 := HC.out _ k1
  have kd := kd0.out _ k1
  have y1 := HC.out _ kd
  obtain ⟨c1, c2⟩ := y0
  replace k1 := Lib.hid k1
  go_wp2_with fail
  have y0 := And.intro c1 c2
  go_region_held3 (fun x : World => x.cell? ⟨g, 1, none⟩ = some (.pointer (some aa)) ∧ x.cell? ⟨g, 2, none⟩ = some (.pointer pb)) (first | with_reducible exact y0 | with_reducible exact y1 | with_reducible exact y2 | with_reducible exact y3) (first
    | (go_at_call 10; (with_reducible refine (HL.out _ kd).mono ?_); rintro e w' ⟨rfl, hw'⟩; replace hw' := hw'.symm; subst hw')
    | (go_at_call 25; (with_reducible refine (HA.out _ k2).mono ?_); rintro e w3 ⟨rfl, kx⟩; have k3 := k2.trans kx; have y3 := HC.out _ k3)
    | (go_at_call 24; (with_reducible refine (HE.out _ kd).mono ?_); rintro e w2 ⟨rfl, kx⟩; have k2 := kd.trans kx; have y2 := HC.out _ k2))
  all_goals
    go_wp2
    go_ret
    exact ⟨by first | rfl | (rw [show (la : Int) + (r : Int) - 1 = ((la + r : Nat) : Int) - 1 by omega]), k3.kr⟩

/-- end: where the n-th byte 10 stands -/
theorem end_any {B : Nat} : ∀ (t : RT) (g : Nat) (w : World) (n : Nat), RAt w B t g → t.Good → B ≤ w.heap.size → t.text.length ≤ 1000000 → n ≤ t.text.count 10 →
    Calls Try.prog 25 #[.pointer (some ⟨g, 0, none⟩), .int .i64 n] w fun e w' => e = .returned (.int .i64 ((nlEnd t.text n : Nat) - 1)) ∧ KR B g w w' := by
  intro t
  induction t with
  | leaf s =>
    intro g w n hr ht hB hl hn
    obtain ⟨_, d, l, hm, e⟩ := hr
    obtain ⟨c0, c1, _⟩ := rope9 e
    refine (end_leaf ⟨s.toArray⟩ (by rw [Lib.size_eq]; simpa [RT.text] using hl) (by simpa [RT.text] using hn) w c0 c1).mono ?_
    rintro e w' ⟨rfl, rfl⟩
    exact ⟨rfl, KR.refl _ _ _⟩
  | node a b iha ihb =>
    intro g w n hr ht hB hl hn
    obtain ⟨_, ga, gb, d, l, hga, hgb, hm, e, ha, hb⟩ := hr
    have hl' : a.text.length + b.text.length ≤ 1000000 := by simpa [RT.text] using hl
    have hn' : n ≤ a.text.count 10 + b.text.count 10 := by simpa [RT.text] using hn
    have ca := List.count_le_length (a := 10) (l := a.text)
    have cb := List.count_le_length (a := 10) (l := b.text)
    have HC : ∀ W, KL B g w W → W.cell? ⟨g, 1, none⟩ = some (.pointer (some ⟨ga, 0, none⟩)) ∧ W.cell? ⟨g, 2, none⟩ = some (.pointer (some ⟨gb, 0, none⟩)) := by
      intro W hW
      have e' := (hW.past g (Nat.le_refl _) (lt_of_block e)).trans e
      obtain ⟨_, c1, c2, _⟩ := rope9 e'
      exact ⟨c1, c2⟩
    have HE : ∀ W, KL B g w W → Calls Try.prog 24 #[.pointer (some ⟨ga, 0, none⟩)] W fun e w' => e = .returned (.int .i64 (a.text.count 10 : Nat)) ∧ KL B g W w' := fun W hW => (ends_any a ga W (hW.ropes _ _ ha) (Nat.le_trans hB hW.below.size) (by omega)).mono fun e w' h => ⟨h.1, h.2.kl hga⟩
    by_cases h1 : n ≤ a.text.count 10
    · rw [show (RT.node a b).text = a.text ++ b.text from rfl, nlEnd_left _ _ h1]
      have := nlEnd_le a.text n
      exact end_left (by omega) (by omega) (by omega) w hB (fun W hW => (HC W hW).1) (HE w (KL.refl _ _ _)) fun W hW => (iha ga W n (hW.ropes _ _ ha) (Good.left ht) (Nat.le_trans hB hW.below.size) (by omega) h1).mono fun e w' h => ⟨h.1, h.2.kl hga⟩
    · rw [show (RT.node a b).text = a.text ++ b.text from rfl, nlEnd_right _ _ (by omega)]
      have := nlEnd_le b.text (n - a.text.count 10)
      refine end_right (na := a.text.count 10) (by omega) (by omega) (by omega) (by omega) (by omega) w hB HC HE (fun W hW => len_at W (hW.ropes _ _ ha) (Good.left ht)) fun W hW => ?_
      rw [show (n : Int) - (a.text.count 10 : Nat) = ((n - a.text.count 10 : Nat) : Int) by omega]
      exact (ihb gb W _ (hW.ropes _ _ hb) (Good.right ht) (Nat.le_trans hB hW.below.size) (by omega) (by omega)).mono fun e w' h => ⟨h.1, h.2.kl hgb⟩
end Go.Proofs.Ytnmlijngnnlejaa
