/- Ropes: Lines, ahead. -/
import Derived.Test.YtnmlijngnnlejaaRp8
import Derived.Test.YtnmlijngnnlejaaRpEnd
namespace Go.Proofs.Ytnmlijngnnlejaa
open Go.RowKit
set_option linter.unusedVariables false

theorem lines_any {B g : Nat} {t : RT} (w : World) (hr : RAt w B t g) (hB : B ≤ w.heap.size) (hl : t.text.length ≤ 1000000) :
    Calls Try.prog 11 #[.pointer (some ⟨g, 0, none⟩)] w fun e w' => e = .returned (.int .i64 ((t.text.count 10 : Nat) + 1)) ∧ KR B g w w' := by
  have HE := ends_any t g w hr hB hl
  have c1 := List.count_le_length (a := 10) (l := t.text)
  obtain ⟨n, hn⟩ : ∃ n : Nat, n = t.text.count 10 := ⟨_, rfl⟩
  rw [← hn] at HE c1 ⊢
  have c2 : (n : Int) ≤ 1000000 := by omega
  replace HE := Lib.hid HE
  replace hn := Lib.hid hn
  clear hr c1 hl
  go_enter Try.func11, Try.ntmps11
  go_wp2_with fail
  refine HE.out.mono ?_
  rintro e w1 ⟨rfl, k⟩
  replace k := Lib.hid k
  go_wp2
  go_ret
  exact ⟨rfl, k.out⟩

theorem lines_nil (w : World) : Calls Try.prog 11 #[.pointer none] w fun e w' => e = .returned (.int .i64 1) ∧ Below w.heap.size w w' := by
  have HE := Lib.hid (ends_nil w)
  go_enter Try.func11, Try.ntmps11
  go_wp2_with fail
  refine HE.out.mono ?_
  rintro e w1 ⟨rfl, k⟩
  replace k := Lib.hid k
  go_wp2
  go_ret
  exact ⟨rfl, k.out⟩

theorem ahead_low (p : Option Addr) (x : Int) (hx : x ≤ 0) (w : World) : Calls Try.prog 26 #[.pointer p, .int .i64 x] w fun e w' => e = .returned (.int .i64 0) ∧ w' = w := by
  go_enter Try.func26, Try.ntmps26
  go_wp2
  go_ret
  exact ⟨rfl, rfl⟩

theorem ahead_empty (p : Option Addr) (x : Int) (hx : 0 < x) (w : World) (HL : Calls Try.prog 10 #[.pointer p] w fun e w' => e = .returned (.int .i64 0) ∧ w' = w) :
    Calls Try.prog 26 #[.pointer p, .int .i64 x] w fun e w' => e = .returned (.int .i64 0) ∧ w' = w := by
  have hx' : ¬ x ≤ 0 := by omega
  replace HL := Lib.hid HL
  go_enter Try.func26, Try.ntmps26
  go_wp2_with fail
  refine HL.out.mono ?_
  rintro e w' ⟨rfl, hw'⟩
  replace hw' := hw'.symm
  subst hw'
  go_wp2
  go_ret
  exact ⟨rfl, rfl⟩

theorem ahead_all {B g n k : Nat} (p : Option Addr) (x : Int) (hx : 0 < x) (h0 : n ≠ 0) (hn : (n : Int) ≤ x) (w : World) (HL : Calls Try.prog 10 #[.pointer p] w fun e w' => e = .returned (.int .i64 n) ∧ w' = w)
    (HE : Calls Try.prog 24 #[.pointer p] w fun e w' => e = .returned (.int .i64 k) ∧ KR B g w w') :
    Calls Try.prog 26 #[.pointer p, .int .i64 x] w fun e w' => e = .returned (.int .i64 k) ∧ KR B g w w' := by
  have hx' : ¬ x ≤ 0 := by omega
  have h1 : (n : Int) ≠ 0 := by omega
  replace HL := Lib.hid HL
  replace HE := Lib.hid HE
  go_enter Try.func26, Try.ntmps26
  go_wp2_with fail
  refine HL.out.mono ?_
  rintro e w' ⟨rfl, hw'⟩
  replace hw' := hw'.symm
  subst hw'
  go_wp2_with fail
  refine HL.out.mono ?_
  rintro e w' ⟨rfl, hw'⟩
  replace hw' := hw'.symm
  subst hw'
  go_wp2_with fail
  refine HE.out.mono ?_
  rintro e w1 ⟨rfl, hk⟩
  replace hk := Lib.hid hk
  go_wp2
  go_ret
  exact ⟨rfl, hk.out⟩

theorem ahead_leaf {g n : Nat} (s : ByteArray) (x : Int) (hx : 0 < x) (hn : x < n) (hs : n = s.size) (hm : n ≤ 1000000) (w : World) (HL : Calls Try.prog 10 #[.pointer (some ⟨g, 0, none⟩)] w fun e w' => e = .returned (.int .i64 n) ∧ w' = w)
    (c0 : w.cell? ⟨g, 0, none⟩ = some (.string s)) (c1 : w.cell? ⟨g, 1, none⟩ = some (.pointer none)) :
    Calls Try.prog 26 #[.pointer (some ⟨g, 0, none⟩), .int .i64 x] w fun e w' => e = .returned (.int .i64 ((s.data.toList.take x.toNat).count 10 : Nat)) ∧ w' = w := by
  have hx' : ¬ x ≤ 0 := by omega
  have h1 : (n : Int) ≠ 0 := by omega
  have h2 : ¬ (n : Int) ≤ x := by omega
  have h3 : x ≤ (s.size : Int) := by omega
  have h4 : 0 ≤ x := by omega
  have h5 : ¬ x < 0 := by omega
  have h6 : ¬ (s.size : Int) < x := by omega
  replace HL := Lib.hid HL
  replace hs := Lib.hid hs
  have HC := Lib.hid (Try.strings_Count_one (s.extract 0 x.toNat) 10 w)
  have hd : Hid ((s.extract 0 x.toNat).data.toList = s.data.toList.take x.toNat) := Lib.hid (by simp [ByteArray.data_extract])
  go_enter Try.func26, Try.ntmps26
  go_wp2_with fail
  refine HL.out.mono ?_
  rintro e w' ⟨rfl, hw'⟩
  replace hw' := hw'.symm
  subst hw'
  go_wp2_with fail
  refine HL.out.mono ?_
  rintro e w' ⟨rfl, hw'⟩
  replace hw' := hw'.symm
  subst hw'
  go_wp2_with fail
  refine HC.out.mono ?_
  rintro e w' ⟨rfl, hw'⟩
  replace hw' := hw'.symm
  subst hw'
  go_wp2
  go_ret
  exact ⟨rfl, rfl⟩

set_option maxRecDepth 100000 in
set_option maxHeartbeats 4000000 in
theorem ahead_node {B g n la na nb : Nat} {pa pb : Option Addr} (x : Int) (hx : 0 < x) (hn : x < n) (hm : n ≤ 1000000) (hla : la ≤ 1000000) (hna : na ≤ 1000000) (hnb : nb ≤ 1000000) (w : World) (hB : B ≤ w.heap.size) (hpa : pa ≠ none)
    (HL : Calls Try.prog 10 #[.pointer (some ⟨g, 0, none⟩)] w fun e w' => e = .returned (.int .i64 n) ∧ w' = w)
    (HC : ∀ W, KL B g w W → W.cell? ⟨g, 1, none⟩ = some (.pointer pa) ∧ W.cell? ⟨g, 2, none⟩ = some (.pointer pb))
    (HLA : ∀ W, KL B g w W → Calls Try.prog 10 #[.pointer pa] W fun e w' => e = .returned (.int .i64 la) ∧ w' = W)
    (HA : ∀ W, KL B g w W → Calls Try.prog 26 #[.pointer pa, .int .i64 x] W fun e w' => e = .returned (.int .i64 na) ∧ KL B g W w')
    (HB : ∀ W, KL B g w W → Calls Try.prog 26 #[.pointer pb, .int .i64 (x - la)] W fun e w' => e = .returned (.int .i64 nb) ∧ KL B g W w') :
    Calls Try.prog 26 #[.pointer (some ⟨g, 0, none⟩), .int .i64 x] w fun e w' => e = .returned (.int .i64 (na + nb : Nat)) ∧ KR B g w w' := by
  have hx' : ¬ x ≤ 0 := by omega
  have h1 : (n : Int) ≠ 0 := by omega
  have h2 : ¬ (n : Int) ≤ x := by omega
  have kd : KL B g w w.drew := KL.of_below hB (Below.refl _ _).drew
  have y0 := HC _ (KL.refl B g w)
  have y1 := HC _ kd
  obtain ⟨aa, rfl⟩ : ∃ aa, pa = some aa := by cases pa with | none => exact (hpa rfl).elim | some a => exact ⟨a, rfl⟩
  replace HL := Lib.hid HL
  replace HC := Lib.hid HC
  replace HLA := Lib.hid HLA
  replace HA := Lib.hid HA
  replace HB := Lib.hid HB
  have kw1 : IntKind.i64.wrap ((na : Int) + (nb : Int)) = (na : Int) + (nb : Int) := IntWalk.i64_in _ (by omega)
  have kw2 : IntKind.i64.wrap (x - (la : Int)) = x - (la : Int) := IntWalk.i64_in _ (by omega)
  have hcast : Hid ((na : Int) + (nb : Int) = ((na + nb : Nat) : Int)) := Lib.hid (by omega)
  go_enter Try.func26, Try.ntmps26
  obtain ⟨c1, c2⟩ := y0
  go_wp2_with fail
  refine HL.out.mono ?_
  rintro e w' ⟨rfl, hw'⟩
  replace hw' := hw'.symm
  subst hw'
  go_wp2_with fail
  refine HL.out.mono ?_
  rintro e w' ⟨rfl, hw'⟩
  replace hw' := hw'.symm
  subst hw'
  go_wp2_with fail
  have y0 := And.intro c1 c2
  go_region_held3 (fun x : World => x.cell? ⟨g, 1, none⟩ = some (.pointer (some aa)) ∧ x.cell? ⟨g, 2, none⟩ = some (.pointer pb)) (first | with_reducible exact y0 | with_reducible exact y1 | with_reducible exact y2 | with_reducible exact y3) (first
    | (go_at_call 10; (with_reducible refine (HLA.out _ k1).mono ?_); rintro e w' ⟨rfl, hw'⟩; replace hw' := hw'.symm; subst hw')
    | (go_at_call 26; (with_reducible refine (HB.out _ k1).mono ?_); rintro e w2 ⟨rfl, kx⟩; have k2 := k1.trans kx; have y3 := HC.out _ k2)
    | (go_at_call 26; (with_reducible refine (HA.out _ kd).mono ?_); rintro e w1 ⟨rfl, kx⟩; have k1 := kd.trans kx; have y2 := HC.out _ k1))
  all_goals
    go_wp2
    go_ret
    exact ⟨rfl, k2.kr⟩

theorem Good.left {a b : RT} (h : (RT.node a b).Good) : a.Good := by
  rcases h with h | h
  · exact .inl h.1
  · cases h
theorem Good.right {a b : RT} (h : (RT.node a b).Good) : b.Good := by
  rcases h with h | h
  · exact .inl h.2
  · cases h

theorem len_at {B g : Nat} {t : RT} (w : World) (hr : RAt w B t g) (ht : t.Good) : Calls Try.prog 10 #[.pointer (some ⟨g, 0, none⟩)] w fun e w' => e = .returned (.int .i64 t.text.length) ∧ w' = w :=
  len_any (o := some t) w ⟨ht, g, rfl, hr⟩

/-- ahead: how many bytes 10 stand ahead of a place -/
theorem ahead_any {B : Nat} : ∀ (t : RT) (g : Nat) (w : World) (x : Int), RAt w B t g → t.Good → B ≤ w.heap.size → t.text.length ≤ 1000000 → -1000000 ≤ x → x ≤ 1000000 →
    Calls Try.prog 26 #[.pointer (some ⟨g, 0, none⟩), .int .i64 x] w fun e w' => e = .returned (.int .i64 ((t.text.take x.toNat).count 10 : Nat)) ∧ KR B g w w' := by
  intro t
  induction t with
  | leaf s =>
    intro g w x hr ht hB hl x1 x2
    by_cases h1 : x ≤ 0
    · refine (ahead_low _ x h1 w).mono ?_
      rintro e w' ⟨rfl, rfl⟩
      rw [show x.toNat = 0 by omega]
      exact ⟨by simp, KR.refl _ _ _⟩
    · have HL := len_at w hr ht
      by_cases h2 : (RT.leaf s).text.length = 0
      · rw [h2] at HL
        refine (ahead_empty _ x (by omega) w HL).mono ?_
        rintro e w' ⟨rfl, rfl⟩
        rw [List.length_eq_zero_iff.1 h2]
        exact ⟨by simp, KR.refl _ _ _⟩
      · by_cases h3 : ((RT.leaf s).text.length : Int) ≤ x
        · have HE := ends_any (.leaf s) g w hr hB hl
          rw [List.take_of_length_le (by omega)]
          exact ahead_all _ x (by omega) h2 h3 w HL HE
        · have hr' := hr
          obtain ⟨_, d, l, hm, e⟩ := hr'
          obtain ⟨c0, c1, _⟩ := rope9 e
          refine (ahead_leaf ⟨s.toArray⟩ x (by omega) (n := (RT.leaf s).text.length) (by omega) (by rw [Lib.size_eq]; rfl) hl w HL c0 c1).mono ?_
          rintro e w' ⟨rfl, rfl⟩
          exact ⟨rfl, KR.refl _ _ _⟩
  | node a b iha ihb =>
    intro g w x hr ht hB hl x1 x2
    by_cases h1 : x ≤ 0
    · refine (ahead_low _ x h1 w).mono ?_
      rintro e w' ⟨rfl, rfl⟩
      rw [show x.toNat = 0 by omega]
      exact ⟨by simp, KR.refl _ _ _⟩
    · have HL := len_at w hr ht
      by_cases h2 : (RT.node a b).text.length = 0
      · rw [h2] at HL
        refine (ahead_empty _ x (by omega) w HL).mono ?_
        rintro e w' ⟨rfl, rfl⟩
        rw [List.length_eq_zero_iff.1 h2]
        exact ⟨by simp, KR.refl _ _ _⟩
      · by_cases h3 : ((RT.node a b).text.length : Int) ≤ x
        · have HE := ends_any (.node a b) g w hr hB hl
          rw [List.take_of_length_le (by omega)]
          exact ahead_all _ x (by omega) h2 h3 w HL HE
        · have hr' := hr
          obtain ⟨_, ga, gb, d, l, hga, hgb, hm, e, ha, hb⟩ := hr'
          have hl' : a.text.length + b.text.length ≤ 1000000 := by simpa [RT.text] using hl
          have ca := List.count_le_length (a := 10) (l := a.text.take x.toNat)
          have cb := List.count_le_length (a := 10) (l := b.text.take (x - a.text.length).toNat)
          rw [List.length_take] at ca cb
          have hc : (((RT.node a b).text.take x.toNat).count 10 : Nat) = (a.text.take x.toNat).count 10 + (b.text.take (x - a.text.length).toNat).count 10 := by
            rw [show (RT.node a b).text = a.text ++ b.text from rfl, List.take_append, List.count_append, show x.toNat - a.text.length = (x - (a.text.length : Int)).toNat by omega]
          rw [hc]
          refine ahead_node (la := a.text.length) (n := (RT.node a b).text.length) (pa := some ⟨ga, 0, none⟩) (pb := some ⟨gb, 0, none⟩) x (by omega) (by omega) hl (by omega) (by omega) (by omega) w hB (by simp) HL ?_ ?_ ?_ ?_
          · intro W hW
            have e' := (hW.past g (Nat.le_refl _) (lt_of_block e)).trans e
            obtain ⟨_, c1, c2, _⟩ := rope9 e'
            exact ⟨c1, c2⟩
          · intro W hW
            exact len_at W (hW.ropes _ _ ha) (Good.left ht)
          · intro W hW
            exact (iha ga W x (hW.ropes _ _ ha) (Good.left ht) (Nat.le_trans hB hW.below.size) (by omega) x1 x2).mono fun e w' h => ⟨h.1, h.2.kl (by omega)⟩
          · intro W hW
            exact (ihb gb W _ (hW.ropes _ _ hb) (Good.right ht) (Nat.le_trans hB hW.below.size) (by omega) (by omega) (by omega)).mono fun e w' h => ⟨h.1, h.2.kl (by omega)⟩
end Go.Proofs.Ytnmlijngnnlejaa
