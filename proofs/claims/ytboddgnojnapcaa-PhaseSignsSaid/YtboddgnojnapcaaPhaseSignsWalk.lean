/- PhaseSigns: the walk. -/
import Derived.Test.YtboddgnojnapcaaPhase5
import Derived.Test.YtboddgnojnapcaaPhSpec4
namespace Go.Proofs.Ytboddgnojnapcaa
open Go.RowKit
set_option linter.unusedVariables false

theorem app_data' (a b : ByteArray) : (a ++ b).data.toList = a.data.toList ++ b.data.toList := by
  rw [ByteArray.data_append]; simp

/-- the text of the second part -/
def sOf (m : ByteArray) : Nat → ByteArray
  | 0 => ⟨#[97]⟩
  | k + 1 => sOf m k ++ m

theorem sOf_data (m : ByteArray) : ∀ k, (sOf m k).data.toList = [97] ++ marks m.data.toList k
  | 0 => rfl
  | k + 1 => by rw [sOf, app_data', sOf_data m k, marks_snoc, List.append_assoc]

theorem sOf_size (m : ByteArray) (k : Nat) : (sOf m k).size = 1 + k * m.size := by
  rw [Lib.size_eq, sOf_data, List.length_append, marks_len, ← Lib.size_eq]; rfl

def txt (c : UInt8) : ByteArray := ⟨#[120, 63, 63]⟩ ++ ⟨#[c]⟩ ++ ⟨#[121]⟩

theorem txt_data (c : UInt8) : (txt c).data.toList = [120, 63, 63, c, 121] := by
  unfold txt; rw [app_data', app_data']; rfl

theorem txt_size (c : UInt8) : (txt c).size = 5 := by rw [Lib.size_eq, txt_data]; rfl

theorem ch_row {s : ByteArray} {R : List Rn} {N : Nat} (hs : s.size ≤ 1000000) (hR : charsL s.data.toList = R) (hN : R.length = N) (w : World) :
    Calls Try.prog 13 #[.string s] w fun e w' => ∃ ao cap, e = .returned (.slice ao N cap) ∧ Row w' 3 ao (R.map Rn.v) ∧ Below w.heap.size w w' := by
  refine (chars_any s hs w).mono ?_
  rintro e w' ⟨v, rfl, hown, hb⟩
  rw [hR] at hown
  obtain ⟨ao, cap, rfl, _, _, hr, _⟩ := hown.rown (n := N) (by simpa using hN)
  exact ⟨ao, cap, rfl, hr, hb⟩

theorem tri_some {c d : UInt8} (h : tri c = some d) (w : World) :
    Calls Try.prog 10 #[.int .u8 c.toNat] w fun e w' => e = .returned (.tuple #[.int .u8 d.toNat, .bool true]) ∧ w = w' := by
  have := trigraph_any c w
  rw [h] at this
  exact this

theorem tri_none {c : UInt8} (h : tri c = none) (w : World) :
    Calls Try.prog 10 #[.int .u8 c.toNat] w fun e w' => e = .returned (.tuple #[.int .u8 0, .bool false]) ∧ w = w' := by
  have := trigraph_any c w
  rw [h] at this
  exact this

theorem any_take (L : List UInt8) (p : UInt8 → Bool) (k : Nat) (hk : k < L.length) : (L.take (k + 1)).any p = ((L.take k).any p || p L[k]) := by
  rw [List.take_succ_eq_append_getElem hk, List.any_append]
  simp

theorem nine_succ (c : UInt8) {k : Nat} (hk : k < 9) : nineB c (k + 1) = (nineB c k || (froms[k]'hk == c)) :=
  any_take froms (· == c) k hk

theorem u8_beq_eq (a b : UInt8) : ((a.toNat : Int) == (b.toNat : Int)) = (a == b) := by
  rw [Bool.eq_iff_iff, beq_iff_eq, beq_iff_eq]
  constructor
  · intro h; exact UInt8.toNat_inj.1 (by omega)
  · rintro rfl; rfl

theorem ch_marks {M S : ByteArray} {k : Nat} (hm : M.data.toList = [92, 10] ∨ M.data.toList = [63, 63, 47, 10]) (hS : sOf M k = S) (hs : S.size ≤ 1000) (w : World) :
    Calls Try.prog 13 #[.string (S ++ ⟨#[98]⟩)] w fun e w' => ∃ b o cap, e = .returned (.slice (some ⟨b, o, none⟩) 3 cap) ∧ w'.cell? ⟨b, o, none⟩ = some (.int .u8 97) ∧
      w'.cell? ⟨b, o + 3, none⟩ = some (.int .u8 98) ∧ w'.cell? ⟨b, o + 3 + 1, none⟩ = some (.int .i64 S.size) ∧ w'.cell? ⟨b, o + 3 + 2, none⟩ = some (.int .i64 ((S.size : Int) + 1)) ∧ w'.cell? ⟨b, o + 6, none⟩ = some (.int .u8 10) ∧ Below w.heap.size w w' := by
  have hsz : S.size = 1 + k * M.data.toList.length := by rw [← hS, sOf_size, Lib.size_eq]
  refine (ch_row (s := S ++ ⟨#[98]⟩) (R := [⟨97, 0, 1⟩, ⟨98, S.size, S.size + 1⟩, ⟨10, S.size + 1, S.size + 1⟩]) (by rw [ByteArray.size_append]; have : (⟨#[98]⟩ : ByteArray).size = 1 := rfl; omega) ?_ rfl w).mono ?_
  · rw [app_data', ← hS, sOf_data, show (⟨#[98]⟩ : ByteArray).data.toList = [98] from rfl, chars_marks hm k, hS, hsz]
  · rintro e w' ⟨ao, cap, rfl, hr, hb⟩
    obtain ⟨b, o, rfl, hat⟩ := hr (by simp)
    refine ⟨b, o, cap, rfl, ?_, ?_, ?_, ?_, ?_, hb⟩
    · have := hat.cell (i := 0) (cs := Rn.v ⟨97, 0, 1⟩) rfl (j := 0) (u := .int .u8 97) rfl
      simpa using this
    · have := hat.cell (i := 1) (cs := Rn.v ⟨98, S.size, S.size + 1⟩) rfl (j := 0) (u := .int .u8 98) rfl
      simpa using this
    · have := hat.cell (i := 1) (cs := Rn.v ⟨98, S.size, S.size + 1⟩) rfl (j := 1) (u := .int .i64 S.size) rfl
      simpa using this
    · have := hat.cell (i := 1) (cs := Rn.v ⟨98, S.size, S.size + 1⟩) rfl (j := 2) (u := .int .i64 ((S.size : Int) + 1)) rfl
      simpa using this
    · have := hat.cell (i := 2) (cs := Rn.v ⟨10, S.size + 1, S.size + 1⟩) rfl (j := 0) (u := .int .u8 10) rfl
      simpa using this

set_option maxHeartbeats 2000000 in
theorem phaseSigns_walk (a0 : Int) (w0 : (Lit.int .u8 a0).wf = true) (n : Int) (w1 : (Lit.int .i64 n).wf = true) (tr : Bool) (w : World) :
    Calls Try.prog 6 #[.int .u8 a0, .int .i64 n, .bool tr] w fun e w' => e = .returned (.bool true) ∧ Below w.heap.size w w' := by
  obtain ⟨c, rfl⟩ := u8_arg w0
  clear w0 w1
  by_cases hn : n < 0 ∨ 100 < n
  · go_enter Try.func6, Try.ntmps6
    rcases hn with hn | hn
    all_goals
      go_wp2_with (go_at_call 9; refine (awake_any _).mono ?_; rintro e w' ⟨rfl, hb⟩)
      go_ret
      exact ⟨rfl, hb⟩
  · have hn0 : 0 ≤ n := by omega
    have hn1 : n ≤ 100 := by omega
    clear hn
    have hcv : (convert 36 9 (.slice (some ⟨w.heap.size, 0, none⟩) 1 1)).run Try.prog (w.alloc (.cells #[.int .u8 c.toNat] 5)) = .ok (.string ⟨#[c]⟩) (w.alloc (.cells #[.int .u8 c.toNat] 5)) :=
      run_convert_bytes_back _ _ _ 5 ⟨w.heap.size, 0, none⟩ 1 [c] Try.underlying36 Try.underlying5 Try.underlying9 (fun j hj => by
        have : j = 0 := by simp at hj; exact hj
        subst this
        rw [Addr.add_lit]
        exact cell_new w [.int .u8 c.toNat] 5 rfl)
    go_enter Try.func6, Try.ntmps6
    go_wp2_with fail
    cases ht : tri c with
    | some d =>
      have h5 := nine_end c
      rw [ht] at h5
      have H5 := Lib.hid h5
      have HT := Lib.hid ht
      clear ht h5 hcv
      refine (ch_row (s := txt c) (R := [⟨120, 0, 1⟩, ⟨d, 1, 4⟩, ⟨121, 4, 5⟩, ⟨10, 5, 5⟩]) (by rw [txt_size]; decide) (by rw [txt_data]; exact signs_some HT.out) rfl _).mono ?_
      rintro e w1 ⟨ao, cap, rfl, hr, hb1⟩
      obtain ⟨b, o, rfl, hat⟩ := hr (by simp)
      have c3 := hat.cell (i := 1) (cs := Rn.v ⟨d, 1, 4⟩) rfl (j := 0) (u := .int .u8 d.toNat) rfl
      have c4 := hat.cell (i := 1) (cs := Rn.v ⟨d, 1, 4⟩) rfl (j := 1) (u := .int .i64 1) rfl
      have c5 := hat.cell (i := 1) (cs := Rn.v ⟨d, 1, 4⟩) rfl (j := 2) (u := .int .i64 4) rfl
      simp only [Nat.one_mul, Nat.add_zero] at c3 c4 c5
      have hb0 : Below w.heap.size w w1 := ((Below.refl _ w).alloc (Nat.le_refl _) _).trans (hb1.mono (by simp))
      clear hr hat hb1
      go_wp2_with (go_at_call 10; refine (tri_some HT.out _).mono ?_; rintro e w' ⟨rfl, rfl⟩)
      go_loop [10, 11] (fun b i => ∃ k : Nat, k ≤ 9 ∧ i = .int .i64 k ∧ b = .bool (nineB c k)) (fun _ i => 9 - (intOf i).toNat)
      case atStart => exact ⟨0, Nat.zero_le _, rfl, rfl⟩
      case round =>
        obtain ⟨k, hk, rfl, rfl⟩ := hrel
        by_cases hlt : k < 9
        · have hs := nine_succ c hlt
          cases hq : nineB c k
          · rw [hq] at hs
            have HS := Lib.hid hs; clear hs hq
            go_wp2
            refine ⟨⟨k + 1, by omega, by go_num, ?_⟩, by simp [intOf]; omega⟩
            rw [HS.out]
            exact congrArg Value.bool (u8_beq_eq (froms[k]'hlt) c)
          · rw [hq] at hs
            have HS := Lib.hid hs; clear hs hq
            go_wp2
            exact ⟨⟨k + 1, by omega, by go_num, by rw [HS.out]; rfl⟩, by simp [intOf]; omega⟩
        · obtain rfl : k = 9 := by omega
          rw [H5.out]
          clear hk hlt
          cases tr
          · go_wp2
            all_goals try (exfalso; omega)
            go_loop [13, 14] (fun s i => ∃ k : Nat, (k : Int) ≤ n ∧ i = .int .i64 k ∧ s = .string (sOf ⟨#[92, 10]⟩ k)) (fun _ i => (n - intOf i).toNat)
            case atStart => exact ⟨0, by omega, rfl, rfl⟩
            case round =>
              obtain ⟨k, hk, rfl, rfl⟩ := hrel
              have hsz := sOf_size ⟨#[92, 10]⟩ k
              have hszm : (⟨#[92, 10]⟩ : ByteArray).size = 2 := rfl
              rw [hszm] at hsz
              obtain ⟨S, hS⟩ : ∃ S, sOf ⟨#[92, 10]⟩ k = S := ⟨_, rfl⟩
              rw [hS] at hsz ⊢
              have hSb : S.size ≤ 1000 := by omega
              clear hsz hszm
              have HS := Lib.hid hS; clear hS
              by_cases hlt : (k : Int) < n
              · go_wp2
                exact ⟨⟨k + 1, by omega, by go_num, by rw [← HS.out]; rfl⟩, by simp [intOf]; omega⟩
              · go_wp2_with fail
                refine (ch_marks (.inl rfl) HS.out hSb _).mono ?_
                rintro e w2 ⟨b2, o2, cap2, rfl, d0, d1, d2, d3, d4, hb2⟩
                have hb3 := bstep hb0 hb2 hb0.size
                clear hb0 hb2
                go_wp2_with fail
                refine (awake_any _).mono ?_
                rintro e w3 ⟨rfl, hb4⟩
                go_wp2
                go_ret
                exact ⟨rfl, bstep hb3 hb4 hb3.size⟩
          · go_wp2
            all_goals try (exfalso; omega)
            go_loop [13, 14] (fun s i => ∃ k : Nat, (k : Int) ≤ n ∧ i = .int .i64 k ∧ s = .string (sOf ⟨#[63, 63, 47, 10]⟩ k)) (fun _ i => (n - intOf i).toNat)
            case atStart => exact ⟨0, by omega, rfl, rfl⟩
            case round =>
              obtain ⟨k, hk, rfl, rfl⟩ := hrel
              have hsz := sOf_size ⟨#[63, 63, 47, 10]⟩ k
              have hszm : (⟨#[63, 63, 47, 10]⟩ : ByteArray).size = 4 := rfl
              rw [hszm] at hsz
              obtain ⟨S, hS⟩ : ∃ S, sOf ⟨#[63, 63, 47, 10]⟩ k = S := ⟨_, rfl⟩
              rw [hS] at hsz ⊢
              have hSb : S.size ≤ 1000 := by omega
              clear hsz hszm
              have HS := Lib.hid hS; clear hS
              by_cases hlt : (k : Int) < n
              · go_wp2
                exact ⟨⟨k + 1, by omega, by go_num, by rw [← HS.out]; rfl⟩, by simp [intOf]; omega⟩
              · go_wp2_with fail
                refine (ch_marks (.inr rfl) HS.out hSb _).mono ?_
                rintro e w2 ⟨b2, o2, cap2, rfl, d0, d1, d2, d3, d4, hb2⟩
                have hb3 := bstep hb0 hb2 hb0.size
                clear hb0 hb2
                go_wp2_with fail
                refine (awake_any _).mono ?_
                rintro e w3 ⟨rfl, hb4⟩
                go_wp2
                go_ret
                exact ⟨rfl, bstep hb3 hb4 hb3.size⟩
    | none =>
      have h5 := nine_end c
      rw [ht] at h5
      have H5 := Lib.hid h5
      have HT := Lib.hid ht
      clear ht h5 hcv
      obtain ⟨r3, l, hR, hll⟩ := signs_none HT.out
      obtain ⟨N, hN⟩ : ∃ N, l.length + 4 = N := ⟨_, rfl⟩
      have hN1 : 4 ≤ N := by omega
      have hN2 : N ≤ 14 := by omega
      have HR := Lib.hid hR
      have HN := Lib.hid hN
      clear hR hN hll
      refine (ch_row (s := txt c) (R := ⟨120, 0, 1⟩ :: ⟨63, 1, 2⟩ :: ⟨63, 2, 3⟩ :: r3 :: l) (by rw [txt_size]; decide) (by rw [txt_data]; exact HR.out) HN.out _).mono ?_
      rintro e w1 ⟨ao, cap, rfl, hr, hb1⟩
      obtain ⟨b, o, rfl, hat⟩ := hr (by simp)
      have c3 : w1.cell? ⟨b, o + 3, none⟩ = some (.int .u8 63) := by
        have := hat.cell (i := 1) (cs := Rn.v ⟨63, 1, 2⟩) rfl (j := 0) (u := .int .u8 63) rfl
        simpa using this
      have hb0 : Below w.heap.size w w1 := ((Below.refl _ w).alloc (Nat.le_refl _) _).trans (hb1.mono (by simp))
      clear hr hat hb1
      go_wp2_with (go_at_call 10; refine (tri_none HT.out _).mono ?_; rintro e w' ⟨rfl, rfl⟩)
      go_loop [10, 11] (fun b i => ∃ k : Nat, k ≤ 9 ∧ i = .int .i64 k ∧ b = .bool (nineB c k)) (fun _ i => 9 - (intOf i).toNat)
      case atStart => exact ⟨0, Nat.zero_le _, rfl, rfl⟩
      case round =>
        obtain ⟨k, hk, rfl, rfl⟩ := hrel
        by_cases hlt : k < 9
        · have hs := nine_succ c hlt
          cases hq : nineB c k
          · rw [hq] at hs
            have HS := Lib.hid hs; clear hs hq
            go_wp2
            refine ⟨⟨k + 1, by omega, by go_num, ?_⟩, by simp [intOf]; omega⟩
            rw [HS.out]
            exact congrArg Value.bool (u8_beq_eq (froms[k]'hlt) c)
          · rw [hq] at hs
            have HS := Lib.hid hs; clear hs hq
            go_wp2
            exact ⟨⟨k + 1, by omega, by go_num, by rw [HS.out]; rfl⟩, by simp [intOf]; omega⟩
        · obtain rfl : k = 9 := by omega
          rw [H5.out]
          clear hk hlt
          cases tr
          · go_wp2
            all_goals try (exfalso; omega)
            go_loop [13, 14] (fun s i => ∃ k : Nat, (k : Int) ≤ n ∧ i = .int .i64 k ∧ s = .string (sOf ⟨#[92, 10]⟩ k)) (fun _ i => (n - intOf i).toNat)
            case atStart => exact ⟨0, by omega, rfl, rfl⟩
            case round =>
              obtain ⟨k, hk, rfl, rfl⟩ := hrel
              have hsz := sOf_size ⟨#[92, 10]⟩ k
              have hszm : (⟨#[92, 10]⟩ : ByteArray).size = 2 := rfl
              rw [hszm] at hsz
              obtain ⟨S, hS⟩ : ∃ S, sOf ⟨#[92, 10]⟩ k = S := ⟨_, rfl⟩
              rw [hS] at hsz ⊢
              have hSb : S.size ≤ 1000 := by omega
              clear hsz hszm
              have HS := Lib.hid hS; clear hS
              by_cases hlt : (k : Int) < n
              · go_wp2
                exact ⟨⟨k + 1, by omega, by go_num, by rw [← HS.out]; rfl⟩, by simp [intOf]; omega⟩
              · go_wp2_with fail
                refine (ch_marks (.inl rfl) HS.out hSb _).mono ?_
                rintro e w2 ⟨b2, o2, cap2, rfl, d0, d1, d2, d3, d4, hb2⟩
                have hb3 := bstep hb0 hb2 hb0.size
                clear hb0 hb2
                go_wp2_with fail
                refine (awake_any _).mono ?_
                rintro e w3 ⟨rfl, hb4⟩
                go_wp2
                go_ret
                exact ⟨rfl, bstep hb3 hb4 hb3.size⟩
          · go_wp2
            all_goals try (exfalso; omega)
            go_loop [13, 14] (fun s i => ∃ k : Nat, (k : Int) ≤ n ∧ i = .int .i64 k ∧ s = .string (sOf ⟨#[63, 63, 47, 10]⟩ k)) (fun _ i => (n - intOf i).toNat)
            case atStart => exact ⟨0, by omega, rfl, rfl⟩
            case round =>
              obtain ⟨k, hk, rfl, rfl⟩ := hrel
              have hsz := sOf_size ⟨#[63, 63, 47, 10]⟩ k
              have hszm : (⟨#[63, 63, 47, 10]⟩ : ByteArray).size = 4 := rfl
              rw [hszm] at hsz
              obtain ⟨S, hS⟩ : ∃ S, sOf ⟨#[63, 63, 47, 10]⟩ k = S := ⟨_, rfl⟩
              rw [hS] at hsz ⊢
              have hSb : S.size ≤ 1000 := by omega
              clear hsz hszm
              have HS := Lib.hid hS; clear hS
              by_cases hlt : (k : Int) < n
              · go_wp2
                exact ⟨⟨k + 1, by omega, by go_num, by rw [← HS.out]; rfl⟩, by simp [intOf]; omega⟩
              · go_wp2_with fail
                refine (ch_marks (.inr rfl) HS.out hSb _).mono ?_
                rintro e w2 ⟨b2, o2, cap2, rfl, d0, d1, d2, d3, d4, hb2⟩
                have hb3 := bstep hb0 hb2 hb0.size
                clear hb0 hb2
                go_wp2_with fail
                refine (awake_any _).mono ?_
                rintro e w3 ⟨rfl, hb4⟩
                go_wp2
                go_ret
                exact ⟨rfl, bstep hb3 hb4 hb3.size⟩
end Go.Proofs.Ytboddgnojnapcaa
