/- PathsKeep: the walk. -/
import Derived.Test.YtemgjcicikoadaaDoorPa11
namespace Go.Proofs.YtemgjcicikoadaaDoor
open Go.RowKit
set_option linter.unusedVariables false

theorem resV_some (a : ByteArray) : resV (some a.data.toList) = .tuple #[.string a, .int .i64 0] := by
  unfold resV
  exact congrArg (fun x => Value.tuple #[.string x, .int .i64 0]) (str_lit rfl).symm

theorem pclean_some (s : ByteArray) (hs : s.size ≤ 90000) (a : ByteArray) (h : cleanP s.data.toList = some a.data.toList) (w : World) : Calls Tryd.prog 7 #[.string s] w fun e w' => e = .returned (.tuple #[.string a, .int .i64 0]) ∧ Below w.heap.size w w' := by
  rw [← resV_some]; exact pclean_res s hs _ h w
theorem pjoin_some (d p : ByteArray) (hs : d.size + 1 + p.size ≤ 90000) (a : ByteArray) (h : joinedP d.data.toList p.data.toList = some a.data.toList) (w : World) : Calls Tryd.prog 9 #[.string d, .string p] w fun e w' => e = .returned (.tuple #[.string a, .int .i64 0]) ∧ Below w.heap.size w w' := by
  rw [← resV_some]; exact pjoin_res d p hs _ h w

theorem ValidP.size {a : ByteArray} (h : ValidP a.data.toList) : a.size ≤ 80 := by rw [Lib.size_eq]; exact h.1

theorem upsP_len (k : Nat) : (upsP k).length = 3 * k := by
  induction k with
  | zero => rfl
  | succ k ih => simp only [upsP, List.length_append, ih]; simp; omega

set_option maxRecDepth 100000 in
set_option maxHeartbeats 1000000 in
theorem pathsKeep_walk (d : ByteArray) (w0 : d.size ≤ 9223372036854775807) (p : ByteArray) (w1 : p.size ≤ 9223372036854775807) (w : World) :
    Calls Tryd.prog 4 #[.string d, .string p] w fun e w' => e = .returned (.bool true) ∧ Below w.heap.size w w' := by
  have HA := Lib.hid pawake_any
  by_cases hd : d.size ≤ 100
  · have e0 : ¬ (100 : Int) < (d.size : Int) := by omega
    by_cases hp : p.size ≤ 100
    · have e1 : ¬ (100 : Int) < (p.size : Int) := by omega
      cases ho : cleanP p.data.toList with
      | none =>
        have C1 := Lib.hid (pclean_res p (by omega) none ho)
        have C2 := fun w => pvalid_any p (by omega) w
        rw [decide_eq_false (cleanP_not ho)] at C2
        replace C2 := Lib.hid C2
        replace ho := Lib.hid ho
        unfold resV at C1
        go_enter Tryd.func4, Tryd.ntmps4
        go_wp2_with fail
        refine (C1.out _).mono ?_
        rintro e w1 ⟨rfl, b1⟩
        go_wp2_with fail
        refine (C2.out _).mono ?_
        rintro e w2 ⟨rfl, b2⟩
        have B2 := bstep b1 b2 b1.size
        go_wp2_with fail
        refine (HA.out _).mono ?_
        rintro e w3 ⟨rfl, b3⟩
        have B3 := bstep B2 b3 B2.size
        go_wp2
        go_ret
        exact ⟨rfl, B3⟩
      | some l =>
        obtain ⟨a, ha⟩ : ∃ a : ByteArray, a.data.toList = l := ⟨⟨l.toArray⟩, rfl⟩
        rw [← ha] at ho
        have hv := cleanP_valid ho
        have hvs := hv.size
        have hs1 : 2 + p.size ≤ 9223372036854775807 := by omega
        have hs2 : ((⟨#[46, 47]⟩ : ByteArray) ++ p).size + 2 ≤ 9223372036854775807 := by rw [ByteArray.size_append]; have : (⟨#[46, 47]⟩ : ByteArray).size = 2 := rfl; omega
        have C1 := Lib.hid (pclean_some p (by omega) a ho)
        have C2 := Lib.hid (pclean_some a (by omega) a (cleanP_same ho))
        have C3 := Lib.hid (pclean_some ((⟨#[46, 47]⟩ : ByteArray) ++ p ++ (⟨#[47, 46]⟩ : ByteArray)) (by rw [ByteArray.size_append, ByteArray.size_append]; have : (⟨#[46, 47]⟩ : ByteArray).size = 2 := rfl; have : (⟨#[47, 46]⟩ : ByteArray).size = 2 := rfl; omega) a (by rw [data_app, data_app]; exact (clean_dotted p.data.toList).trans ho))
        have C4 := fun w => pvalid_any a (by omega) w
        rw [decide_eq_true hv] at C4
        replace C4 := Lib.hid C4
        replace ho := Lib.hid ho
        replace hv := Lib.hid hv
        replace ha := Lib.hid ha
        cases hq : cleanP d.data.toList with
        | none =>
          have C5 := Lib.hid (pclean_res d (by omega) none hq)
          unfold resV at C5
          replace hq := Lib.hid hq
          go_enter Tryd.func4, Tryd.ntmps4
          go_wp2_with fail
          refine (C1.out _).mono ?_
          rintro e w1 ⟨rfl, b1⟩
          go_wp2_with fail
          refine (C2.out _).mono ?_
          rintro e w2 ⟨rfl, b2⟩
          have B2 := bstep b1 b2 b1.size
          go_wp2_with fail
          refine (C3.out _).mono ?_
          rintro e w3 ⟨rfl, b3⟩
          have B3 := bstep B2 b3 B2.size
          go_wp2_with fail
          refine (C4.out _).mono ?_
          rintro e w4 ⟨rfl, b4⟩
          have B4 := bstep B3 b4 B3.size
          go_wp2_with fail
          refine (C5.out _).mono ?_
          rintro e w5 ⟨rfl, b5⟩
          have B5 := bstep B4 b5 B4.size
          go_wp2_with fail
          refine (HA.out _).mono ?_
          rintro e w6 ⟨rfl, b6⟩
          have B6 := bstep B5 b6 B5.size
          go_wp2
          go_ret
          exact ⟨rfl, B6⟩
        | some m =>
          obtain ⟨c, hc⟩ : ∃ c : ByteArray, c.data.toList = m := ⟨⟨m.toArray⟩, rfl⟩
          rw [← hc] at hq
          have hcv := cleanP_valid hq
          have hcs := hcv.size
          have C5 := Lib.hid (pclean_some d (by omega) c hq)
          have HCV := Lib.hid hcv
          replace hq := Lib.hid hq
          replace hc := Lib.hid hc
          have HJ := Lib.hid (pjoin_res c a (by omega) _ (joined_keep hcv hv.out))
          have HK := fun (b : ByteArray) (hb : b.data.toList = upsP (partsL c.data.toList).length) (hz : b.size ≤ 300) => pjoin_some c (b ++ a) (by rw [ByteArray.size_append]; omega) a (by rw [data_app, hb]; exact joined_back HCV.out hv.out)
          replace HK := Lib.hid HK
          have HPa := Lib.hid (fun w => parts_any c (by omega) w)
          obtain ⟨n, hn⟩ : ∃ n, n = (partsL c.data.toList).length := ⟨_, rfl⟩
          have hn8 : n ≤ 81 := by
            have := partsL_count c.data.toList
            rw [← Lib.size_eq] at this
            omega
          replace hn := Lib.hid hn
          clear hcv
          go_enter Tryd.func4, Tryd.ntmps4
          go_wp2_with fail
          refine (C1.out _).mono ?_
          rintro e w1 ⟨rfl, b1⟩
          go_wp2_with fail
          refine (C2.out _).mono ?_
          rintro e w2 ⟨rfl, b2⟩
          have B2 := bstep b1 b2 b1.size
          go_wp2_with fail
          refine (C3.out _).mono ?_
          rintro e w3 ⟨rfl, b3⟩
          have B3 := bstep B2 b3 B2.size
          go_wp2_with fail
          refine (C4.out _).mono ?_
          rintro e w4 ⟨rfl, b4⟩
          have B4 := bstep B3 b4 B3.size
          go_wp2_with fail
          refine (C5.out _).mono ?_
          rintro e w5 ⟨rfl, b5⟩
          have B5 := bstep B4 b5 B4.size
          go_wp2_with fail
          refine (HJ.out _).mono ?_
          rintro e w6 ⟨rfl, b6⟩
          have B6 := bstep B5 b6 B5.size
          clear b1 b2 b3 b4 b5 b6 B2 B3 B4 B5 C1 C2 C3 C4 C5 HJ
          obtain ⟨rv, hrv⟩ : ∃ rv, rv = resV (if c.data.toList.length + 1 + a.data.toList.length ≤ 80 then some (c.data.toList ++ 47 :: a.data.toList) else none) := ⟨_, rfl⟩
          rw [← hrv]
          have hcase : (c.size + 1 + a.size ≤ 80 ∧ rv = .tuple #[.string (c ++ (⟨#[47]⟩ : ByteArray) ++ a), .int .i64 0]) ∨ (80 < c.size + 1 + a.size ∧ rv = .tuple #[.string ⟨#[]⟩, .int .i64 1]) := by
            rw [← Lib.size_eq, ← Lib.size_eq] at hrv
            by_cases h : c.size + 1 + a.size ≤ 80
            · rw [if_pos h] at hrv
              refine .inl ⟨h, ?_⟩
              rw [hrv, ← resV_some, data_app, data_app]
              simp
            · rw [if_neg h] at hrv
              exact .inr ⟨by omega, hrv⟩
          have hcz : c.size + 1 ≤ 9223372036854775807 := by omega
          have hcz2 : (c ++ (⟨#[47]⟩ : ByteArray)).size + a.size ≤ 9223372036854775807 := by rw [ByteArray.size_append]; have : (⟨#[47]⟩ : ByteArray).size = 1 := rfl; omega
          clear hrv
          rcases hcase with ⟨hsum, rfl⟩ | ⟨hsum, rfl⟩
          all_goals
            have g1 : (80 : Int) < (c.size : Int) + 1 + (a.size : Int) ∨ ¬ (80 : Int) < (c.size : Int) + 1 + (a.size : Int) := by omega
            replace hsum := Lib.hid hsum
            go_wp2_with fail
            go_loopg [15, 16] n (fun u v15 v16 wr => ∃ (k : Nat) (b : ByteArray), u = n - k ∧ k ≤ n ∧ v16 = .int .i64 k ∧ v15 = .string b ∧ b.size ≤ 3 * k ∧ Hid (b.data.toList = upsP k) ∧ Below w.heap.size w wr)
            case atStart => exact ⟨0, ⟨#[]⟩, rfl, Nat.zero_le _, rfl, rfl, Nat.zero_le _, Lib.hid rfl, B6⟩
            case round =>
              obtain ⟨k, b, rfl, hk, rfl, rfl, hbz, hbu, hB⟩ := hrel
              have HPw := Lib.hid (HPa.out wr)
              have hbz2 : b.size + 3 ≤ 9223372036854775807 := by omega
              have hbz3 : b.size + a.size ≤ 9223372036854775807 := by omega
              go_wp2_with fail
              refine HPw.out.mono ?_
              rintro e w7 ⟨⟨v, ps, rfl, hown, hps⟩, hb7⟩
              have hB7 := hB.trans (hb7.mono hB.size)
              have hpn : ps.length = n := by rw [hn.out, ← txs_len hps]
              obtain ⟨bo, bc, rfl, _, _, _, _⟩ := hown.rown (n := n) (by rw [strs_len, hpn])
              clear hown hps hpn
              by_cases hkn : k < n
              · have f1 : (k : Int) < (n : Int) := by omega
                have hnx : Hid ((b ++ (⟨#[46, 46, 47]⟩ : ByteArray)).data.toList = upsP (k + 1)) := Lib.hid (by rw [data_app, hbu.out]; rfl)
                have hnz : (b ++ (⟨#[46, 46, 47]⟩ : ByteArray)).size ≤ 3 * (k + 1) := by rw [ByteArray.size_append]; have : (⟨#[46, 46, 47]⟩ : ByteArray).size = 3 := rfl; omega
                replace hnz := Lib.hid hnz
                go_wp2_with fail
                go_roundg (n - (k + 1))
                case measure => omega
                case rel => exact ⟨k + 1, _, rfl, by omega, by go_num, rfl, hnz.out, hnx, hB7⟩
              · have f1 : ¬ (k : Int) < (n : Int) := by omega
                have HK2 := Lib.hid (HK.out b (by rw [hbu.out, ← hn.out]; congr 1; omega) (by omega))
                go_wp2_with fail
                refine (HK2.out _).mono ?_
                rintro e w8 ⟨rfl, b8⟩
                have B8 := bstep hB7 b8 hB7.size
                rcases g1 with g1 | g1
                all_goals
                  first
                  | (exfalso; have := hsum.out; omega)
                  | (go_wp2_with fail
                     refine (HA.out _).mono ?_
                     rintro e w9 ⟨rfl, b9⟩
                     have B9 := bstep B8 b9 B8.size
                     go_wp2
                     go_ret
                     exact ⟨by simp, B9⟩)
    · have e1 : (100 : Int) < (p.size : Int) := by omega
      go_enter Tryd.func4, Tryd.ntmps4
      go_wp2_with fail
      refine (HA.out _).mono ?_
      rintro e w7 ⟨rfl, b7⟩
      go_wp2
      go_ret
      exact ⟨rfl, b7⟩
  · have e0 : (100 : Int) < (d.size : Int) := by omega
    go_enter Tryd.func4, Tryd.ntmps4
    go_wp2_with fail
    refine (HA.out _).mono ?_
    rintro e w7 ⟨rfl, b7⟩
    go_wp2
    go_ret
    exact ⟨rfl, b7⟩
end Go.Proofs.YtemgjcicikoadaaDoor
