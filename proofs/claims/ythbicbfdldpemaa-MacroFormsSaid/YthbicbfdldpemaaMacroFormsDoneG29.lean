/- Texts of this seat's proofs, laid into one file. -/
import Derived.Test.YthbicbfdldpemaaMacroFormsDoneG28
/- MacroForms: the walk. -/
namespace Go.Proofs.Ythbicbfdldpemaa
open Go.RowKit
set_option linter.unusedVariables false

set_option maxHeartbeats 40000000 in
set_option maxRecDepth 100000 in
theorem macroForms_walk (name : ByteArray) (hname : name.size ≤ maxLen) (ps : List ByteArray) (hps : ∀ s ∈ ps, s.size ≤ maxLen) (a1 : Option Addr) (c1 : Nat) (hc1 : ps.length ≤ c1) (body : ByteArray) (hbody : body.size ≤ maxLen) (w : World) (hrw : Row w 1 a1 (ps.map fun p => [.string p])) :
    Calls Try.prog 3 #[.string name, .slice a1 ps.length c1, .string body] w fun e w' => e = .returned (.bool true) ∧ Below w.heap.size w w' := by
  obtain ⟨n, hn⟩ : ∃ n, n = ps.length := ⟨_, rfl⟩
  have HN : Hid (ps.length = n) := Lib.hid hn.symm
  rw [← hn] at hc1 ⊢
  clear hn
  have HW := fun (s : ByteArray) (h : s.size ≤ maxLen) (w' : World) => word_any s (by unfold maxLen at h; omega) w'
  have HWn := HW name hname w
  replace HW := Lib.hid HW
  replace hps := Lib.hid hps
  obtain ⟨b0, hb0⟩ : ∃ b, b = wordB name := ⟨_, rfl⟩
  rw [← hb0] at HWn
  replace HWn := Lib.hid HWn
  go_enter Try.func3, Try.ntmps3
  go_wp2_with fail
  refine HWn.out.mono ?_
  rintro e w' ⟨rfl, hw'⟩
  replace hw' := hw'.symm
  subst hw'
  cases b0 with
  | false =>
    replace hb0 := Lib.hid hb0
    go_wp2_with (go_at_call 13; refine (mAwake_any _).mono ?_; rintro e w' ⟨rfl, hb⟩)
    go_ret
    exact ⟨rfl, hb⟩
  | true =>
    have hnm := wordB_iff hb0.symm
    replace hb0 := Lib.hid hb0
    by_cases h8 : 8 < n
    · have e1 : (8 : Int) < (n : Int) := by omega
      clear hnm
      go_wp2_with (go_at_call 13; refine (mAwake_any _).mono ?_; rintro e w' ⟨rfl, hb⟩)
      go_ret
      exact ⟨rfl, hb⟩
    · have e1 : ¬ (8 : Int) < (n : Int) := by omega
      by_cases h200 : 200 < body.size
      · have e2 : (200 : Int) < (body.size : Int) := by omega
        clear hnm
        go_wp2_with (go_at_call 13; refine (mAwake_any _).mono ?_; rintro e w' ⟨rfl, hb⟩)
        go_ret
        exact ⟨rfl, hb⟩
      · have e2 : ¬ (200 : Int) < (body.size : Int) := by omega
        have hn20 := hnm.2.1
        replace hnm := Lib.hid hnm
        go_wp2_with fail
        go_loopg [7, 8] n (fun u v7 v8 wr => ∃ (i : Nat) (sb : ByteArray), u = n - i ∧ i ≤ n ∧ v7 = .string sb ∧ v8 = .int .i64 i ∧ Below w.heap.size w wr ∧ Hid (ParsAt ps i sb))
        case atStart => exact ⟨0, _, rfl, Nat.zero_le _, rfl, rfl, Below.refl _ _, Lib.hid ⟨rfl, by simp, by simp, by decide⟩⟩
        case round =>
          obtain ⟨i, sb, rfl, hi, rfl, rfl, hb, hPA⟩ := hrel
          have hsz := hPA.out.size
          by_cases hin : i < n
          · have f1 : (i : Int) < n := by omega
            obtain ⟨p, hp⟩ : ∃ p, ps[i]? = some p := ⟨ps[i]'(by rw [HN.out]; exact hin), by simp⟩
            obtain ⟨rb, o, rfl, hat⟩ := (hrw.below hb) (by intro h; simp at h; subst h; simp at hp)
            have x0 := str_cell hat hp
            have HWp := HW.out p (hps.out p (List.mem_of_getElem? hp)) wr
            obtain ⟨bp, hbp⟩ : ∃ b, b = wordB p := ⟨_, rfl⟩
            rw [← hbp] at HWp
            replace HWp := Lib.hid HWp
            replace hp := Lib.hid hp
            clear hat
            go_wp2_with fail
            refine HWp.out.mono ?_
            rintro e w' ⟨rfl, hw'⟩
            replace hw' := hw'.symm
            subst hw'
            cases bp with
            | false =>
              replace hbp := Lib.hid hbp
              go_wp2_with (go_at_call 13; refine (mAwake_any _).mono ?_; rintro e w' ⟨rfl, hb9⟩)
              go_ret
              exact ⟨rfl, hb.trans (hb9.mono hb.size)⟩
            | true =>
              have hp20 := (wordB_iff hbp.symm).2.1
              replace hbp := Lib.hid hbp
              generalize wr = w2 at *
              go_wp2_with fail
              go_loopg [9] i (fun u v9 wx => ∃ k : Nat, u = i - k ∧ k ≤ i ∧ v9 = .int .i64 k ∧ Below w2.heap.size w2 wx ∧ Hid (∀ j q, j < k → ps[j]? = some q → q ≠ p))
              case atStart => exact ⟨0, rfl, Nat.zero_le _, rfl, Below.refl _ _, Lib.hid (by intro j q h; omega)⟩
              case round =>
                obtain ⟨k, rfl, hk, rfl, hb2, hne⟩ := hrel
                have x1 := kept_cell hb2 x0
                have hbw := hb.trans (hb2.mono hb.size)
                by_cases hki : k < i
                · have f2 : (k : Int) < i := by omega
                  have f3 : (k : Int) < n := by omega
                  obtain ⟨q, hq⟩ : ∃ q, ps[k]? = some q := ⟨ps[k]'(by rw [HN.out]; omega), by simp⟩
                  obtain ⟨rb2, o2, e', hat2⟩ := (hrw.below hbw) (by intro h; simp at h; rw [h] at hq; simp at hq)
                  simp only [Option.some.injEq, Addr.mk.injEq, and_true] at e'
                  obtain ⟨rfl, rfl⟩ := e'
                  have x2 := str_cell hat2 hq
                  replace hq := Lib.hid hq
                  clear hat2 x0
                  cases hqp : (q.toList == p.toList) with
                  | true =>
                    go_wp2_with fail
                    go_quiet (fail)
                    have hb7 := hbw.trans ((drewN_below wr nq).mono hbw.size)
                    go_wp2_with (go_at_call 13; refine (mAwake_any _).mono ?_; rintro e w' ⟨rfl, hb9⟩)
                    go_ret
                    exact ⟨rfl, hb7.trans (hb9.mono hb7.size)⟩
                  | false =>
                    have hqp2 : Hid (q ≠ p) := Lib.hid (by rw [beq_text2] at hqp; exact of_decide_eq_false hqp)
                    have hnext : Hid (∀ j q, j < k + 1 → ps[j]? = some q → q ≠ p) := Lib.hid (by
                      intro j q' hj hq'
                      by_cases h : j = k
                      · subst h
                        rw [hq.out] at hq'
                        simp only [Option.some.injEq] at hq'
                        subst hq'
                        exact hqp2.out
                      · exact hne.out j q' (by omega) hq')
                    go_wp2_with fail
                    go_quiet (fail)
                    have hb7 := hb2.trans ((drewN_below wr nq).mono hb2.size)
                    go_wp2_with fail
                    go_roundg (i - (k + 1))
                    case measure => omega
                    case rel => exact ⟨k + 1, rfl, by omega, by go_num, hb7, hnext⟩
                · have f2 : ¬ (k : Int) < i := by omega
                  have hki2 : k = i := by omega
                  by_cases hi0 : 0 < i
                  · have f4 : (0 : Int) < i := by omega
                    have hnx := hPA.out.next hp.out hbp.out.symm (fun j q h h2 => hne.out j q (by omega) h2) _ rfl
                    rw [if_neg (by omega : ¬ i = 0)] at hnx
                    replace hnx := Lib.hid hnx
                    have hz1 : sb.size + 2 ≤ 9223372036854775807 := by omega
                    have hz2 : sb.size + 2 + p.size ≤ 9223372036854775807 := by omega
                    have hz3 : (sb ++ (⟨#[44, 32]⟩ : ByteArray)).size + p.size ≤ 9223372036854775807 := by rw [ByteArray.size_append]; exact hz2
                    clear hki2
                    go_wp2_with fail
                    go_roundg (n - (i + 1))
                    case measure => omega
                    case rel => exact ⟨i + 1, _, rfl, by omega, rfl, by go_num, hbw, hnx⟩
                  · have f4 : ¬ (0 : Int) < i := by omega
                    have hnx := hPA.out.next hp.out hbp.out.symm (fun j q h h2 => hne.out j q (by omega) h2) _ rfl
                    rw [if_pos (by omega : i = 0)] at hnx
                    have hsb : sb ++ p = p := by
                      have h1 := hPA.out.size
                      have h2 : sb.size = 0 := by omega
                      apply ext_toList
                      rw [data_appY]
                      have h3 : sb.data.toList = [] := List.eq_nil_of_length_eq_zero (by rw [← Lib.size_eq]; exact h2)
                      rw [h3]
                      rfl
                    rw [← hsb] at hnx
                    replace hnx := Lib.hid hnx
                    have hz1 : sb.size + p.size ≤ 9223372036854775807 := by omega
                    clear hki2 hsb
                    go_wp2_with fail
                    go_roundg (n - (i + 1))
                    case measure => omega
                    case rel => exact ⟨i + 1, _, rfl, by omega, rfl, by go_num, hbw, hnx⟩
          · have f1 : ¬ (i : Int) < n := by omega
            obtain rfl : i = n := by omega
            generalize wr = w1 at *
            have hbz : body.size ≤ 200 := by omega
            go_wp2_with fail
            go_loopg [10] body.size (fun u v10 wx => ∃ k : Nat, u = body.size - k ∧ k ≤ body.size ∧ v10 = .int .i64 k ∧ wx = w1 ∧ Hid (∀ j, j < k → BodyB (chAt body.data.toList j)))
            case atStart => exact ⟨0, rfl, Nat.zero_le _, rfl, rfl, Lib.hid (by intro j h; omega)⟩
            case round =>
              obtain ⟨k, rfl, hk, rfl, hwr, hok⟩ := hrel
              replace hwr := hwr.symm
              subst hwr
              by_cases hkb : k < body.size
              · have f2 : (k : Int) < (body.size : Int) := by omega
                have hck : chAt body.data.toList k = body[k]'hkb := get_byte hkb
                have x32 := u8c (c := body[k]'hkb) (n := 32) (by decide)
                have x43 := u8c (c := body[k]'hkb) (n := 43) (by decide)
                have hnext : Hid (BodyB (body[k]'hkb) → Hid (∀ j, j < k + 1 → BodyB (chAt body.data.toList j))) := Lib.hid (fun hb => Lib.hid (by
                  intro j hj
                  by_cases h : j = k
                  · rw [h, hck]; exact hb
                  · exact hok.out j (by omega)))
                clear hck
                by_cases hlo : (body[k]'hkb).toNat < 97
                · have d1 : ((body[k]'hkb).toNat : Int) < 97 := by omega
                  cases h32 : (((body[k]'hkb).toNat : Int) == 32) with
                  | true =>
                    have hB : BodyB (body[k]'hkb) := .inr (.inr (.inl (of_decide_eq_true (x32.symm.trans h32))))
                    replace hB := Lib.hid hB
                    have p32 : ((body[k]'hkb).toNat : Int) = 32 := by simpa using h32
                    have hnx := hnext.out (hB.out)
                    clear hnext x32 x43
                    go_wp2_with fail
                    go_roundg (body.size - (k + 1))
                    case measure => omega
                    case rel => exact ⟨k + 1, rfl, by omega, by go_num, rfl, hnx⟩
                  | false =>
                    have p32 : ¬ ((body[k]'hkb).toNat : Int) = 32 := by simpa using h32
                    have m32 : (((body[k]'hkb).toNat : Int) != 32) = true := by simp [bne, h32]
                    cases h43 : (((body[k]'hkb).toNat : Int) == 43) with
                    | true =>
                      have hB : BodyB (body[k]'hkb) := .inr (.inr (.inr (of_decide_eq_true (x43.symm.trans h43))))
                      replace hB := Lib.hid hB
                      have p43 : ((body[k]'hkb).toNat : Int) = 43 := by simpa using h43
                      have hnx := hnext.out (hB.out)
                      clear hnext x32 x43
                      go_wp2_with fail
                      go_roundg (body.size - (k + 1))
                      case measure => omega
                      case rel => exact ⟨k + 1, rfl, by omega, by go_num, rfl, hnx⟩
                    | false =>
                      have p43 : ¬ ((body[k]'hkb).toNat : Int) = 43 := by simpa using h43
                      have m43 : (((body[k]'hkb).toNat : Int) != 43) = true := by simp [bne, h43]
                      by_cases h48 : (body[k]'hkb).toNat < 48
                      · have d3 : ((body[k]'hkb).toNat : Int) < 48 := by omega
                        clear x32 x43 hnext
                        go_wp2_with (go_at_call 13; refine (mAwake_any _).mono ?_; rintro e w' ⟨rfl, hb9⟩)
                        go_ret
                        exact ⟨rfl, hb.trans (hb9.mono hb.size)⟩
                      · have d3 : ¬ ((body[k]'hkb).toNat : Int) < 48 := by omega
                        by_cases h57 : 57 < (body[k]'hkb).toNat
                        · have d4 : (57 : Int) < ((body[k]'hkb).toNat : Int) := by omega
                          clear x32 x43 hnext
                          go_wp2_with (go_at_call 13; refine (mAwake_any _).mono ?_; rintro e w' ⟨rfl, hb9⟩)
                          go_ret
                          exact ⟨rfl, hb.trans (hb9.mono hb.size)⟩
                        · have d4 : ¬ (57 : Int) < ((body[k]'hkb).toNat : Int) := by omega
                          have hB : Hid (BodyB (body[k]'hkb)) := Lib.hid (bodyB_of (fun h => by have := h.2.2.2; omega))
                          have hnx := hnext.out (hB.out)
                          clear hnext x32 x43
                          go_wp2_with fail
                          go_roundg (body.size - (k + 1))
                          case measure => omega
                          case rel => exact ⟨k + 1, rfl, by omega, by go_num, rfl, hnx⟩
                · have d1 : ¬ ((body[k]'hkb).toNat : Int) < 97 := by omega
                  by_cases hhi : 122 < (body[k]'hkb).toNat
                  · have d2 : (122 : Int) < ((body[k]'hkb).toNat : Int) := by omega
                    have h32 : (((body[k]'hkb).toNat : Int) == 32) = false := by simp; omega
                    have h43 : (((body[k]'hkb).toNat : Int) == 43) = false := by simp; omega
                    have p32 : ¬ ((body[k]'hkb).toNat : Int) = 32 := by omega
                    have p43 : ¬ ((body[k]'hkb).toNat : Int) = 43 := by omega
                    have m32 : (((body[k]'hkb).toNat : Int) != 32) = true := by simp [bne, h32]
                    have m43 : (((body[k]'hkb).toNat : Int) != 43) = true := by simp [bne, h43]
                    have d3 : ¬ ((body[k]'hkb).toNat : Int) < 48 := by omega
                    have d4 : (57 : Int) < ((body[k]'hkb).toNat : Int) := by omega
                    clear x32 x43 hnext
                    go_wp2_with (go_at_call 13; refine (mAwake_any _).mono ?_; rintro e w' ⟨rfl, hb9⟩)
                    go_ret
                    exact ⟨rfl, hb.trans (hb9.mono hb.size)⟩
                  · have d2 : ¬ (122 : Int) < ((body[k]'hkb).toNat : Int) := by omega
                    have hB : Hid (BodyB (body[k]'hkb)) := Lib.hid (bodyB_of (fun h => by have := h.1; omega))
                    have hnx := hnext.out (hB.out)
                    clear hnext x32 x43
                    go_wp2_with fail
                    go_roundg (body.size - (k + 1))
                    case measure => omega
                    case rel => exact ⟨k + 1, rfl, by omega, by go_num, rfl, hnx⟩
              · have f2 : ¬ (k : Int) < (body.size : Int) := by omega
                have hPA2 := hPA.out
                rw [← HN.out] at hPA2
                have hbd : ∀ c ∈ body.data.toList, BodyB c := by
                  intro c hc
                  obtain ⟨j, hj, rfl⟩ := List.mem_iff_getElem.1 hc
                  have := hok.out j (by rw [← Lib.size_eq] at hj; omega)
                  rw [chAt_lt (List.getElem?_eq_getElem hj)] at this
                  exact this
                obtain ⟨m, m2, m3, x4, x5, tb, U, hK0⟩ := mf_pack name sb body ps hnm.out hPA2 hbd hbz
                have hK := Lib.hid hK0
                have hsb8 : sb.size ≤ 176 := by omega
                have htb8 := hK0.ts
                obtain ⟨nb, hnb⟩ : ∃ nb, nb = m.body.length := ⟨_, rfl⟩
                have HNB : Hid (m.body.length = nb) := Lib.hid hnb.symm
                have hnb8 : nb ≤ 1000 := by rw [hnb]; exact hK0.lb
                clear hK0 hPA2 hbd hok hPA hnb
                have z1 : name.size + 1 ≤ 9223372036854775807 := by omega
                have z2 : name.size + 1 + sb.size ≤ 9223372036854775807 := by omega
                have z3 : name.size + 1 + sb.size + 2 ≤ 9223372036854775807 := by omega
                have z4 : name.size + 1 + sb.size + 2 + body.size ≤ 9223372036854775807 := by omega
                have y1 : name.size + 3 ≤ 9223372036854775807 := by omega
                have y2 : name.size + 3 + sb.size ≤ 9223372036854775807 := by omega
                have y3 : name.size + 3 + sb.size + 3 ≤ 9223372036854775807 := by omega
                have y4 : name.size + 3 + sb.size + 3 + body.size ≤ 9223372036854775807 := by omega
                have v3 : name.size + 1 + sb.size + 5 ≤ 9223372036854775807 := by omega
                have v4 : name.size + 1 + sb.size + 5 + body.size ≤ 9223372036854775807 := by omega
                have v5 : name.size + 1 + sb.size + 5 + body.size + 1 ≤ 9223372036854775807 := by omega
                have u4 : name.size + 1 + sb.size + 2 + tb.size ≤ 9223372036854775807 := by omega
                have HS1 := fun w' => mText_toks (name ++ ⟨#[40]⟩ ++ sb ++ ⟨#[41, 32]⟩ ++ body) (by simp only [ByteArray.size_append]; have h1 : (⟨#[40]⟩ : ByteArray).size = 1 := rfl; have h2 : (⟨#[41, 32]⟩ : ByteArray).size = 2 := rfl; omega) w'
                have HS2 := fun w' => mText_toks (name ++ ⟨#[32, 40, 32]⟩ ++ sb ++ ⟨#[32, 41, 32]⟩ ++ body) (by simp only [ByteArray.size_append]; have h1 : (⟨#[32, 40, 32]⟩ : ByteArray).size = 3 := rfl; have h2 : (⟨#[32, 41, 32]⟩ : ByteArray).size = 3 := rfl; omega) w'
                have HS3 := fun w' => mText_toks (name ++ ⟨#[40]⟩ ++ sb ++ ⟨#[41, 32]⟩ ++ tb) (by simp only [ByteArray.size_append]; have h1 : (⟨#[40]⟩ : ByteArray).size = 1 := rfl; have h2 : (⟨#[41, 32]⟩ : ByteArray).size = 2 := rfl; omega) w'
                have HS4 := fun w' => mText_toks (name ++ ⟨#[40]⟩ ++ sb ++ ⟨#[41, 32, 35, 35, 32]⟩ ++ body ++ ⟨#[120]⟩) (by simp only [ByteArray.size_append]; have h1 : (⟨#[40]⟩ : ByteArray).size = 1 := rfl; have h2 : (⟨#[41, 32, 35, 35, 32]⟩ : ByteArray).size = 5 := rfl; have h3 : (⟨#[120]⟩ : ByteArray).size = 1 := rfl; omega) w'
                have HS5 := fun w' => mText_toks (name ++ ⟨#[40]⟩ ++ sb ++ ⟨#[41, 32, 35, 57, 32]⟩ ++ body) (by simp only [ByteArray.size_append]; have h1 : (⟨#[40]⟩ : ByteArray).size = 1 := rfl; have h2 : (⟨#[41, 32, 35, 57, 32]⟩ : ByteArray).size = 5 := rfl; omega) w'
                have HTB := fun w' => rToks_any body (by omega) w'
                rw [← hK.out.ln, HNB.out] at HTB
                replace HS1 := Lib.hid HS1
                replace HS2 := Lib.hid HS2
                replace HS3 := Lib.hid HS3
                replace HS4 := Lib.hid HS4
                replace HS5 := Lib.hid HS5
                replace HTB := Lib.hid HTB
                clear hsz htb8
                go_wp2_with fail
                refine (HS1.out _).mono ?_
                rintro e w3 ⟨l1, n1, ao1, cap1, rfl, hb3, hl1, HP1⟩
                go_wp2_with fail
                refine (HP1.out _ (Below.refl _ _)).mono ?_
                rintro e w4 ⟨hb4, hp4⟩
                rw [hl1.out, hK.out.r1] at hp4
                obtain ⟨psv, bov, rfl, hO⟩ := hp4
                have hBw4 : Below w.heap.size w w4 := (hb.trans (hb3.mono hb.size)).trans (hb4.mono (Nat.le_trans hb.size hb3.size))
                obtain ⟨pao, pcp, rfl, hpc, _, _, _⟩ := hO.ps.rown (n := i) (by rw [List.length_map, hK.out.pr, HN.out])
                obtain ⟨P0, hP0, hPs, hPn⟩ := hO.body
                have hP0l : P0.length = nb := by rw [← HNB.out, ← hPs, List.length_map]
                obtain ⟨bao, bcp, rfl, hbc, _, _, _⟩ := hP0.rown (n := nb) (by rw [List.length_map, hP0l])
                have hMA := hO.at (by rw [hK.out.pr, HN.out]; omega) (by rw [HNB.out]; omega)
                have hpr := hO.ps.here
                have hbr := hP0.here
                rw [hK.out.pr] at hpr
                rw [hK.out.nm, hK.out.fn, hK.out.va]
                unfold mcC
                have hnew := heap_alloc_new w4 (.cells #[.string name, .bool true, .bool false, .slice pao i pcp, .slice bao nb bcp, .string m.file, .int .i64 m.f, .int .i64 m.t] 29)
                have hbn := (Below.refl w4.heap.size w4).alloc (Nat.le_refl _) (.cells #[.string name, .bool true, .bool false, .slice pao i pcp, .slice bao nb bcp, .string m.file, .int .i64 m.f, .int .i64 m.t] 29)
                have hBA := hBw4.trans (hbn.mono hBw4.size)
                go_wp2_with fail
                obtain ⟨wA, hwA⟩ : ∃ wA, wA = w4.alloc (.cells #[.string name, .bool true, .bool false, .slice pao i pcp, .slice bao nb bcp, .string m.file, .int .i64 m.f, .int .i64 m.t] 29) := ⟨_, rfl⟩
                obtain ⟨T12, hT12⟩ : ∃ T, T = w4.heap.size := ⟨_, rfl⟩
                rw [← hwA] at hnew hbn hBA ⊢
                have HM : Hid (∀ wx, Below wA.heap.size wA wx → wx.heap[T12]? = some (.cells #[.string name, .bool true, .bool false, .slice pao i pcp, .slice bao nb bcp, .string m.file, .int .i64 m.f, .int .i64 m.t] 29 (0, 0)) ∧ MacAt wx m (.slice pao i pcp) (.slice bao nb bcp) ∧ Row wx 8 bao (P0.map tvC) ∧ Row wx 1 pao (ps.map fun p => [.string p])) := Lib.hid (fun wx hx => by
                  have h1 : Below w4.heap.size w4 wx := hbn.trans (hx.mono hbn.size)
                  refine ⟨?_, hMA.below h1, hbr.below h1, hpr.below h1⟩
                  rw [hT12]
                  exact (hx.block _ (lt_of_block hnew)).trans hnew)
                rw [← hT12]
                clear hwA hT12 hnew hbn hMA hpr hbr hP0 hO hb4 hb3 hBw4 HP1 hl1 hb
                refine (HS2.out _).mono ?_
                rintro e w5 ⟨l2, n2, ao2, cap2, rfl, hb5, hl2, HP2⟩
                go_wp2_with fail
                refine (HP2.out _ (Below.refl _ _)).mono ?_
                rintro e w6 ⟨hb6, hp6⟩
                rw [hl2.out, hK.out.r2] at hp6
                obtain ⟨psv2, bov2, rfl, hO2⟩ := hp6
                have hB6 : Below wA.heap.size wA w6 := hb5.trans (hb6.mono hb5.size)
                obtain ⟨np2, hnp2⟩ : ∃ k, k = m2.params.length := ⟨_, rfl⟩
                obtain ⟨nb2, hnb2⟩ : ∃ k, k = m2.body.length := ⟨_, rfl⟩
                obtain ⟨pao2, pcp2, rfl, _, _, _, _⟩ := hO2.ps.rown (n := np2) (by rw [List.length_map, hnp2])
                obtain ⟨P2, hP2, hP2s, _⟩ := hO2.body
                obtain ⟨bao2, bcp2, rfl, _, _, _, _⟩ := hP2.rown (n := nb2) (by rw [List.length_map, hnb2, ← hP2s, List.length_map])
                have h22 : 2 ≤ nb2 := by rw [hnb2]; exact hK.out.l2
                rw [hK.out.f2]
                unfold mcC
                have hnew2 := heap_alloc_new w6 (.cells #[.string m2.name, .bool false, .bool m2.va, .slice pao2 np2 pcp2, .slice bao2 nb2 bcp2, .string m2.file, .int .i64 m2.f, .int .i64 m2.t] 29)
                have hbn2 := hB6.alloc hB6.size (.cells #[.string m2.name, .bool false, .bool m2.va, .slice pao2 np2 pcp2, .slice bao2 nb2 bcp2, .string m2.file, .int .i64 m2.f, .int .i64 m2.t] 29)
                clear hO2 hP2 hP2s hb5 hb6 HP2 hl2 hnp2 hnb2
                go_wp2_with fail
                obtain ⟨wB, hwB⟩ : ∃ wB, wB = w6.alloc (.cells #[.string m2.name, .bool false, .bool m2.va, .slice pao2 np2 pcp2, .slice bao2 nb2 bcp2, .string m2.file, .int .i64 m2.f, .int .i64 m2.t] 29) := ⟨_, rfl⟩
                obtain ⟨T14, hT14⟩ : ∃ T, T = w6.heap.size := ⟨_, rfl⟩
                rw [← hwB] at hnew2 hbn2 ⊢
                rw [← hT14] at hnew2 ⊢
                clear hwB hT14 hB6
                have HF : Hid (∀ x : World, Below wB.heap.size wB x → x.cell? ⟨T12, 0, none⟩ = some (.string name) ∧ x.cell? ⟨T12, 1, none⟩ = some (.bool true) ∧ x.cell? ⟨T12, 3, none⟩ = some (.slice pao i pcp) ∧ x.cell? ⟨T12, 4, none⟩ = some (.slice bao nb bcp) ∧ x.cell? ⟨T14, 1, none⟩ = some (.bool false) ∧ x.cell? ⟨T14, 4, none⟩ = some (.slice bao2 nb2 bcp2)) := Lib.hid (fun x hx => by
                  obtain ⟨c0, c1, c2, c3, c4, c5, c6, c7⟩ := cells8x (HM.out x (hbn2.trans (hx.mono hbn2.size))).1
                  obtain ⟨d0, d1, d2, d3, d4, d5, d6, d7⟩ := cells8x ((hx.block _ (lt_of_block hnew2)).trans hnew2)
                  exact ⟨c0, c1, c3, c4, d1, d4⟩)
                have HTx : Hid (∀ x, Below wB.heap.size wB x → Calls Try.prog 16 #[.slice pao i pcp, .slice a1 i c1] x fun e w' => e = .returned (.bool true) ∧ Below wB.heap.size wB w') := Lib.hid (by
                  intro x hx
                  have hxA := hbn2.trans (hx.mono hbn2.size)
                  have h0 := textsX_yes ps pao a1 pcp c1 (by rw [HN.out]; omega) x (HM.out x hxA).2.2.2 (hrw.below (hBA.trans (hxA.mono hBA.size))) (by rw [HN.out]; exact hpc) (by rw [HN.out]; exact hc1)
                  rw [HN.out] at h0
                  refine h0.mono ?_
                  rintro e w' ⟨rfl, hw'⟩
                  exact ⟨rfl, hx.trans (hw'.mono hx.size)⟩)
                have HTy : Hid (∀ x, Below wB.heap.size wB x → Calls Try.prog 15 #[.string body] x fun e w' => ∃ ao cap, e = .returned (.slice ao nb cap) ∧ Below wB.heap.size wB w') := Lib.hid (by
                  intro x hx
                  refine (HTB.out x).mono ?_
                  rintro e w' ⟨ao, cap, rfl, _, _, hw'⟩
                  exact ⟨ao, cap, rfl, hx.trans (hw'.mono hx.size)⟩)
                have d22 : decide (nb2 < 2) = false := decide_eq_false (by omega)
                have e22 : ¬ (nb2 : Int) < 2 := by omega
                have hb0' := (Below.refl wB.heap.size wB).drew
                obtain ⟨s0, s1, s2, s3, s4, s5⟩ := HF.out _ hb0'
                go_upto_region 130 with fail
                go_cut [174] from 130 to 174 (fun v wx => v = .bool false ∧ Below wB.heap.size wB wx)
                case first =>
                  go_region_held3 (fun x : World => x.cell? ⟨T12, 0, none⟩ = some (.string name) ∧ x.cell? ⟨T12, 1, none⟩ = some (.bool true) ∧ x.cell? ⟨T12, 3, none⟩ = some (.slice pao i pcp) ∧ x.cell? ⟨T12, 4, none⟩ = some (.slice bao nb bcp) ∧ x.cell? ⟨T14, 1, none⟩ = some (.bool false) ∧ x.cell? ⟨T14, 4, none⟩ = some (.slice bao2 nb2 bcp2)) (first | with_reducible exact ⟨s0, s1, s2, s3, s4, s5⟩ | with_reducible exact HF.out _ hb5 | with_reducible exact HF.out _ hb6) (first
                    | (go_at_call 16; refine (HTx.out _ (by assumption)).mono ?_; rintro e w7 ⟨rfl, hb5⟩)
                    | (go_at_call 15; refine (HTy.out _ (by assumption)).mono ?_; rintro e w8 ⟨ao8, cap8, rfl, hb6⟩))
                  all_goals
                    go_wp2_with fail
                    go_meet
                    case rel => first | exact ⟨rfl, hb6⟩ | exact ⟨rfl, hb5⟩ | exact ⟨by rw [decide_eq_false (by omega)], hb6⟩
                case rest =>
                  obtain ⟨rfl, hb5⟩ := hcut
                  have HTT : Hid (∀ x, Below wB.heap.size wB x → Calls Try.prog 17 #[.slice bao nb bcp] x fun e w' => e = .returned (.string tb) ∧ w' = x) := Lib.hid (by
                    intro x hx
                    have hxA := hbn2.trans (hx.mono hbn2.size)
                    have hts := hK.out.ts
                    rw [Lib.size_eq, hK.out.tl] at hts
                    have h0 := rText_any P0 hPn U (by rw [hPs]; exact hK.out.bd) hK.out.un (by omega) bao bcp (by rw [hP0l]; exact hbc) (by rw [hP0l]; omega) x (HM.out x hxA).2.2.1
                    rw [hP0l] at h0
                    have ht : (⟨(tellL U).toArray⟩ : ByteArray) = tb := ext_toList hK.out.tl.symm
                    rw [ht] at h0
                    exact h0)
                  obtain ⟨s0, s1, s2, s3, s4, s5⟩ := HF.out _ hb5
                  clear HTx HTy d22 h22 hnew2
                  go_wp2_with fail
                  refine (HTT.out _ hb5).mono ?_
                  rintro e w' ⟨rfl, hw'⟩
                  replace hw' := hw'.symm
                  subst hw'
                  go_wp2_with fail
                  refine (HS3.out _).mono ?_
                  rintro e w7 ⟨l3, n3, ao3, cap3, rfl, hb6, hl3, HP3⟩
                  go_wp2_with fail
                  refine (HP3.out _ (Below.refl _ _)).mono ?_
                  rintro e w8 ⟨hb7, hp8⟩
                  rw [hl3.out, hK.out.r3] at hp8
                  obtain ⟨psv3, bov3, rfl, hO3⟩ := hp8
                  have hB8 : Below wB.heap.size wB w8 := (hb5.trans (hb6.mono hb5.size)).trans (hb7.mono (Nat.le_trans hb5.size hb6.size))
                  obtain ⟨pao3, pcp3, rfl, hpc3, _, _, _⟩ := hO3.ps.rown (n := i) (by rw [List.length_map, hK.out.p3, HN.out])
                  obtain ⟨P3, hP3, hP3s, _⟩ := hO3.body
                  obtain ⟨bao3, bcp3, rfl, hbc3, _, _, _⟩ := hP3.rown (n := nb) (by rw [List.length_map, ← HNB.out, ← hK.out.b3, ← hP3s, List.length_map])
                  have hMA3 := hO3.at (by rw [hK.out.p3, HN.out]; omega) (by rw [hK.out.b3, HNB.out]; omega)
                  unfold mcC
                  have hnew3 := heap_alloc_new w8 (.cells #[.string m3.name, .bool m3.fn, .bool m3.va, .slice pao3 i pcp3, .slice bao3 nb bcp3, .string m3.file, .int .i64 m3.f, .int .i64 m3.t] 29)
                  have hbn3 := (Below.refl w8.heap.size w8).alloc (Nat.le_refl _) (.cells #[.string m3.name, .bool m3.fn, .bool m3.va, .slice pao3 i pcp3, .slice bao3 nb bcp3, .string m3.file, .int .i64 m3.f, .int .i64 m3.t] 29)
                  have hBC := hB8.trans (hbn3.mono hB8.size)
                  clear hO3 hP3 hP3s hb6 hb7 HP3 hl3 s0 s1 s2 s3 s4 s5
                  go_wp2_with fail
                  obtain ⟨wC, hwC⟩ : ∃ wC, wC = w8.alloc (.cells #[.string m3.name, .bool m3.fn, .bool m3.va, .slice pao3 i pcp3, .slice bao3 nb bcp3, .string m3.file, .int .i64 m3.f, .int .i64 m3.t] 29) := ⟨_, rfl⟩
                  obtain ⟨T16, hT16⟩ : ∃ T, T = w8.heap.size := ⟨_, rfl⟩
                  rw [← hwC] at hnew3 hbn3 hBC ⊢
                  have HM3 : Hid (∀ wx, Below wC.heap.size wC wx → wx.heap[T16]? = some (.cells #[.string m3.name, .bool m3.fn, .bool m3.va, .slice pao3 i pcp3, .slice bao3 nb bcp3, .string m3.file, .int .i64 m3.f, .int .i64 m3.t] 29 (0, 0)) ∧ MacAt wx m3 (.slice pao3 i pcp3) (.slice bao3 nb bcp3)) := Lib.hid (fun wx hx => by
                    refine ⟨?_, hMA3.below (hbn3.trans (hx.mono hbn3.size))⟩
                    rw [hT16]
                    exact (hx.block _ (lt_of_block hnew3)).trans hnew3)
                  rw [← hT16]
                  clear hwC hT16 hnew3 hbn3 hMA3 hB8
                  refine (HS4.out _).mono ?_
                  rintro e w9 ⟨l4, n4, ao4, cap4, rfl, hb6, hl4, HP4⟩
                  go_wp2_with fail
                  refine (HP4.out _ (Below.refl _ _)).mono ?_
                  rintro e w10 ⟨hb7, hp10⟩
                  rw [hl4.out, hK.out.r4] at hp10
                  obtain ⟨g4, cp4, rfl, hd4⟩ := hp10
                  rw [hK.out.c4] at hd4
                  have hB10 : Below wC.heap.size wC w10 := hb6.trans (hb7.mono hb6.size)
                  unfold mcC
                  have hD4 := hd4.below ((Below.refl _ w10).alloc (Nat.le_refl _) (.cells #[.string .empty, .bool false, .bool false, .slice none 0 0, .slice none 0 0, .string .empty, .int .i64 0, .int .i64 0] 29))
                  have hBD := hB10.alloc hB10.size (.cells #[.string .empty, .bool false, .bool false, .slice none 0 0, .slice none 0 0, .string .empty, .int .i64 0, .int .i64 0] 29)
                  clear hd4 hb6 hb7 HP4 hl4 hB10
                  go_wp2_with fail
                  obtain ⟨wD, hwD⟩ : ∃ wD, wD = w10.alloc (.cells #[.string .empty, .bool false, .bool false, .slice none 0 0, .slice none 0 0, .string .empty, .int .i64 0, .int .i64 0] 29) := ⟨_, rfl⟩
                  rw [← hwD] at hD4 hBD ⊢
                  clear hwD
                  refine (HS5.out _).mono ?_
                  rintro e w11 ⟨l5, n5, ao5, cap5, rfl, hb6, hl5, HP5⟩
                  go_wp2_with fail
                  refine (HP5.out _ (Below.refl _ _)).mono ?_
                  rintro e w12 ⟨hb7, hp12⟩
                  rw [hl5.out, hK.out.r5] at hp12
                  obtain ⟨g5, cp5, rfl, hd5⟩ := hp12
                  rw [hK.out.c5] at hd5
                  have hB12 : Below wD.heap.size wD w12 := hb6.trans (hb7.mono hb6.size)
                  unfold mcC
                  have hD5 := hd5.below ((Below.refl _ w12).alloc (Nat.le_refl _) (.cells #[.string .empty, .bool false, .bool false, .slice none 0 0, .slice none 0 0, .string .empty, .int .i64 0, .int .i64 0] 29))
                  have hBE := hB12.alloc hB12.size (.cells #[.string .empty, .bool false, .bool false, .slice none 0 0, .slice none 0 0, .string .empty, .int .i64 0, .int .i64 0] 29)
                  clear hd5 hb6 hb7 HP5 hl5 hB12
                  obtain ⟨wE, hwE⟩ : ∃ wE, wE = w12.alloc (.cells #[.string .empty, .bool false, .bool false, .slice none 0 0, .slice none 0 0, .string .empty, .int .i64 0, .int .i64 0] 29) := ⟨_, rfl⟩
                  rw [← hwE] at hD5 hBE
                  replace hwE := Lib.hid hwE
                  clear hsb8 f2 e22
                  have hBCE : Below wC.heap.size wC wE := hBD.trans (hBE.mono hBD.size)
                  have hBAE : Below wA.heap.size wA wE := (hbn2.trans (hBC.mono hbn2.size)).trans (hBCE.mono (Nat.le_trans hbn2.size hBC.size))
                  have hBwE : Below w.heap.size w wE := hBA.trans (hBAE.mono hBA.size)
                  have HG : Hid (∀ x : World, Below wE.heap.size wE x → (x.cell? ⟨T12, 0, none⟩ = some (.string name) ∧ x.cell? ⟨T12, 1, none⟩ = some (.bool true) ∧ x.cell? ⟨T12, 2, none⟩ = some (.bool false) ∧ x.cell? ⟨T12, 3, none⟩ = some (.slice pao i pcp) ∧ x.cell? ⟨T12, 4, none⟩ = some (.slice bao nb bcp) ∧ x.cell? ⟨T12, 5, none⟩ = some (.string m.file) ∧ x.cell? ⟨T12, 6, none⟩ = some (.int .i64 m.f) ∧ x.cell? ⟨T12, 7, none⟩ = some (.int .i64 m.t)) ∧ (x.cell? ⟨T16, 0, none⟩ = some (.string m3.name) ∧ x.cell? ⟨T16, 1, none⟩ = some (.bool m3.fn) ∧ x.cell? ⟨T16, 2, none⟩ = some (.bool m3.va) ∧ x.cell? ⟨T16, 3, none⟩ = some (.slice pao3 i pcp3) ∧ x.cell? ⟨T16, 4, none⟩ = some (.slice bao3 nb bcp3) ∧ x.cell? ⟨T16, 5, none⟩ = some (.string m3.file) ∧ x.cell? ⟨T16, 6, none⟩ = some (.int .i64 m3.f) ∧ x.cell? ⟨T16, 7, none⟩ = some (.int .i64 m3.t)) ∧ x.cell? ⟨g4, 0, none⟩ = some (.int .i64 5) ∧ x.cell? ⟨g5, 0, none⟩ = some (.int .i64 5)) := Lib.hid (fun x hx => ⟨cells8x (HM.out x (hBAE.trans (hx.mono hBAE.size))).1, cells8x (HM3.out x (hBCE.trans (hx.mono hBCE.size))).1, mf_dg ((hD4.below hBE).below hx), mf_dg (hD5.below hx)⟩)
                  have HSm : Hid (∀ x : World, Below wE.heap.size wE x → Calls Try.prog 18 #[.agg #[.string name, .bool true, .bool false, .slice pao i pcp, .slice bao nb bcp, .string m.file, .int .i64 m.f, .int .i64 m.t], .agg #[.string m3.name, .bool m3.fn, .bool m3.va, .slice pao3 i pcp3, .slice bao3 nb bcp3, .string m3.file, .int .i64 m3.f, .int .i64 m3.t]] x fun e w' => e = .returned (.bool true) ∧ Below wE.heap.size wE w') := Lib.hid (fun x hx => (mf_same m m3 name _ _ _ _ x hK.out.nm hK.out.fn hK.out.va hK.out.sm (HM.out x (hBAE.trans (hx.mono hBAE.size))).2.1 (HM3.out x (hBCE.trans (hx.mono hBCE.size))).2).mono (by rintro e w' ⟨rfl, hw'⟩; exact ⟨rfl, hx.trans (hw'.mono hx.size)⟩))
                  have hEr : Below wE.heap.size wE (w12.alloc (.cells #[.string .empty, .bool false, .bool false, .slice none 0 0, .slice none 0 0, .string .empty, .int .i64 0, .int .i64 0] 29)) := by rw [← hwE.out]; exact Below.refl _ _
                  have HAw := fun x (hx : Below wE.heap.size wE x) => (mAwake_any x).mono (R' := fun e w' => e = .returned (.bool true) ∧ Below wE.heap.size wE w') (by rintro e w' ⟨rfl, hw'⟩; exact ⟨rfl, hx.trans (hw'.mono hx.size)⟩)
                  have HFin : Hid (∀ x : World, Below wE.heap.size wE x → Below w.heap.size w x) := Lib.hid (fun x hx => hBwE.trans (hx.mono hBwE.size))
                  replace HAw := Lib.hid HAw
                  obtain ⟨⟨p0, p1, p2, p3, p4, p5, p6, p7⟩, ⟨q0, q1, q2, q3, q4, q5, q6, q7⟩, k4, k5⟩ := HG.out _ hEr
                  clear hBCE hBAE hBwE hBE hBD hD4 hD5
                  go_wp2_with fail
                  refine (HSm.out _ hEr).mono ?_
                  rintro e w13 ⟨rfl, hb13⟩
                  obtain ⟨_, _, k4', k5'⟩ := HG.out _ hb13
                  go_wp2_with fail
                  refine (HAw.out _ hb13).mono ?_
                  rintro e w14 ⟨rfl, hb14⟩
                  go_wp2_with fail
                  go_ret
                  exact ⟨rfl, HFin.out _ hb14⟩
end Go.Proofs.Ythbicbfdldpemaa
