/- The law's look at a rope. -/
import Derived.Test.YtnmlijngnnlejaaRp11
namespace Go.Proofs.Ytnmlijngnnlejaa
open Go.RowKit
set_option linter.unusedVariables false

theorem get_byteR {s : ByteArray} {k : Nat} (h : k < s.size) : s.data.toList[k]? = some (s[k]'h) := by
  have hl : k < s.data.toList.length := by rw [← Lib.size_eq]; exact h
  rw [List.getElem?_eq_getElem hl]
  rfl

theorem u8_isR {c : UInt8} {n : Nat} (hn : n < 256) : ((c.toNat : Int) == n) = decide (c = n.toUInt8) := by
  have h1 : (n.toUInt8).toNat = n := by simp [Nat.toUInt8]; omega
  by_cases h : c = n.toUInt8
  · rw [decide_eq_true h, h, h1]; simp
  · rw [decide_eq_false h]
    simp only [beq_eq_false_iff_ne, ne_eq]
    intro e
    apply h
    apply UInt8.toNat_inj.1
    omega

theorem sub_text (s : ByteArray) (f u : Nat) (h2 : u ≤ s.size) : (⟨((s.data.toList.drop f).take (u - f)).toArray⟩ : ByteArray) = s.extract f u := by
  have : (s.extract f u).data.toList = (s.data.toList.drop f).take (u - f) := by
    rw [ByteArray.data_extract, Array.toList_extract, List.extract_eq_take_drop]
  rw [← this]

theorem cnt_next (l : List UInt8) (i : Nat) (h : i < l.length) : (l[i] = 10 → (l.take (i + 1)).count 10 = (l.take i).count 10 + 1) ∧ (l[i] ≠ 10 → (l.take (i + 1)).count 10 = (l.take i).count 10) := by
  have := cnt_take_succ l i h
  exact ⟨fun e => by rw [this, if_pos e], fun e => by rw [this, if_neg e]; rfl⟩

/-- where a line begins, as far as is looked -/
def startW (l : List UInt8) (n i : Nat) : Int := if n ≤ (l.take i).count 10 then (nlEnd l n : Nat) else -1
/-- where the line begins in which a place is, as far as is looked -/
def atW (l : List UInt8) (f i : Nat) : Nat := nlEnd l ((l.take (min i f)).count 10)

theorem eq_of_beq10 {a b : Nat} : ((a : Int) + 1 = b) → ((a + 1 : Nat) : Int) = b := by omega
theorem startW_zero {l : List UInt8} {n : Nat} (h : (n : Int) = 0) : startW l n 0 = 0 := by
  obtain rfl : n = 0 := by omega
  simp [startW, nlEnd_zero]
theorem startW_pos {l : List UInt8} {n : Nat} (h : (n : Int) ≠ 0) : startW l n 0 = -1 := by
  unfold startW
  rw [if_neg (by simp; omega)]
theorem atW_zero (l : List UInt8) (f : Nat) : atW l f 0 = 0 := by simp [atW, nlEnd_zero]
theorem atW_all {l : List UInt8} {f : Nat} (h : f ≤ l.length) : atW l f l.length = nlEnd l ((l.take f).count 10) := by unfold atW; rw [Nat.min_eq_right h]
theorem startW_all {l : List UInt8} {n : Nat} (h : n ≤ l.count 10) : startW l n l.length = (nlEnd l n : Nat) := by unfold startW; rw [List.take_length, if_pos h]
theorem atW_le (l : List UInt8) (f i : Nat) : atW l f i ≤ l.length := nlEnd_le _ _
theorem startW_le (l : List UInt8) (n i : Nat) : -1 ≤ startW l n i ∧ startW l n i ≤ l.length := by
  unfold startW
  have := nlEnd_le l n
  split <;> omega
theorem atW_next {l : List UInt8} {f i : Nat} (h : i < f) (hl : i < l.length) (hc : l[i] = 10) : atW l f (i + 1) = i + 1 := by
  unfold atW
  rw [Nat.min_eq_left (by omega), (cnt_next l i hl).1 hc]
  exact nlEnd_here l i (by rw [List.getElem?_eq_getElem hl, hc])
theorem atW_keep {l : List UInt8} {f i : Nat} (hl : i < l.length) (hc : l[i] ≠ 10) : atW l f (i + 1) = atW l f i := by
  unfold atW
  by_cases h : i < f
  · rw [Nat.min_eq_left (by omega), Nat.min_eq_left (by omega), (cnt_next l i hl).2 hc]
  · rw [Nat.min_eq_right (by omega), Nat.min_eq_right (by omega)]
theorem atW_keep2 {l : List UInt8} {f i : Nat} (h : ¬ i < f) : atW l f (i + 1) = atW l f i := by
  unfold atW
  rw [Nat.min_eq_right (by omega), Nat.min_eq_right (by omega)]
theorem startW_next {l : List UInt8} {n i : Nat} (hl : i < l.length) (hc : l[i] = 10) (hn : (l.take i).count 10 + 1 = n) : startW l n (i + 1) = i + 1 := by
  unfold startW
  rw [(cnt_next l i hl).1 hc, if_pos (by omega), ← hn, nlEnd_here l i (by rw [List.getElem?_eq_getElem hl, hc])]
  rfl
theorem startW_keep {l : List UInt8} {n i : Nat} (hl : i < l.length) (hn : (l.take i).count 10 + 1 ≠ n ∨ l[i] ≠ 10) : startW l n (i + 1) = startW l n i := by
  unfold startW
  by_cases hc : l[i] = 10
  · rw [(cnt_next l i hl).1 hc]
    have : (l.take i).count 10 + 1 ≠ n := hn.resolve_right (fun h => h hc)
    by_cases h : n ≤ (l.take i).count 10
    · rw [if_pos h, if_pos (by omega)]
    · rw [if_neg h, if_neg (by omega)]
  · rw [(cnt_next l i hl).2 hc]

set_option maxRecDepth 100000 in
set_option maxHeartbeats 8000000 in
theorem is_in {B g : Nat} {t : RT} (s : ByteArray) (w : World) (hr : RAt w B t g) (ht : t.Good) (hB : B ≤ w.heap.size) (hs : s.size ≤ 1000000) (htx : t.text = s.data.toList) (hd : t.high ≤ 8) (f u n : Nat) (h1 : f ≤ u) (h2 : u ≤ s.size) (hn : n ≤ s.data.toList.count 10) :
    Calls Try.prog 17 #[.pointer (some ⟨g, 0, none⟩), .string s, .int .i64 f, .int .i64 u, .int .i64 n] w fun e w' => e = .returned (.bool true) ∧ KR B g w w' := by
  have hsz := Lib.size_eq s
  have hl : t.text.length ≤ 1000000 := by rw [htx, ← hsz]; exact hs
  have HL := len_at w hr ht
  have HT := text_any (o := some t) w ⟨ht, g, rfl, hr⟩ hl
  have HS : Hid (∀ W, KR B g w W → Calls Try.prog 15 #[.pointer (some ⟨g, 0, none⟩), .int .i64 f, .int .i64 u] W fun e w' => e = .returned (.tuple #[.string (s.extract f u), .int .i64 0]) ∧ KR B g W w') := Lib.hid fun W hW => (slice_any (o := some t) W ⟨ht, g, rfl, hW.ropes _ _ hr⟩ (Nat.le_trans hB hW.below.size) hl f u h1 (by simp only [textO]; rw [htx, ← hsz]; exact h2)).mono fun e w' h => by
    have h1' := h.1
    simp only [textO] at h1'
    rw [htx, sub_text s f u h2] at h1'
    exact ⟨h1', KR.of_below (Nat.le_trans hB hW.below.size) h.2⟩
  have HLi : Hid (∀ W, KR B g w W → Calls Try.prog 13 #[.pointer (some ⟨g, 0, none⟩), .int .i64 f] W fun e w' => e = .returned (.tuple #[.int .i64 ((s.data.toList.take f).count 10 : Nat), .int .i64 ((f : Int) - (nlEnd s.data.toList ((s.data.toList.take f).count 10) : Nat)), .int .i64 0]) ∧ KR B g W w') := Lib.hid fun W hW => by
    have h := line_any W (hW.ropes _ _ hr) ht (Nat.le_trans hB hW.below.size) hl f (by rw [htx, ← hsz]; omega)
    rw [htx] at h
    exact h
  have HSt : Hid (∀ W, KR B g w W → Calls Try.prog 12 #[.pointer (some ⟨g, 0, none⟩), .int .i64 n] W fun e w' => e = .returned (.tuple #[.int .i64 (nlEnd s.data.toList n : Nat), .int .i64 0]) ∧ KR B g W w') := Lib.hid fun W hW => by
    have h := start_any W (hW.ropes _ _ hr) ht (Nat.le_trans hB hW.below.size) hl n (by rw [htx]; exact hn)
    rw [htx] at h
    exact h
  have HN : Hid (∀ W, KR B g w W → Calls Try.prog 11 #[.pointer (some ⟨g, 0, none⟩)] W fun e w' => e = .returned (.int .i64 ((s.data.toList.count 10 : Nat) + 1)) ∧ KR B g W w') := Lib.hid fun W hW => by
    have h := lines_any W (hW.ropes _ _ hr) (Nat.le_trans hB hW.below.size) hl
    rw [htx] at h
    exact h
  have HD : Hid (∀ W, KR B g w W → Calls Try.prog 18 #[.pointer (some ⟨g, 0, none⟩)] W fun e w' => e = .returned (.int .i64 t.high) ∧ w' = W) := Lib.hid fun W hW => depth_any (o := some t) W ⟨ht, g, rfl, hW.ropes _ _ hr⟩
  simp only [textO] at HT
  rw [htx] at HL HT
  rw [show (⟨s.data.toList.toArray⟩ : ByteArray) = s from rfl] at HT
  rw [← hsz] at HL
  replace HL := Lib.hid HL
  have HT1 : Hid (Calls Try.prog 16 #[.pointer (some ⟨g, 0, none⟩)] w fun e w' => e = .returned (.string s) ∧ KR B g w w') := Lib.hid (HT.mono fun e w' h => ⟨h.1, KR.of_below hB h.2⟩)
  obtain ⟨hi, hhi⟩ : ∃ hi, hi = t.high := ⟨_, rfl⟩
  rw [← hhi] at HD hd
  clear hr ht htx hl HT hhi
  have a1 : (0 : Int) ≤ f := by omega
  have a2 : (f : Int) ≤ u := by omega
  have a3 : (u : Int) ≤ s.size := by omega
  have a4 : (f : Int) ≤ s.size := by omega
  have a5 : (s.size : Int) ≤ 1000000 := by omega
  replace hsz := Lib.hid hsz
  replace hn := Lib.hid hn
  go_enter Try.func17, Try.ntmps17
  go_wp2_with fail
  refine HL.out.mono ?_
  rintro e w' ⟨rfl, hw'⟩
  replace hw' := hw'.symm
  subst hw'
  go_wp2_with fail
  refine HT1.out.mono ?_
  rintro e w1 ⟨rfl, k1⟩
  have HS1 := Lib.hid (HS.out _ k1)
  replace k1 := Lib.hid k1
  go_wp2_with fail
  refine HS1.out.mono ?_
  rintro e w2 ⟨rfl, k2⟩
  replace k2 := Lib.hid (k1.out.trans k2)
  clear HS1
  have hcw : Hid (∀ i, (s.data.toList.take i).count 10 ≤ s.size) := Lib.hid (fun i => by
    have := List.count_le_length (a := 10) (l := s.data.toList.take i)
    rw [List.length_take] at this
    have := hsz.out
    omega)
  have haw : Hid (∀ i, atW s.data.toList f i ≤ s.size) := Lib.hid (fun i => by rw [hsz.out]; exact atW_le _ _ _)
  have hsw : Hid (∀ i, -1 ≤ startW s.data.toList n i ∧ startW s.data.toList n i ≤ s.size) := Lib.hid (fun i => by rw [hsz.out]; exact startW_le _ _ _)
  have hz2 : ((n : Int) == 0) = true ∨ ((n : Int) == 0) = false := by cases ((n : Int) == 0) <;> simp
  rcases hz2 with hz | hz
  all_goals
    go_wp2_with fail
    go_loopg [14, 15, 16, 17] s.size (fun q v14 v15 v16 v17 w9 => ∃ i : Nat, q = s.size - i ∧ i ≤ s.size ∧ v14 = .int .i64 ((s.data.toList.take i).count 10 : Nat) ∧ v15 = .int .i64 (atW s.data.toList f i : Nat) ∧ v16 = .int .i64 (startW s.data.toList n i) ∧ v17 = .int .i64 i ∧ w9 = w2)
    case atStart => exact ⟨0, rfl, Nat.zero_le _, by simp, by rw [atW_zero]; rfl, by first | (rw [startW_zero (by simpa using hz)]) | (rw [startW_pos (by simpa using hz)]), rfl, rfl⟩
    case round =>
      obtain ⟨i, rfl, hi', rfl, rfl, rfl, rfl, hwr⟩ := hrel
      replace hwr := hwr.symm
      subst hwr
      by_cases hin : i < s.size
      · have f1 : (i : Int) < (s.size : Int) := by omega
        have hb := get_byteR hin
        have x10 := u8_isR (c := s[i]'hin) (n := 10) (by decide)
        have hlen : i < s.data.toList.length := by rw [← hsz.out]; exact hin
        have hget : s.data.toList[i] = s[i]'hin := by
          rw [List.getElem?_eq_getElem hlen] at hb
          exact Option.some.inj hb
        obtain ⟨ci, hci⟩ : ∃ c : Nat, c = (s.data.toList.take i).count 10 := ⟨_, rfl⟩
        have hcb := hcw.out i
        have hN := cnt_next s.data.toList i hlen
        have hA1 := fun h => @atW_next s.data.toList f i h hlen
        have hA2 := @atW_keep s.data.toList f i hlen
        have hA3 := @atW_keep2 s.data.toList f i
        have hS1 := @startW_next s.data.toList n i hlen
        have hS2 := @startW_keep s.data.toList n i hlen
        rw [← hci] at hcb hN hS1 hS2 ⊢
        rw [hget] at hN hA1 hA2 hS1 hS2
        obtain ⟨av, hav⟩ : ∃ a : Nat, a = atW s.data.toList f i := ⟨_, rfl⟩
        obtain ⟨sv, hsv⟩ : ∃ a : Int, a = startW s.data.toList n i := ⟨_, rfl⟩
        rw [← hav] at hA2 hA3 ⊢
        rw [← hsv] at hS2 ⊢
        replace hci := Lib.hid hci
        replace hav := Lib.hid hav
        replace hsv := Lib.hid hsv
        clear hb hget
        cases h10 : (((s[i]'hin).toNat : Int) == 10) with
        | true =>
          rw [show ((10 : Nat) : Int) = 10 from rfl, h10] at x10
          have hc : s[i]'hin = 10 := of_decide_eq_true x10.symm
          have hN1 := Lib.hid (hN.1 hc)
          have hA1' := Lib.hid (fun h => hA1 h hc)
          have hA3' := Lib.hid hA3
          have hS1' := Lib.hid (hS1 hc)
          have hS2' := Lib.hid (fun h => hS2 (.inl h))
          clear x10 hN hA1 hA2 hA3 hS1 hS2 hlen
          replace hc := Lib.hid hc
          by_cases hcn : (ci : Int) + 1 = n
          · have hcn' := Lib.hid (eq_of_beq10 hcn)
            by_cases hif : (i : Int) < f
            · go_wp2_with fail
              all_goals
                go_roundg (s.size - (i + 1))
                case measure => omega
                case rel => exact ⟨i + 1, rfl, by omega, by rw [hN1.out]; first | rfl | (rw [hcn'.out]), by rw [hA1'.out (by omega)]; rfl, by rw [hS1'.out (by omega)], rfl, rfl⟩
            · go_wp2_with fail
              all_goals
                go_roundg (s.size - (i + 1))
                case measure => omega
                case rel => exact ⟨i + 1, rfl, by omega, by rw [hN1.out]; first | rfl | (rw [hcn'.out]), by rw [hA3'.out (by omega)], by rw [hS1'.out (by omega)], rfl, rfl⟩
          · by_cases hif : (i : Int) < f
            · go_wp2_with fail
              go_roundg (s.size - (i + 1))
              case measure => omega
              case rel => exact ⟨i + 1, rfl, by omega, by rw [hN1.out]; rfl, by rw [hA1'.out (by omega)]; rfl, by rw [hS2'.out (by omega)], rfl, rfl⟩
            · go_wp2_with fail
              go_roundg (s.size - (i + 1))
              case measure => omega
              case rel => exact ⟨i + 1, rfl, by omega, by rw [hN1.out]; rfl, by rw [hA3'.out (by omega)], by rw [hS2'.out (by omega)], rfl, rfl⟩
        | false =>
          rw [show ((10 : Nat) : Int) = 10 from rfl, h10] at x10
          have hc : s[i]'hin ≠ 10 := of_decide_eq_false x10.symm
          have hN1 := Lib.hid (hN.2 hc)
          have hA1' := Lib.hid (hA2 hc)
          have hS2' := Lib.hid (hS2 (.inr hc))
          clear x10 hN hA1 hA2 hA3 hS1 hS2 hlen
          replace hc := Lib.hid hc
          go_wp2_with fail
          go_roundg (s.size - (i + 1))
          case measure => omega
          case rel => exact ⟨i + 1, rfl, by omega, by rw [hN1.out], by rw [hA1'.out], by rw [hS2'.out], rfl, rfl⟩
      · obtain rfl : i = s.size := by omega
        have f2 : ¬ (s.size : Int) < (s.size : Int) := by omega
        have q1 : s.data.toList.take s.size = s.data.toList := by rw [hsz.out, List.take_length]
        have q2 : atW s.data.toList f s.size = nlEnd s.data.toList ((s.data.toList.take f).count 10) := by rw [hsz.out]; exact atW_all (by rw [← hsz.out]; omega)
        have q3 : startW s.data.toList n s.size = (nlEnd s.data.toList n : Nat) := by rw [hsz.out]; exact startW_all hn.out
        have b1 := hcw.out s.size
        have b2 := haw.out s.size
        have b3 := hsw.out s.size
        rw [q1] at b1 ⊢
        rw [q2] at b2 ⊢
        rw [q3] at b3 ⊢
        have HL1 := HLi.out _ k2.out
        have b4 := hcw.out f
        obtain ⟨cf, hcf⟩ : ∃ x, x = (s.data.toList.take f).count 10 := ⟨_, rfl⟩
        rw [← hcf] at HL1 b2 b4 ⊢
        obtain ⟨zf, hzf⟩ : ∃ x, x = nlEnd s.data.toList cf := ⟨_, rfl⟩
        rw [← hzf] at HL1 b2 ⊢
        obtain ⟨zn, hzn⟩ : ∃ x, x = nlEnd s.data.toList n := ⟨_, rfl⟩
        rw [← hzn] at HSt b3 ⊢
        obtain ⟨cl, hcl⟩ : ∃ x, x = s.data.toList.count 10 := ⟨_, rfl⟩
        rw [← hcl] at HN b1 ⊢
        replace HL1 := Lib.hid HL1
        have b5 : (zn : Int) ≤ s.size := b3.2
        have b5' : (0 : Int) ≤ (zn : Int) := by omega
        clear q1 q2 q3 haw hsw hzf hzn hcl b3 HLi hi'
        replace hcf := Lib.hid hcf
        have g1 : IntKind.i64.wrap ((f : Int) - (zf : Int)) = (f : Int) - (zf : Int) := IntWalk.i64_in _ (by omega)
        go_wp2_with fail
        refine HL1.out.mono ?_
        rintro e w3 ⟨rfl, k3⟩
        have HS1 := Lib.hid (HSt.out _ (k2.out.trans k3))
        replace k3 := Lib.hid (k2.out.trans k3)
        clear HL1 HSt
        go_wp2_with fail
        go_loopg [21, 22] f (fun q v21 v22 w9 => ∃ j : Nat, q = f - j ∧ j ≤ f ∧ v21 = .int .i64 ((s.data.toList.take j).count 10 : Nat) ∧ v22 = .int .i64 j ∧ w9 = w3)
        case atStart => exact ⟨0, rfl, Nat.zero_le _, by simp, rfl, rfl⟩
        case round =>
          obtain ⟨j, rfl, hj', rfl, rfl, hwr⟩ := hrel
          replace hwr := hwr.symm
          subst hwr
          by_cases hjf : (j : Int) < f
          · have hjs : j < s.size := by omega
            have f3 : (j : Int) < (s.size : Int) := by omega
            have hb := get_byteR hjs
            have x10 := u8_isR (c := s[j]'hjs) (n := 10) (by decide)
            have hlen : j < s.data.toList.length := by rw [← hsz.out]; exact hjs
            have hget : s.data.toList[j] = s[j]'hjs := by
              rw [List.getElem?_eq_getElem hlen] at hb
              exact Option.some.inj hb
            obtain ⟨cj, hcj⟩ : ∃ c : Nat, c = (s.data.toList.take j).count 10 := ⟨_, rfl⟩
            have hcb := hcw.out j
            have hN := cnt_next s.data.toList j hlen
            rw [← hcj] at hcb hN ⊢
            rw [hget] at hN
            replace hcj := Lib.hid hcj
            clear hb hget
            cases h10 : (((s[j]'hjs).toNat : Int) == 10) with
            | true =>
              rw [show ((10 : Nat) : Int) = 10 from rfl, h10] at x10
              have hN1 := Lib.hid (hN.1 (of_decide_eq_true x10.symm))
              clear x10 hN hlen
              go_wp2_with fail
              go_roundg (f - (j + 1))
              case measure => omega
              case rel => exact ⟨j + 1, rfl, by omega, by rw [hN1.out]; rfl, rfl, rfl⟩
            | false =>
              rw [show ((10 : Nat) : Int) = 10 from rfl, h10] at x10
              have hN1 := Lib.hid (hN.2 (of_decide_eq_false x10.symm))
              clear x10 hN hlen
              go_wp2_with fail
              go_roundg (f - (j + 1))
              case measure => omega
              case rel => exact ⟨j + 1, rfl, by omega, by rw [hN1.out], rfl, rfl⟩
          · obtain rfl : j = f := by omega
            rw [← hcf.out]
            by_cases hjs : (j : Int) < (s.size : Int)
            all_goals
              go_wp2_with fail
              refine HS1.out.mono ?_
              rintro e w4 ⟨rfl, k4⟩
              have HN1 := Lib.hid (HN.out _ (k3.out.trans k4))
              replace k4 := Lib.hid (k3.out.trans k4)
              clear HS1
              go_wp2_with fail
              go_loopg [26, 27] (s.size + 1) (fun q v26 v27 w9 => ∃ d k : Nat, q = k ∧ d + k ≤ s.size + 1 ∧ v26 = .int .i64 d ∧ v27 = .int .i64 k ∧ w9 = w4)
              case atStart => exact ⟨0, s.size + 1, rfl, by omega, rfl, by first | rfl | (rw [show ((s.size + 1 : Nat) : Int) = (s.size : Int) + 1 by omega]), rfl⟩
              case round =>
                obtain ⟨d, k, hq, hdk, rfl, rfl, hwr⟩ := hrel
                replace hwr := hwr.symm
                subst hwr
                replace hq := hq.symm
                subst hq
                by_cases hk : (0 : Int) < k
                · have f7 : k / 2 < k := by omega
                  go_wp2_with fail
                  go_roundg (k / 2)
                  case measure => omega
                  case rel => exact ⟨d + 1, k / 2, rfl, by omega, rfl, by first | rfl | (rw [show ((k / 2 : Nat) : Int) = (k : Int) / 2 by omega]), rfl⟩
                · have f5 : (hi : Int) ≤ 4 * (d : Int) + 8 := by omega
                  have f6 : (d : Int) ≤ 1000001 := by omega
                  go_wp2_with fail
                  refine HN1.out.mono ?_
                  rintro e w5 ⟨rfl, k5⟩
                  have HD1 := Lib.hid (HD.out _ (k4.out.trans k5))
                  replace k5 := Lib.hid (k4.out.trans k5)
                  go_wp2_with fail
                  refine HD1.out.mono ?_
                  rintro e w' ⟨rfl, hw'⟩
                  replace hw' := hw'.symm
                  subst hw'
                  go_wp2
                  go_ret
                  exact ⟨rfl, k5.out⟩
end Go.Proofs.Ytnmlijngnnlejaa
