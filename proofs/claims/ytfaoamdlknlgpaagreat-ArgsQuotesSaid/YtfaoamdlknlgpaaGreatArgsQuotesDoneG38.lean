/- Texts of this seat's proofs, laid into one file. -/
import Derived.Test.YtfaoamdlknlgpaaGreatArgsQuotesDoneG29
import Derived.Test.YtfaoamdlknlgpaaGreatArgsQuotesDoneG37
/- ArgsQuotes: the walk. -/
namespace Go.Proofs.YtfaoamdlknlgpaaGreat
open Go.RowKit
set_option linter.unusedVariables false

/-- tokens that a law writes out -/
def litT (p : Int × ByteArray × Bool) : Tm := ⟨p.1, p.2.1, p.2.2, .empty, 0, 0, false⟩

theorem strz_xy : strzL [litT (1, bs [120], false), litT (1, bs [121], true)] = [34, 120, 32, 121, 34] := by kernel_rfl
theorem strz_one (q : ByteArray) : strzL [litT (4, q, false)] = quoteL q.data.toList := by
  simp [strzL, strF, spT, strT, litT, quoteL]

set_option maxRecDepth 100000 in
set_option maxHeartbeats 4000000 in
theorem argsQuotes_walk (s : ByteArray) (_ : s.size ≤ maxLen) (w : World) :
    Calls Tryz.prog 4 #[.string s] w fun e w' => e = .returned (.bool true) ∧ Below w.heap.size w w' := by
  have HA := Lib.hid (fun W => awake10_any W)
  by_cases h3 : 300 < s.size
  · have e3 : (300 : Int) < s.size := by omega
    go_enter Tryz.func4, Tryz.ntmps4
    go_wp2_with fail
    refine (HA.out _).mono ?_
    rintro e w' ⟨rfl, hb⟩
    go_wp2
    go_ret
    exact ⟨rfl, hb⟩
  have e3 : ¬ (300 : Int) < s.size := by omega
  go_enter Tryz.func4, Tryz.ntmps4
  go_wp2_with fail
  go_loopg [3] s.size (fun q v3 wx => ∃ i : Nat, q = s.size - i ∧ i ≤ s.size ∧ v3 = .int .i64 i ∧ Hid ((10 : UInt8) ∉ s.data.toList.take i) ∧ wx = w)
  case atStart => exact ⟨0, rfl, Nat.zero_le _, rfl, Lib.hid (by simp), rfl⟩
  case round =>
    obtain ⟨i, hq, hi, rfl, hno, hw⟩ := hrel
    replace hq := hq.symm
    subst hq
    replace hw := hw.symm
    subst hw
    by_cases hin : i < s.size
    · have hin' : (i : Int) < s.size := by omega
      have f4 : Hid (s.size - (i + 1) < s.size - i) := Lib.hid (by omega)
      have g1 : IntKind.i64.wrap ((i : Int) + 1) = (i : Int) + 1 := IntWalk.i64_in _ (by omega)
      obtain ⟨c, hc, hci, hst⟩ := byte_at hin
      replace hst := Lib.hid hst
      clear hc
      by_cases hc10 : c = 10
      · have hc10' : (((c.toNat : Nat) : Int) == 10) = true := by rw [hc10]; rfl
        replace hc10 := Lib.hid hc10
        go_wp2_with fail
        refine (HA.out _).mono ?_
        rintro e w' ⟨rfl, hb⟩
        go_wp2
        go_ret
        exact ⟨rfl, hb⟩
      · have hc10' : (((c.toNat : Nat) : Int) == 10) = false := by
          apply beq_false_of_ne
          intro h
          exact hc10 (u8_of (n := 10) (by decide) h)
        have hno2 : Hid ((10 : UInt8) ∉ s.data.toList.take (i + 1)) := Lib.hid (by
          rw [hst.out]
          intro h
          rcases List.mem_append.1 h with h | h
          · exact hno.out h
          · simp only [List.mem_singleton] at h
            exact hc10 h.symm)
        go_wp2_with fail
        go_roundg (s.size - (i + 1))
        case measure => exact f4.out
        case rel => exact ⟨i + 1, rfl, by omega, by simp, hno2, rfl⟩
    · have hin' : ¬ (i : Int) < s.size := by omega
      have hsl : s.data.toList.length = s.size := Array.length_toList
      have htk : s.data.toList.take i = s.data.toList := List.take_of_length_le (by rw [hsl]; omega)
      rw [htk] at hno
      obtain ⟨q, hq⟩ : ∃ q : ByteArray, q = ⟨(quoteL s.data.toList).toArray⟩ := ⟨_, rfl⟩
      have hqd : q.data.toList = quoteL s.data.toList := by rw [hq]
      have hqs : q.size ≤ 602 := by
        obtain ⟨hz1, hz2⟩ := escL_sz (s := s) (by omega)
        have h1 : q.size = (quoteL s.data.toList).length := by rw [← hqd]; exact Array.length_toList.symm
        rw [h1, quoteL, List.length_cons, List.length_append, List.length_singleton, escL_len]
        have := escN_le s.data.toList
        omega
      have HQ1 := pQuoted_any s (by omega) w
      rw [← hq] at HQ1
      have HO := fun W => rOne_any q (by omega) W
      have hone : oneTokR q.data.toList = [.int .i64 4, .string q, .bool false, .string ⟨#[]⟩, .int .i64 0, .int .i64 0, .bool false, .slice none 0 0] ∧ (oneR q.data.toList).isSome = true := by
        have h1 : oneR q.data.toList = some 4 := by rw [hqd]; exact quote_one hno.out
        have h2 : (⟨q.data.toList.toArray⟩ : ByteArray) = q := by cases q; simp
        unfold oneTokR
        rw [h1, h2]
        exact ⟨rfl, rfl⟩
      rw [hone.1, hone.2] at HO
      have HU := fun W => pUnquote_any q (by omega) W
      rw [hqd, quote_back hno.out] at HU
      have hs2 : (⟨s.data.toList.toArray⟩ : ByteArray) = s := by cases s; simp
      unfold unqV at HU
      simp only [hs2] at HU
      have HQ2 := fun W => pQuoted_any q (by omega) W
      have HS1 : ∀ W, Calls Tryz.prog 16 #[.slice (some ⟨W.heap.size, 0, none⟩) 1 1] (W.alloc (.cells #[.int .i64 4, .string q, .bool false, .string .empty, .int .i64 0, .int .i64 0, .bool false, .slice none 0 0] 34)) fun e w' => e = .returned (.string ⟨(quoteL q.data.toList).toArray⟩) ∧ Below W.heap.size W w' := fun W => by
        have h := pStringize_any [(litT (4, q, false), .slice none 0 0)] (some ⟨W.heap.size, 0, none⟩) 1 (by simp) (by simp) (by intro p hp; simp at hp; subst hp; show q.size ≤ 1000; omega) (W.alloc (.cells #[.int .i64 4, .string q, .bool false, .string .empty, .int .i64 0, .int .i64 0, .bool false, .slice none 0 0] 34)) (row_new W (sz := 8) (by intro c hc; simp at hc; subst hc; rfl) 34 (by simp [tvC, tmC, litT]) rfl) (by intro p hp; simp at hp; subst hp; exact ⟨none, 0, 0, rfl⟩)
        rw [show strzL ([(litT (4, q, false), Value.slice none 0 0)].map (·.1)) = quoteL q.data.toList from strz_one q] at h
        exact h.mono fun e w' ⟨h1, h2⟩ => ⟨h1, ((Below.refl _ W).alloc (Nat.le_refl _) _).trans (h2.mono (by simp))⟩
      have HS2 : ∀ W, Calls Tryz.prog 16 #[.slice (some ⟨W.heap.size, 0, none⟩) 2 2] (W.alloc (.cells #[.int .i64 1, .string (bs [120]), .bool false, .string .empty, .int .i64 0, .int .i64 0, .bool false, .slice none 0 0, .int .i64 1, .string (bs [121]), .bool true, .string .empty, .int .i64 0, .int .i64 0, .bool false, .slice none 0 0] 34)) fun e w' => e = .returned (.string (bs [34, 120, 32, 121, 34])) ∧ Below W.heap.size W w' := fun W => by
        have h := pStringize_any [(litT (1, bs [120], false), .slice none 0 0), (litT (1, bs [121], true), .slice none 0 0)] (some ⟨W.heap.size, 0, none⟩) 2 (by simp) (by simp) (by intro p hp; simp at hp; rcases hp with rfl | rfl <;> decide) (W.alloc (.cells #[.int .i64 1, .string (bs [120]), .bool false, .string .empty, .int .i64 0, .int .i64 0, .bool false, .slice none 0 0, .int .i64 1, .string (bs [121]), .bool true, .string .empty, .int .i64 0, .int .i64 0, .bool false, .slice none 0 0] 34)) (row_new W (sz := 8) (by intro c hc; simp at hc; rcases hc with rfl | rfl <;> rfl) 34 (by simp [tvC, tmC, litT]) rfl) (by intro p hp; simp at hp; rcases hp with rfl | rfl <;> exact ⟨none, 0, 0, rfl⟩)
        rw [show strzL ([(litT (1, bs [120], false), Value.slice none 0 0), (litT (1, bs [121], true), Value.slice none 0 0)].map (·.1)) = [34, 120, 32, 121, 34] from strz_xy] at h
        exact h.mono fun e w' ⟨h1, h2⟩ => ⟨h1, ((Below.refl _ W).alloc (Nat.le_refl _) _).trans (h2.mono (by simp))⟩
      generalize (⟨(quoteL q.data.toList).toArray⟩ : ByteArray) = qq at HQ2 HS1
      replace HQ1 := Lib.hid HQ1
      replace HO := Lib.hid HO
      replace HU := Lib.hid HU
      replace HQ2 := Lib.hid HQ2
      replace HS1 := Lib.hid HS1
      replace HS2 := Lib.hid HS2
      clear hq hqd hqs hone hs2 htk hsl hno
      go_wp2_with fail
      refine HQ1.out.mono ?_
      rintro e w1 ⟨rfl, hb1⟩
      go_wp2_with fail
      refine (HO.out w1).mono ?_
      rintro e w2 ⟨rfl, hb2⟩
      have hB2 := hb1.trans (hb2.mono hb1.size)
      clear hb1 hb2
      go_wp2_with fail
      have hB3 := hB2.alloc hB2.size (.cells #[.int .i64 4, .string q, .bool false, .string ⟨#[]⟩, .int .i64 0, .int .i64 0, .bool false, .slice none 0 0] 34)
      have hc3 := (cells8 (heap_alloc_new w2 (.cells #[.int .i64 4, .string q, .bool false, .string ⟨#[]⟩, .int .i64 0, .int .i64 0, .bool false, .slice none 0 0] 34))).1
      refine (HU.out _).mono ?_
      rintro e w4 ⟨rfl, hb4⟩
      have hc4 := kept_cell hb4 hc3
      have hB4 := hB3.trans (hb4.mono hB3.size)
      clear hb4 hB3 hc3 hB2
      go_wp2_with fail
      refine (HS1.out w4).mono ?_
      rintro e w5 ⟨rfl, hb5⟩
      have hB5 := hB4.trans (hb5.mono hB4.size)
      clear hb5 hB4 hc4
      go_wp2_with fail
      refine (HQ2.out w5).mono ?_
      rintro e w6 ⟨rfl, hb6⟩
      have hB6 := hB5.trans (hb6.mono hB5.size)
      clear hb6 hB5
      go_wp2_with fail
      refine (HS2.out w6).mono ?_
      rintro e w7 ⟨rfl, hb7⟩
      have hB7 := hB6.trans (hb7.mono hB6.size)
      clear hb7 hB6
      go_wp2_with fail
      refine (HA.out w7).mono ?_
      rintro e w8 ⟨rfl, hb8⟩
      have hB8 := hB7.trans (hb8.mono hB7.size)
      go_wp2
      go_ret
      exact ⟨by simp, hB8⟩
end Go.Proofs.YtfaoamdlknlgpaaGreat
