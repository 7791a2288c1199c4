/- Paths: Dir (the program's and the document's), and the document's Parts. -/
import Derived.Test.YtekbilieddficaaDoorPa1
namespace Go.Proofs.YtekbilieddficaaDoor
open Go.RowKit
set_option linter.unusedVariables false

/-- the last slash, or -1 -/
def SlashL (p : List UInt8) (r : Int) : Prop := (∃ k : Nat, r = k ∧ p[k]? = some 47 ∧ ∀ j, k < j → p[j]? ≠ some 47) ∨ (r = -1 ∧ ∀ j : Nat, p[j]? ≠ some 47)

theorem u8_is {c : UInt8} {n : Nat} (hn : n < 256) : ((c.toNat : Int) == n) = decide (c = n.toUInt8) := by
  have h1 : (n.toUInt8).toNat = n := by simp [Nat.toUInt8]; omega
  by_cases h : c = n.toUInt8
  · rw [decide_eq_true h, h, h1]; simp
  · rw [decide_eq_false h]
    simp only [beq_eq_false_iff_ne, ne_eq]
    intro e
    apply h
    rw [← UInt8.toNat_inj, h1]
    omega

theorem slashL_dir {p : List UInt8} {r : Int} (h : SlashL p r) : DirOf p (p.take (max r 0).toNat) := by
  rcases h with ⟨k, rfl, h1, h2⟩ | ⟨rfl, h1⟩
  · exact .inl ⟨k, h1, h2, by simp⟩
  · refine .inr ⟨?_, by rw [show (max (-1 : Int) 0).toNat = 0 from rfl]; rfl⟩
    intro c hc e
    subst e
    obtain ⟨j, hj, hjc⟩ := List.mem_iff_getElem.1 hc
    exact h1 j (by rw [List.getElem?_eq_getElem hj, hjc])

set_option maxRecDepth 100000 in
set_option maxHeartbeats 4000000 in
theorem lastIndex_any (s : ByteArray) (hs : s.size ≤ 1000000) (w : World) : Calls Tryd.prog 58 #[.string s, .int .u8 47] w fun e w' => (∃ r : Int, e = .returned (.int .i64 r) ∧ SlashL s.data.toList r) ∧ w' = w := by
  have HS : Hid (s.size = s.data.toList.length) := Lib.hid (Lib.size_eq s)
  go_enter Tryd.func58, Tryd.ntmps58
  go_wp2_with fail
  have HB : Calls Tryd.prog 77 #[.string s, .int .u8 47] w fun e w' => (∃ r : Int, e = .returned (.int .i64 r) ∧ SlashL s.data.toList r) ∧ w' = w := by
    go_enter Tryd.func77, Tryd.ntmps77
    go_wp2_with fail
    go_loopg [5] s.size (fun u v wr => ∃ k : Nat, k = u ∧ k ≤ s.size ∧ v = .int .i64 ((k : Int) - 1) ∧ wr = w ∧ Hid (∀ j : Nat, k ≤ j → s.data.toList[j]? ≠ some 47))
    case atStart => exact ⟨s.size, rfl, Nat.le_refl _, by first | rfl | go_num, rfl, Lib.hid (by intro j hj e; rw [List.getElem?_eq_none (by rw [← HS.out]; omega)] at e; cases e)⟩
    case round =>
      obtain ⟨k, rfl, hk, rfl, hwr, hno⟩ := hrel
      replace hwr := hwr.symm
      subst hwr
      cases k with
      | zero =>
        have f0 : ¬ (0 : Int) ≤ ((0 : Nat) : Int) - 1 := by omega
        go_wp2
        go_ret
        exact ⟨⟨_, rfl, .inr ⟨rfl, fun j => hno.out j (Nat.zero_le _)⟩⟩, rfl⟩
      | succ k =>
        have e0 : ((k + 1 : Nat) : Int) - 1 = (k : Int) := by omega
        rw [e0]
        have hks : k < s.size := by omega
        have f1 : (k : Int) < (s.size : Int) := by omega
        have hb := get_byte hks
        have x47 := u8_is (c := s[k]'hks) (n := 47) (by decide)
        cases h47 : (((s[k]'hks).toNat : Int) == 47) with
        | true =>
          have h1 : s.data.toList[k]? = some 47 := by rw [hb]; rw [show ((47 : Nat) : Int) = 47 from rfl, h47] at x47; rw [of_decide_eq_true x47.symm]; rfl
          have h2 := Lib.hid h1
          clear h1 hb x47
          go_wp2
          go_ret
          exact ⟨⟨_, rfl, .inl ⟨k, rfl, h2.out, fun j hj => hno.out j hj⟩⟩, rfl⟩
        | false =>
          have h1 : ∀ j : Nat, k ≤ j → s.data.toList[j]? ≠ some 47 := by
            intro j hj
            by_cases h : j = k
            · subst h
              rw [hb]
              intro e
              rw [show ((47 : Nat) : Int) = 47 from rfl, h47] at x47
              exact of_decide_eq_false x47.symm (Option.some.inj e)
            · exact hno.out j (by omega)
          have h2 := Lib.hid h1
          clear h1 hb x47 hno
          go_wp2_with fail
          go_roundg k
          case measure => omega
          case rel => exact ⟨k, rfl, by omega, by first | rfl | go_num, rfl, h2⟩
  refine HB.mono ?_
  rintro e w' ⟨⟨r, rfl, hr⟩, hw'⟩
  replace hw' := hw'.symm
  subst hw'
  go_wp2
  go_ret
  exact ⟨⟨r, rfl, hr⟩, rfl⟩
end Go.Proofs.YtekbilieddficaaDoor
