/- Texts of this seat's proofs, laid into one file. -/
import Derived.Test.YtfaoamdlknlgpaaGreatArgsTextsDoneG36
import Derived.Test.YtfaoamdlknlgpaaGreatArgsTextsDoneG25
import Derived.Test.YtfaoamdlknlgpaaGreatArgsTextsDoneG35
import Derived.Test.YtfaoamdlknlgpaaGreatArgsTextsDoneG19
/- ArgsTexts: the walk. -/
namespace Go.Proofs.YtfaoamdlknlgpaaGreat
open Go.RowKit
set_option linter.unusedVariables false

theorem SiteRd.slV {w : World} {v : Value} (h : SiteRd w v) : SlV v := by
  obtain ⟨ao, cap, css, rfl, _⟩ := h
  exact ⟨ao, _, cap, rfl⟩

/-- what Unquote gives, in two words -/
theorem unq_val (s : ByteArray) : ∃ y b, unqV (unqP s.data.toList) = .tuple #[.string y, .bool b] ∧ unqV (unqR s.data.toList) = .tuple #[.string y, .bool b] := by
  rw [← unq_same]
  unfold unqV
  cases unqP s.data.toList with
  | none => exact ⟨_, _, rfl, rfl⟩
  | some Y => exact ⟨_, _, rfl, rfl⟩

set_option maxRecDepth 100000 in
theorem argsTexts_walk (T : List (Tm × Value)) (ao : Option Addr) (cap : Nat) (hcap : T.length ≤ cap) (s : ByteArray) (_ : s.size ≤ maxLen) (w : World) (hrow : Row w 8 ao (T.map tvC)) (hs : ∀ p ∈ T, SiteRd w p.2) :
    Calls Tryz.prog 3 #[.slice ao T.length cap, .string s] w fun e w' => e = .returned (.bool true) ∧ Below w.heap.size w w' := by
  have HF := mFew_any T ao cap 60 (by decide) hcap w hrow hs
  have HSt : (T.length ≤ 60 ∧ ∀ p ∈ T, siteLen p.2 ≤ 20 ∧ p.1.text.size ≤ 300) → ∃ y, (∀ W, Below w.heap.size w W → Calls Tryz.prog 16 #[.slice ao T.length cap] W fun e w' => e = .returned (.string y) ∧ Below W.heap.size W w') ∧ ∀ W, Below w.heap.size w W → Calls Tryz.prog 17 #[.slice ao T.length cap] W fun e w' => e = .returned (.string y) ∧ Below W.heap.size W w' := fun h =>
    ⟨_, fun W hW => pStringize_any T ao cap (by omega) hcap (fun p hp => by have := (h.2 p hp).2; omega) W (hrow.below hW) (fun p hp => (hs p hp).slV), fun W hW => rStringize_any T ao cap (by omega) hcap (fun p hp => by have := (h.2 p hp).2; omega) W (hrow.below hW) (fun p hp => (hs p hp).slV)⟩
  obtain ⟨n, hn⟩ : ∃ n, n = T.length := ⟨_, rfl⟩
  have HN : Hid (T.length = n) := Lib.hid hn.symm
  rw [← hn] at hcap HF HSt ⊢
  clear hn hs hrow
  replace HSt := Lib.hid HSt
  replace HF := Lib.hid HF
  have HA := Lib.hid (fun W => awake10_any W)
  go_enter Tryz.func3, Tryz.ntmps3
  go_wp2_with fail
  refine HF.out.mono ?_
  rintro e w1 ⟨b, rfl, hw, hfew⟩
  replace hw := hw.symm
  subst hw
  cases b with
  | false =>
    clear hfew
    go_wp2_with fail
    refine (HA.out _).mono ?_
    rintro e w' ⟨rfl, hb⟩
    go_wp2
    go_ret
    exact ⟨rfl, hb⟩
  | true =>
    have hf := hfew rfl
    rw [HN.out] at hf
    by_cases h3 : 300 < s.size
    · have e3 : (300 : Int) < s.size := by omega
      clear hfew hf
      go_wp2_with fail
      refine (HA.out _).mono ?_
      rintro e w' ⟨rfl, hb⟩
      go_wp2
      go_ret
      exact ⟨rfl, hb⟩
    · have e3 : ¬ (300 : Int) < s.size := by omega
      obtain ⟨y, H1, H2⟩ := HSt.out hf
      obtain ⟨u, ub, hu1, hu2⟩ := unq_val s
      have HU1 := fun W => pUnquote_any s (by omega) W
      have HU2 := fun W => rUnquote_any s (by omega) W
      have HQ1 := fun W => pQuoted_any s (by omega) W
      have HQ2 := fun W => rQuoted_any s (by omega) W
      rw [hu1] at HU1
      rw [hu2] at HU2
      generalize (⟨(quoteL s.data.toList).toArray⟩ : ByteArray) = qs at HQ1 HQ2
      replace H1 := Lib.hid H1
      replace H2 := Lib.hid H2
      replace HU1 := Lib.hid HU1
      replace HU2 := Lib.hid HU2
      replace HQ1 := Lib.hid HQ1
      replace HQ2 := Lib.hid HQ2
      clear hfew hf hu1 hu2
      go_wp2_with fail
      refine (HU1.out w).mono ?_
      rintro e w1 ⟨rfl, hb1⟩
      go_wp2_with fail
      refine (HU2.out w1).mono ?_
      rintro e w2 ⟨rfl, hb2⟩
      have hB2 := hb1.trans (hb2.mono hb1.size)
      clear hb1 hb2
      go_wp2_with fail
      refine (H1.out w2 hB2).mono ?_
      rintro e w3 ⟨rfl, hb3⟩
      have hB3 := hB2.trans (hb3.mono hB2.size)
      clear hb3 hB2
      go_wp2_with fail
      refine (H2.out w3 hB3).mono ?_
      rintro e w4 ⟨rfl, hb4⟩
      have hB4 := hB3.trans (hb4.mono hB3.size)
      clear hb4 hB3
      go_wp2_with fail
      refine (HQ1.out w4).mono ?_
      rintro e w5 ⟨rfl, hb5⟩
      have hB5 := hB4.trans (hb5.mono hB4.size)
      clear hb5 hB4
      go_wp2_with fail
      refine (HQ2.out w5).mono ?_
      rintro e w6 ⟨rfl, hb6⟩
      have hB6 := hB5.trans (hb6.mono hB5.size)
      clear hb6 hB5
      go_wp2_with fail
      refine (HA.out w6).mono ?_
      rintro e w7 ⟨rfl, hb7⟩
      have hB7 := hB6.trans (hb7.mono hB6.size)
      clear hb7 hB6
      go_wp2
      go_ret
      exact ⟨by simp, hB7⟩
end Go.Proofs.YtfaoamdlknlgpaaGreat
