/- oxbowlaw5's awake. -/
import Derived.Test.YthbicbfdldpemaaLw20
import Derived.Test.YthbicbfdldpemaaLw19
import Derived.KernelRfl
namespace Go.Proofs.Ythbicbfdldpemaa
open Go.RowKit
set_option linter.unusedVariables false

theorem skips_stay {R : List Rn} {s t : NS} (h : Skips R s t) (hs : ¬ AtIn R s ∨ AtTok R s) : t = s := by
  induction h with
  | refl => rfl
  | white h hi hw ih =>
    subst ih
    rcases hs with hs | hs
    · exact absurd hi hs
    · rw [hs.2.1] at hw; cases hw
  | com h hi hw hc ih =>
    subst ih
    rcases hs with hs | hs
    · exact absurd hi hs
    · exact absurd hc hs.2.2

/-- a text's first token, where no blank and no comment stands ahead of it -/
theorem one_tok {l : List UInt8} {e : Ending} (hp : OnePost l e) (hl : 0 < l.length) (h10 : chAt l 0 ≠ 10) (hw : whiteB (chAt l 0) = false) (hc : ¬ 0 < (commentL l 0).1) :
    e = .returned (.tuple #[.agg (if (nextL l 0).2.1 < l.length ∨ tellB l 0 (-1) = true then zeroTok.toArray else #[.int .i64 (nextL l 0).1, .string ⟨(l.take (nextL l 0).2.1).toArray⟩, .bool false, .string ⟨#[]⟩, .int .i64 0, .int .i64 0, .bool false, .slice none 0 0]), .bool (decide (¬ ((nextL l 0).2.1 < l.length ∨ tellB l 0 (-1) = true)))]) := by
  have hat : AtTok (plainR l) ⟨0, [], false, -1, false⟩ := by
    unfold AtTok AtIn
    rw [plainR_cs, plainR_len]
    exact ⟨⟨hl, h10⟩, hw, hc⟩
  obtain ⟨s, hsk, hh⟩ := hp
  have hs := skips_stay hsk (.inr hat)
  subst hs
  rcases hh with ⟨h1, _⟩ | ⟨_, rfl⟩
  · exact absurd hat.1 h1
  · have hd : (0 < (afterTok (plainR l) ⟨0, [], false, -1, false⟩).ds.length) ↔ tellB l 0 (-1) = true := by
      unfold afterTok
      simp only [plainR_cs]
      cases tellB l 0 (-1) <;> simp
    have hi : (afterTok (plainR l) ⟨0, [], false, -1, false⟩).i = (nextL l 0).2.1 := by unfold afterTok; simp only [plainR_cs]
    simp only [hd, hi, Bool.false_eq_true, false_or]
    unfold tokN
    simp only [plainR_cs, List.drop_zero, Nat.sub_zero]

theorem aw1 : linesL [97, 43, 43, 43, 98, 10] = ([⟨[⟨1, [97], false, 0, 1⟩, ⟨5, [43, 43], false, 1, 3⟩, ⟨5, [43], false, 3, 4⟩, ⟨1, [98], false, 4, 5⟩], 0, 6, false⟩], []) := by rfl
theorem aw2 : linesL [47, 42, 32, 120] = ([⟨[], 0, 4, true⟩], [⟨1, 0, 2⟩]) := by rfl

theorem one1 {e : Ending} (hp : OnePost [60, 60, 61] e) : e = .returned (.tuple #[.agg #[.int .i64 5, .string ⟨#[60, 60, 61]⟩, .bool false, .string ⟨#[]⟩, .int .i64 0, .int .i64 0, .bool false, .slice none 0 0], .bool true]) := by
  have := one_tok hp (by decide) (by decide) (by decide) (by decide)
  rw [show nextL [60, 60, 61] 0 = (5, 3, false) by rfl, show tellB [60, 60, 61] 0 (-1) = false by decide] at this
  simpa using this
theorem one2 {e : Ending} (hp : OnePost [97, 32, 98] e) : e = .returned (.tuple #[.agg zeroTok.toArray, .bool false]) := by
  have := one_tok hp (by decide) (by decide) (by decide) (by decide)
  rw [show nextL [97, 32, 98] 0 = (1, 1, false) by rfl] at this
  simpa using this
end Go.Proofs.Ythbicbfdldpemaa
