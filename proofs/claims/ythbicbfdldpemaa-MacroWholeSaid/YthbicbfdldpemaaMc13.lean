/- macro.Parse on a text's tokens. -/
import Derived.Test.YthbicbfdldpemaaMc12
import Derived.Test.YthbicbfdldpemaaMc7
namespace Go.Proofs.Ythbicbfdldpemaa
open Go.RowKit
set_option linter.unusedVariables false

/-- what Parse gives on tokens without sites -/
def ParseN (B : Nat) (r : Mac ⊕ Bad) (e : Ending) (w' : World) : Prop :=
  match r with
  | .inl m => ∃ (psv bov : Value), e = .returned (.tuple #[.agg (mcC m.name m.fn m.va psv bov m.file m.f m.t).toArray, .slice none 0 0]) ∧ MacOwn w' B m psv bov
  | .inr x => ∃ (g cap : Nat), e = .returned (.tuple #[.agg (mcC .empty false false (.slice none 0 0) (.slice none 0 0) .empty 0 0).toArray, .slice (some ⟨g, 0, none⟩) 1 cap]) ∧ Own w' B 38 4 (.slice (some ⟨g, 0, none⟩) 1 cap) [dgV x.code x.file x.f x.t]

theorem mParseN_any (l : List Tm) (ao : Option Addr) (cap : Nat) (hn : l.length ≤ 1000000) (hcap : l.length ≤ cap) (w : World) (hrow : Row w 8 ao ((l.map nilTv).map tvC)) :
    Calls Try.prog 14 #[.slice ao l.length cap] w fun e w' => Below w.heap.size w w' ∧ ParseN w.heap.size (parseL l) e w' := by
  have hl : (l.map nilTv).length = l.length := by simp
  have hf : (l.map nilTv).map (·.1) = l := by rw [List.map_map]; exact List.map_id _
  have h := mParse_any (l.map nilTv) ao cap (by rw [hl]; exact hn) (by rw [hl]; exact hcap) w hrow (by
    intro p hp
    obtain ⟨t, _, rfl⟩ := List.mem_map.1 hp
    exact ⟨[], SiteIn.nil _⟩)
  rw [hl, hf] at h
  refine h.mono ?_
  rintro e w' ⟨hb, hp⟩
  refine ⟨hb, ?_⟩
  unfold ParseN
  unfold ParsePost at hp
  cases hr : parseL l with
  | inl m =>
    rw [hr] at hp
    obtain ⟨psv, bov, T', rfl, h1, h2, h3, _, h5⟩ := hp
    exact ⟨psv, bov, rfl, h1, T', h2, h3, h5 (by
      intro p hp
      obtain ⟨t, _, rfl⟩ := List.mem_map.1 hp
      rfl)⟩
  | inr x =>
    rw [hr] at hp
    obtain ⟨vd, rfl, h1⟩ := hp
    obtain ⟨g, cap', rfl, _⟩ := h1.cons_at (by simp)
    exact ⟨g, cap', rfl, h1⟩

theorem bodyEq_refl : ∀ l : List Tm, bodyEq l l = true
  | [] => rfl
  | a :: l => by simp [bodyEq, alikeP, bodyEq_refl l]

theorem sameP_refl (m : Mac) : sameP m m = true := by simp [sameP, bodyEq_refl]

/-! ## what the document fixes, in plain Lean -/

def fix1 (r : Mac ⊕ Bad) : Bool := match r with | .inl m => m.fn && decide (m.params.length = 2) && decide (m.body.length = 2) && decide (Lib.idxOfS m.params (bs [98]) = 1) && decide (m.name.size = 1) | .inr _ => false
def fix2 (r : Mac ⊕ Bad) : Bool := match r with | .inl _ => false | .inr x => decide (x.code = 5)

theorem fixed1 : fix1 (parseL (toksL (bs [70, 40, 97, 44, 98, 41, 32, 97, 32, 98]).data.toList)) = true := by kernel_rfl
theorem fixed2 : fix2 (parseL (toksL (bs [70, 40, 97, 44, 97, 41, 32, 97]).data.toList)) = true := by kernel_rfl
theorem fixed3 : fix2 (parseL (toksL (bs [70, 32, 97, 35, 35]).data.toList)) = true := by kernel_rfl
end Go.Proofs.Ythbicbfdldpemaa
