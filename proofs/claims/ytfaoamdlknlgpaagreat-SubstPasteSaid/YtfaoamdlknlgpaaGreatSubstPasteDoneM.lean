
/- SubstPaste: for every input the law returns true. No condition. The walk and the plain law stand in the texts that this one imports; here is the row's step. -/
import Derived.Test.YtfaoamdlknlgpaaGreatRows
import Derived.Test.YtfaoamdlknlgpaaGreatSubstPasteDoneG44
import Derived.ProofKit
import Derived.OpenShut
import Derived.ShutString
import Derived.ChangeOld
import Derived.Carry
import Derived.Test.YtfaoamdlknlgpaaGreatSubstPasteDoneG45
namespace Go.Proofs.YtfaoamdlknlgpaaGreat.substPasteDone
open Go.ChangeShapes Go.WideShapes Go.ChangeAt Go.RowKit
open Go.ChangeMaps (open_string shut_string)
set_option linter.unusedVariables false

theorem own : ownKnob Tryz.prog.godebug = none := by kernel_rfl

set_option maxRecDepth 100000 in
theorem lifted (os : Os) (started : os.Started) (H : Type) (enc : TypeId × Value → H) :
    ReturnsInHanded {} Tryz.checked os 8 .any (Rows.substPasteSpec.pre6 enc Tryz.prog Tryz.f8 Rows.substPasteRow.domain false) (Rows.substPasteSpec.post enc Tryz.prog Tryz.f8 false true false false) := by
  refine returnsInHanded_of_change (C := Tryz.checked) own started (by kernel_rfl) Tryz.func8
    (ChangeSpec.witness6 (enc := enc) (C := Tryz.checked) false ⟨#[], #[.agg #[.int .i64 0, .string ByteArray.empty, .bool false, .string ByteArray.empty, .int .i64 0, .int .i64 0, .bool false, .slice none 0 0], .agg #[.int .i64 0, .string ByteArray.empty, .bool false, .string ByteArray.empty, .int .i64 0, .int .i64 0, .bool false, .slice none 0 0]], []⟩ 8 (by kernel_rfl) (by kernel_rfl) (by kernel_rfl) (by kernel_rfl)) ?_
  intro W base args ds gs before hval0 hW hcnd _
  have hval : ∀ (j : Nat) t v, Tryz.f8.params[j]? = some t → args[j]? = some v → Value.okWide Tryz.prog W .any base t v := hval0
  have hW' := hW
  have hlt := fun p hp => hW.lt p hp
  obtain ⟨p, q, hA0, hV, rfl, hfz, hnd⟩ := hW
  have hA : DataW.TrodAll enc Tryz.prog W 0 (fun _ => true) true Tryz.f8.params.toList args.toList ds p := hA0
  rw [Tryz.params8] at hA hval
  obtain ⟨v0, vs0, d0, ds0, p0, q0, hargs, rfl, rfl, h0, r0⟩ := trodAll_cons hA
  obtain ⟨v1, vs1, d1, ds1, p1, q1, rfl, rfl, rfl, h1, r1⟩ := trodAll_cons r0
  obtain ⟨rfl, rfl, rfl⟩ := trodAll_nil r1
  obtain rfl : args = #[v0, v1] := by cases args; simp_all
  obtain ⟨rfl, rfl⟩ := trodVars_none hV
  obtain ⟨cs0, hv0, _⟩ := okWide_struct Tryz.underlying34 (hval 0 34 v0 rfl rfl)
  subst hv0
  have h0k := h0
  obtain ⟨fuel0, hf0⟩ := h0
  have hcells0 : (Value.agg cs0).cells.toList = cs0.toList := rfl
  rw [hcells0] at hf0
  obtain ⟨t0, u0, hcs0, hsi0⟩ := open_token hf0
  obtain rfl : cs0 = (tmC t0 u0).toArray := by
    apply Array.ext'
    rw [hcs0]
  obtain ⟨cs1, hv1, _⟩ := okWide_struct Tryz.underlying34 (hval 1 34 v1 rfl rfl)
  subst hv1
  have h1k := h1
  obtain ⟨fuel1, hf1⟩ := h1
  have hcells1 : (Value.agg cs1).cells.toList = cs1.toList := rfl
  rw [hcells1] at hf1
  obtain ⟨t1, u1, hcs1, hsi1⟩ := open_token hf1
  obtain rfl : cs1 = (tmC t1 u1).toArray := by
    apply Array.ext'
    rw [hcs1]
  clear hA0 hval0 hcells0 hf0 hcells1 hf1 hcs0 hcs1
  simp only [List.append_nil] at hW' hlt
  refine (substPaste_walk t0 t1 u0 u1 W hsi0 hsi1).mono fun e W' ⟨he, bel⟩ => ?_
  subst he
  exact ⟨_, rfl, _, _, _, [], _, [], hW', trodAll_mk1 (shut_bool Tryz.underlying4 _), (trodAll_cons_mk (bel.trod (by kernel_rfl) (by kernel_rfl) (of_decide_eq_true (by kernel_rfl)) h0k (fun p hp => hlt p (by simp [hp]))) (trodAll_cons_mk (bel.trod (by kernel_rfl) (by kernel_rfl) (of_decide_eq_true (by kernel_rfl)) h1k (fun p hp => hlt p (by simp [hp]))) trodAll_mk0)), rfl, bel.frame _, fun h => by cases h⟩

theorem over : Rows.substPasteRow.holds Tryz.pinned (OpenSpec.ofChange Rows.substPasteSpec) :=
  OpenClaim.holds_of_wide 8 Tryz.f8 rfl rfl rfl rfl rfl rfl rfl ⟨rfl, rfl, rfl, rfl, rfl⟩ rfl rfl rfl rfl rfl (by kernel_rfl) Tryz.func8 (by kernel_rfl)
    (of_decide_eq_true (by kernel_rfl)) (by unfold Func.isWrapper; first | (rw [if_pos (by decide +kernel)]; kernel_rfl) | (rw [if_neg (by decide +kernel)]; exact ⟨rfl, rfl⟩))
    (fun os started H enc _ => lifted os started H enc)

theorem proved : Rows.SubstPasteSaid := over
#print axioms proved
end Go.Proofs.YtfaoamdlknlgpaaGreat.substPasteDone
