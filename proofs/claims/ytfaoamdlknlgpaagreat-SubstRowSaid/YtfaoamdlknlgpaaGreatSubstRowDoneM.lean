
/- SubstRow: for every input the law returns true. No condition. The walk and the plain law stand in the texts that this one imports; here is the row's step. -/
import Derived.Test.YtfaoamdlknlgpaaGreatRows
import Derived.Test.YtfaoamdlknlgpaaGreatSubstRowDoneG45
import Derived.ProofKit
import Derived.OpenShut
import Derived.ShutString
import Derived.ChangeOld
import Derived.Carry
import Derived.Test.YtfaoamdlknlgpaaGreatSubstRowDoneG46
namespace Go.Proofs.YtfaoamdlknlgpaaGreat.substRowDone
open Go.ChangeShapes Go.WideShapes Go.ChangeAt Go.RowKit
open Go.ChangeMaps (open_string shut_string)
set_option linter.unusedVariables false

theorem own : ownKnob Tryz.prog.godebug = none := by kernel_rfl

set_option maxRecDepth 100000 in
theorem lifted (os : Os) (started : os.Started) (H : Type) (enc : TypeId × Value → H) :
    ReturnsInHanded {} Tryz.checked os 9 .any (Rows.substRowSpec.pre6 enc Tryz.prog Tryz.f9 Rows.substRowRow.domain false) (Rows.substRowSpec.post enc Tryz.prog Tryz.f9 false true false false) := by
  refine returnsInHanded_of_change (C := Tryz.checked) own started (by kernel_rfl) Tryz.func9
    (ChangeSpec.witness6 (enc := enc) (C := Tryz.checked) false ⟨#[], #[.slice none 0 0], []⟩ 8 (by kernel_rfl) (by kernel_rfl) (by kernel_rfl) (by kernel_rfl)) ?_
  intro W base args ds gs before hval0 hW hcnd _
  have hval : ∀ (j : Nat) t v, Tryz.f9.params[j]? = some t → args[j]? = some v → Value.okWide Tryz.prog W .any base t v := hval0
  have hW' := hW
  have hlt := fun p hp => hW.lt p hp
  obtain ⟨p, q, hA0, hV, rfl, hfz, hnd⟩ := hW
  have hA : DataW.TrodAll enc Tryz.prog W 0 (fun _ => true) true Tryz.f9.params.toList args.toList ds p := hA0
  rw [Tryz.params9] at hA hval
  obtain ⟨v0, vs0, d0, ds0, p0, q0, hargs, rfl, rfl, h0, r0⟩ := trodAll_cons hA
  obtain ⟨rfl, rfl, rfl⟩ := trodAll_nil r0
  obtain rfl : args = #[v0] := by cases args; simp_all
  obtain ⟨rfl, rfl⟩ := trodVars_none hV
  obtain ⟨b0, len0, cap0, hv0⟩ := okWide_slice Tryz.underlying45 (hval 0 45 v0 rfl rfl)
  have h0k := h0
  obtain ⟨fuel0, hf0⟩ := h0
  have hcells0 : v0.cells.toList = [v0] := by rw [hv0]; rfl
  rw [hcells0] at hf0
  obtain ⟨ws0, ao0, c0, rfl, hc0, hws0, hrw0⟩ := open_strsX hf0
  clear hA0 hval0 hv0 hcells0 hf0
  simp only [List.append_nil] at hW' hlt
  refine (substRow_walk ws0 hws0 ao0 c0 hc0 W hrw0).mono fun e W' ⟨he, bel⟩ => ?_
  subst he
  exact ⟨_, rfl, _, _, _, [], _, [], hW', trodAll_mk1 (shut_bool Tryz.underlying4 _), (trodAll_cons_mk (bel.trod (by kernel_rfl) (by kernel_rfl) (of_decide_eq_true (by kernel_rfl)) h0k (fun p hp => hlt p (by simp [hp]))) trodAll_mk0), rfl, bel.frame _, fun h => by cases h⟩

theorem over : Rows.substRowRow.holds Tryz.pinned (OpenSpec.ofChange Rows.substRowSpec) :=
  OpenClaim.holds_of_wide 9 Tryz.f9 rfl rfl rfl rfl rfl rfl rfl ⟨rfl, rfl, rfl, rfl, rfl⟩ rfl rfl rfl rfl rfl (by kernel_rfl) Tryz.func9 (by kernel_rfl)
    (of_decide_eq_true (by kernel_rfl)) (by unfold Func.isWrapper; first | (rw [if_pos (by decide +kernel)]; kernel_rfl) | (rw [if_neg (by decide +kernel)]; exact ⟨rfl, rfl⟩))
    (fun os started H enc _ => lifted os started H enc)

theorem proved : Rows.SubstRowSaid := over
#print axioms proved
end Go.Proofs.YtfaoamdlknlgpaaGreat.substRowDone
