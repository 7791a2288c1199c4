
/- DeclareOdd: for every input the law returns true. No condition. The walk and the plain law stand in the texts that this one imports; here is the row's step. -/
import Derived.Test.YtllbbacnakoomaaGreatDoorCards
import Derived.Test.YtllbbacnakoomaaGreatDoorTie
import Derived.Test.YtllbbacnakoomaaGreatDoorL2
import Derived.Test.YtllbbacnakoomaaGreatDoorDeclareOddFacts
import Derived.Test.YtllbbacnakoomaaGreatDoorS25
import Derived.ProofKit
import Derived.OpenShut
import Derived.ShutString
import Derived.ChangeOld
import Derived.LaidMore
import Derived.Lay
import Derived.SevenTiedAt
import Derived.Stop.Joined
namespace Go.Proofs.YtllbbacnakoomaaGreatDoor.declareOddDone
open Go.ChangeShapes Go.WideShapes Go.ChangeAt Go.RowKit
open Go.ChangeMaps (open_string shut_string)
set_option linter.unusedVariables false

theorem own : ownKnob Tryz.prog.godebug = none := by kernel_rfl

set_option maxRecDepth 100000 in
theorem lifted (os : Os) (started : os.Started) (H : Type) (enc : TypeId × Value → H) :
    ReturnsInHanded {} Tryz.checked os 13 .any (fun w args => (Rows.declareOddSpec.pre enc Tryz.prog Tryz.f13 Rows.declareOddRow.domain false w args ∧ laidMetH Tryz.prog Rows.declareOddRow.laid w) ∧ sizedMet enc Tryz.prog Tryz.f13 (OpenSpec.ofChange Rows.declareOddSpec) false w args) (Rows.declareOddSpec.post enc Tryz.prog Tryz.f13 false true false false) := by
  refine returnsInHanded_of_change_and (C := Tryz.checked) (X := fun w _ => laidMetH Tryz.prog Rows.declareOddRow.laid w) (fun _ _ _ hh h => h.of_heap hh) own started (by kernel_rfl) Tryz.func13
    (ChangeSpec.witness_shaped (enc := enc) (C := Tryz.checked) (os := os) (X := fun w _ => laidMetH Tryz.prog Rows.declareOddRow.laid w) false (World.laidAll Tryz.prog os Rows.declareOddRow.laid) #[.int .i64 0] 8 (World.laidAll_os _ _ _)
      (World.shaped_of_ZipB (by kernel_rfl) (by kernel_rfl)) (by kernel_rfl) (by kernel_rfl) (by kernel_rfl)
      (by rw [MakeChecks.laidMetH_plain _ _ _ (by kernel_rfl)]; exact laidMet_laidAll _ (by kernel_rfl) (by kernel_rfl))) ?_
  intro W base args ds gs before hval0 hW hcnd y1 y2 y3
  have hsp : SpTab W := by first | exact spTab_of (by kernel_rfl) (by kernel_rfl) y1 | exact spTab_of (by kernel_rfl) (by kernel_rfl) y2 | exact spTab_of (by kernel_rfl) (by kernel_rfl) y3
  have hval : ∀ (j : Nat) t v, Tryz.f13.params[j]? = some t → args[j]? = some v → Value.okWide Tryz.prog W .any base t v := hval0
  have hW' := hW
  obtain ⟨p, q, hA0, hV, rfl, hfz, hnd⟩ := hW
  have hA : DataW.TrodAll enc Tryz.prog W 0 (fun _ => true) true Tryz.f13.params.toList args.toList ds p := hA0
  rw [Tryz.params13] at hA hval
  obtain ⟨v0, vs0, d0, ds0, p0, q0, hargs, rfl, rfl, h0, r0⟩ := trodAll_cons hA
  obtain ⟨rfl, rfl, rfl⟩ := trodAll_nil r0
  obtain rfl : args = #[v0] := by cases args; simp_all
  obtain ⟨rfl, rfl⟩ := trodVars_none hV
  obtain ⟨a0, rfl, rfl, rfl, w0⟩ := open_int Tryz.underlying3 (hval 0 3 v0 rfl rfl) h0
  clear hA0 hval0
  simp only [List.append_nil] at hW'
  refine (declareOdd_walk a0 w0 W hsp).mono fun e W' ⟨he, bel⟩ => ?_
  subst he
  exact ⟨_, rfl, _, _, _, [], _, [], hW', trodAll_mk1 (shut_bool Tryz.underlying4 _), (trodAll_cons_mk (shut_int Tryz.underlying3 w0) trodAll_mk0), rfl, bel.frame _, fun h => by cases h⟩

theorem over : Rows.declareOddRow.holds Tryz.pinned (OpenSpec.ofChange Rows.declareOddSpec) :=
  OpenClaim.holds_of_wide 13 Tryz.f13 rfl rfl rfl rfl rfl rfl rfl ⟨rfl, rfl, rfl, rfl, rfl⟩ rfl rfl rfl rfl rfl fnamed Tryz.func13 joined inst wrap
    (fun os started H enc _ => lifted os started H enc)

theorem stand : ∀ f fn, Tryz.prog.funcNamed Rows.declareOddRow.func = some f → Tryz.prog.funcs[f]? = some fn → false = Tryz.prog.looks [] ∧ ∀ (j : Nat) t, fn.params[j]? = some t → Tryz.prog.wantsStandIn t = false := fun f fn hf hfn => by
  obtain rfl : f = 13 := Option.some.inj (fnamed.symm.trans hf) |>.symm
  obtain rfl : fn = Tryz.f13 := (Option.some.inj (Tryz.func13.symm.trans hfn)).symm
  exact ⟨lookd, fun j t ht => by
    rw [Tryz.params13] at ht
    have hm : t ∈ [3] := by simpa using Array.mem_of_getElem? ht
    have hall : ([3].all fun u => !Tryz.prog.wantsStandIn u) = true := by kernel_rfl
    exact (show Tryz.prog.wantsStandIn t = false by simpa using List.all_eq_true.1 hall t hm)⟩
theorem proved : Rows.DeclareOddCardSaid :=
  Claim7.holds_tied_plain_at .later [] Rows.declareOddCard.laidKinds true Rows.declareOddCard.stood.harness false over (fun _ h => by cases h) wfText (fun _ h => by cases h) declareOdd_row_tie rfl ⟨rfl, rfl⟩ mains rfl stand goes
#print axioms proved
end Go.Proofs.YtllbbacnakoomaaGreatDoor.declareOddDone
