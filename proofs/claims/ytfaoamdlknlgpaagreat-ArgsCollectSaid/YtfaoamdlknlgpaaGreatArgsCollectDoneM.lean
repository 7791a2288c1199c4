
/- ArgsCollect: for every input the law returns true. No condition. The walk and the plain law stand in the texts that this one imports; here is the row's step. -/
import Derived.Test.YtfaoamdlknlgpaaGreatRows
import Derived.Test.YtfaoamdlknlgpaaGreatArgsCollectDoneG46
import Derived.ProofKit
import Derived.OpenShut
import Derived.ShutString
import Derived.ChangeOld
import Derived.Carry
import Derived.Test.YtfaoamdlknlgpaaGreatArgsCollectDoneG47
import Derived.Test.YtfaoamdlknlgpaaGreatArgsCollectDoneG49
namespace Go.Proofs.YtfaoamdlknlgpaaGreat.argsCollectDone
open Go.ChangeShapes Go.WideShapes Go.ChangeAt Go.RowKit
open Go.ChangeMaps (open_string shut_string)
set_option linter.unusedVariables false

theorem own : ownKnob Tryz.prog.godebug = none := by kernel_rfl

set_option maxRecDepth 100000 in
theorem lifted (os : Os) (started : os.Started) (H : Type) (enc : TypeId × Value → H) :
    ReturnsInHanded {} Tryz.checked os 6 .any (Rows.argsCollectSpec.pre6 enc Tryz.prog Tryz.f6 Rows.argsCollectRow.domain false) (Rows.argsCollectSpec.post enc Tryz.prog Tryz.f6 false true false false) := by
  refine returnsInHanded_of_change (C := Tryz.checked) own started (by kernel_rfl) Tryz.func6
    (ChangeSpec.witness6 (enc := enc) (C := Tryz.checked) false ⟨#[], #[.slice none 0 0, .agg #[.string ByteArray.empty, .bool false, .bool false, .slice none 0 0, .slice none 0 0, .string ByteArray.empty, .int .i64 0, .int .i64 0]], []⟩ 8 (by kernel_rfl) (by kernel_rfl) (by kernel_rfl) (by kernel_rfl)) ?_
  intro W base args ds gs before hval0 hW hcnd _
  have hval : ∀ (j : Nat) t v, Tryz.f6.params[j]? = some t → args[j]? = some v → Value.okWide Tryz.prog W .any base t v := hval0
  have hW' := hW
  have hlt := fun p hp => hW.lt p hp
  obtain ⟨p, q, hA0, hV, rfl, hfz, hnd⟩ := hW
  have hA : DataW.TrodAll enc Tryz.prog W 0 (fun _ => true) true Tryz.f6.params.toList args.toList ds p := hA0
  rw [Tryz.params6] at hA hval
  obtain ⟨v0, vs0, d0, ds0, p0, q0, hargs, rfl, rfl, h0, r0⟩ := trodAll_cons hA
  obtain ⟨v1, vs1, d1, ds1, p1, q1, rfl, rfl, rfl, h1, r1⟩ := trodAll_cons r0
  obtain ⟨rfl, rfl, rfl⟩ := trodAll_nil r1
  obtain rfl : args = #[v0, v1] := by cases args; simp_all
  obtain ⟨rfl, rfl⟩ := trodVars_none hV
  obtain ⟨b0, len0, cap0, hv0⟩ := okWide_slice Tryz.underlying22 (hval 0 22 v0 rfl rfl)
  have h0k := h0
  obtain ⟨fuel0, hf0⟩ := h0
  have hcells0 : v0.cells.toList = [v0] := by rw [hv0]; rfl
  rw [hcells0] at hf0
  obtain ⟨T0, ao0, c0, rfl, hc0, hrw0, hsi0⟩ := open_toks hf0
  obtain ⟨cs1, hv1, _⟩ := okWide_struct Tryz.underlying47 (hval 1 47 v1 rfl rfl)
  subst hv1
  have h1k := h1
  obtain ⟨fuel1, hf1⟩ := h1
  have hcells1 : (Value.agg cs1).cells.toList = cs1.toList := rfl
  rw [hcells1] at hf1
  obtain ⟨name, fn, va, ws, pao, pcap, Tb, bao, bcap, file, f, t, hcs, hpc, hpm, hpr⟩ := open_mac hf1
  obtain rfl : cs1 = #[.string name, .bool fn, .bool va, .slice pao ws.length pcap, .slice bao Tb.length bcap, .string file, .int .i64 f, .int .i64 t] := by
    apply Array.ext'
    rw [hcs]
  clear hA0 hval0 hv0 hcells0 hf0 hcells1 hf1 hcs
  simp only [List.append_nil] at hW' hlt
  refine (argsCollect_walk T0 ao0 c0 hc0 name fn va ws pao pcap bao Tb.length bcap file f t hpc hpm W hrw0 hsi0 hpr).mono fun e W' ⟨he, bel⟩ => ?_
  subst he
  exact ⟨_, rfl, _, _, _, [], _, [], hW', trodAll_mk1 (shut_bool Tryz.underlying4 _), (trodAll_cons_mk (bel.trod (by kernel_rfl) (by kernel_rfl) (of_decide_eq_true (by kernel_rfl)) h0k (fun p hp => hlt p (by simp [hp]))) (trodAll_cons_mk (bel.trod (by kernel_rfl) (by kernel_rfl) (of_decide_eq_true (by kernel_rfl)) h1k (fun p hp => hlt p (by simp [hp]))) trodAll_mk0)), rfl, bel.frame _, fun h => by cases h⟩

theorem over : Rows.argsCollectRow.holds Tryz.pinned (OpenSpec.ofChange Rows.argsCollectSpec) :=
  OpenClaim.holds_of_wide 6 Tryz.f6 rfl rfl rfl rfl rfl rfl rfl ⟨rfl, rfl, rfl, rfl, rfl⟩ rfl rfl rfl rfl rfl (by kernel_rfl) Tryz.func6 (by kernel_rfl)
    (of_decide_eq_true (by kernel_rfl)) (by unfold Func.isWrapper; first | (rw [if_pos (by decide +kernel)]; kernel_rfl) | (rw [if_neg (by decide +kernel)]; exact ⟨rfl, rfl⟩))
    (fun os started H enc _ => lifted os started H enc)

theorem proved : Rows.ArgsCollectSaid := over
#print axioms proved
end Go.Proofs.YtfaoamdlknlgpaaGreat.argsCollectDone
