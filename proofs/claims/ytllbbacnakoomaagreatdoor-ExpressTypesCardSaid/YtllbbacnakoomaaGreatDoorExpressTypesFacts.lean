
/- ExpressTypes: the row's closed facts, each by itself. -/
import Derived.Test.YtllbbacnakoomaaGreatDoorRows
import Derived.Test.YtllbbacnakoomaaGreatDoorCards
import Derived.JoinedOf
import Derived.ProofKit
import Derived.SevenTiedAt
import Derived.Test.YtllbbacnakoomaaGreatDoorPFacts
namespace Go.Proofs.YtllbbacnakoomaaGreatDoor.expressTypesDone
set_option linter.unusedVariables false
set_option maxRecDepth 100000

theorem j1 : (Rows.expressTypesRow.wf (OpenSpec.ofChange Rows.expressTypesSpec)) = true := by kernel_rfl
theorem j2 : (laidOutB Tryz.prog) = true := pfLaid
theorem j3 : (mapsRowed Tryz.prog) = true := pfMaps
theorem j4 : (Tryz.f5.params.all (Tryz.prog.readableRec ·)) = true := by kernel_rfl
theorem j5 : (namedTie Tryz.prog Rows.expressTypesRow.named Rows.expressTypesSpec.vars) = true := by kernel_rfl
theorem j6 : (Rows.expressTypesRow.stops == []) = true := by kernel_rfl
theorem j7 : (Tryz.prog.stops == []) = true := pfStops
theorem j8 : (Rows.expressTypesRow.knobs == []) = true := by kernel_rfl
theorem j9 : (Tryz.prog.stopKnobs == []) = true := pfKnobs
theorem j10 : (Rows.expressTypesRow.inPlace == Tryz.prog.inPlace 5) = true := by kernel_rfl
theorem j11 : (Rows.expressTypesRow.unfollowed == Tryz.prog.unfollowed 5) = true := by kernel_rfl
theorem j12 : (Rows.expressTypesRow.recurses == Tryz.prog.recurses 5) = true := by kernel_rfl
theorem j13 : (Rows.expressTypesRow.named == Tryz.prog.varsNamed 5) = true := by kernel_rfl
theorem j14 : (Rows.expressTypesRow.maps == (Tryz.f5.params.toList ++ Rows.expressTypesSpec.plain.varTypes Tryz.prog).any (Tryz.prog.mapsRec ·)) = true := by kernel_rfl
theorem j15 : (Rows.expressTypesRow.ifaces == (Tryz.f5.params.toList ++ Rows.expressTypesSpec.plain.varTypes Tryz.prog).any (Tryz.prog.ifacesRec ·)) = true := by kernel_rfl
theorem j16 : (Rows.expressTypesRow.mapsOut == Tryz.prog.mapsAmong Tryz.f5.resultTypes.toList) = true := by kernel_rfl
theorem j17 : (Rows.expressTypesRow.loops == (Tryz.f5.params.toList ++ Rows.expressTypesSpec.plain.varTypes Tryz.prog).any (Tryz.prog.loopsFrom ·)) = true := by kernel_rfl
theorem j18 : (Rows.expressTypesRow.wideKeys == (Tryz.f5.params.toList ++ Rows.expressTypesSpec.plain.varTypes Tryz.prog ++ Tryz.f5.resultTypes.toList).any (Tryz.prog.wideKeysFrom ·)) = true := by kernel_rfl
theorem j19 : (Rows.expressTypesSpec.vars.all (Tryz.prog.varReadable ·)) = true := by kernel_rfl
theorem j20 : (Tryz.f5.resultTypes.all (fun t => Tryz.prog.readableRec t && decide (t < Tryz.prog.types.size))) = true := by kernel_rfl
theorem j21 : (Rows.expressTypesRow.ifacesOut == Tryz.f5.resultTypes.toList.any (Tryz.prog.ifacesRec ·)) = true := by kernel_rfl
theorem j22 : (Rows.expressTypesRow.loopsOut == Tryz.f5.resultTypes.toList.any (Tryz.prog.loopsFrom ·)) = true := by kernel_rfl
theorem j23 : (Rows.expressTypesRow.plainKeys == Tryz.prog.plainKeys) = true := pfKeys
theorem j24 : (Rows.expressTypesRow.shortTexts.isNone) = true := by kernel_rfl
theorem j25 : (Tryz.prog.stopsHeard) = true := pfHeard
theorem j26 : (Tryz.prog.mayEnter) = true := pfEnter
theorem j27 : (Rows.expressTypesRow.lifted == Tryz.prog.liftsFinal) = true := pfLifts
theorem j28 : (Tryz.prog.make == some Rows.expressTypesRow.make) = true := pfMake
theorem j29 : (Rows.expressTypesRow.kinds == (if Rows.expressTypesRow.domain.isEmpty then [] else Tryz.f5.params.toList.map fun t => match Tryz.prog.underlying t with | some (.int k) => some k | _ => none)) = true := by kernel_rfl
theorem j30 : (Rows.expressTypesRow.pinned == Rows.expressTypesRow.pinnedBy) = true := by kernel_rfl
theorem j31 : (Rows.expressTypesRow.veiled == (Tryz.f5.params.toList ++ Rows.expressTypesSpec.plain.varTypes Tryz.prog ++ Tryz.f5.resultTypes.toList).any (Tryz.prog.veiledRec ·)) = true := by kernel_rfl
theorem j32 : (Rows.expressTypesRow.veiledFits Tryz.prog Tryz.f5.params.toList (Tryz.f5.params.toList ++ Rows.expressTypesSpec.plain.varTypes Tryz.prog ++ Tryz.f5.resultTypes.toList)) = true := by kernel_rfl
theorem joined : joinedFacts Tryz.prog 5 Tryz.f5 Rows.expressTypesSpec Rows.expressTypesRow = true := by
  simp only [joinedFacts, Bool.and_eq_true]
  exact ⟨⟨⟨⟨⟨⟨⟨⟨⟨⟨⟨⟨⟨⟨⟨⟨⟨⟨⟨⟨⟨⟨⟨⟨⟨⟨⟨⟨⟨⟨⟨j1, j2⟩, j3⟩, j4⟩, j5⟩, j6⟩, j7⟩, j8⟩, j9⟩, j10⟩, j11⟩, j12⟩, j13⟩, j14⟩, j15⟩, j16⟩, j17⟩, j18⟩, j19⟩, j20⟩, j21⟩, j22⟩, j23⟩, j24⟩, j25⟩, j26⟩, j27⟩, j28⟩, j29⟩, j30⟩, j31⟩, j32⟩
theorem fnamed : Tryz.prog.funcNamed Rows.expressTypesRow.func = some 5 := by kernel_rfl
theorem wrap : Tryz.f5.isWrapper Tryz.prog Rows.expressTypesRow.wrapper Rows.expressTypesRow.mainSum := by unfold Func.isWrapper; first | (rw [if_pos (by decide +kernel)]; kernel_rfl) | (rw [if_neg (by decide +kernel)]; exact ⟨rfl, rfl⟩)
theorem inst : Tryz.f5.isInstance Tryz.prog Rows.expressTypesRow.origin Rows.expressTypesRow.targs := of_decide_eq_true (by kernel_rfl)
theorem lookd : false = Tryz.prog.looks [] := pfLooks
theorem goes : false = Rows.expressTypesRow.goesBy Tryz.prog := by kernel_rfl
theorem mains : Tryz.prog.mainIs = some (Rows.expressTypesCard.stood.harness.1, Rows.expressTypesCard.stood.harness.2.toList) := pfMain
theorem wfText : Rows.expressTypesRow.wfByText (OpenSpec.ofChange Rows.expressTypesSpec) = true := by kernel_rfl
end Go.Proofs.YtllbbacnakoomaaGreatDoor.expressTypesDone
