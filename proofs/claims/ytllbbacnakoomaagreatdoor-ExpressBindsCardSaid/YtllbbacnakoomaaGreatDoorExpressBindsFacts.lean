
/- ExpressBinds: the row's closed facts, each by itself. -/
import Derived.Test.YtllbbacnakoomaaGreatDoorRows
import Derived.Test.YtllbbacnakoomaaGreatDoorCards
import Derived.JoinedOf
import Derived.ProofKit
import Derived.SevenTiedAt
import Derived.Test.YtllbbacnakoomaaGreatDoorPFacts
namespace Go.Proofs.YtllbbacnakoomaaGreatDoor.expressBindsDone
set_option linter.unusedVariables false
set_option maxRecDepth 100000

theorem j1 : (Rows.expressBindsRow.wf (OpenSpec.ofChange Rows.expressBindsSpec)) = true := by kernel_rfl
theorem j2 : (laidOutB Tryz.prog) = true := pfLaid
theorem j3 : (mapsRowed Tryz.prog) = true := pfMaps
theorem j4 : (Tryz.f3.params.all (Tryz.prog.readableRec ·)) = true := by kernel_rfl
theorem j5 : (namedTie Tryz.prog Rows.expressBindsRow.named Rows.expressBindsSpec.vars) = true := by kernel_rfl
theorem j6 : (Rows.expressBindsRow.stops == []) = true := by kernel_rfl
theorem j7 : (Tryz.prog.stops == []) = true := pfStops
theorem j8 : (Rows.expressBindsRow.knobs == []) = true := by kernel_rfl
theorem j9 : (Tryz.prog.stopKnobs == []) = true := pfKnobs
theorem j10 : (Rows.expressBindsRow.inPlace == Tryz.prog.inPlace 3) = true := by kernel_rfl
theorem j11 : (Rows.expressBindsRow.unfollowed == Tryz.prog.unfollowed 3) = true := by kernel_rfl
theorem j12 : (Rows.expressBindsRow.recurses == Tryz.prog.recurses 3) = true := by kernel_rfl
theorem j13 : (Rows.expressBindsRow.named == Tryz.prog.varsNamed 3) = true := by kernel_rfl
theorem j14 : (Rows.expressBindsRow.maps == (Tryz.f3.params.toList ++ Rows.expressBindsSpec.plain.varTypes Tryz.prog).any (Tryz.prog.mapsRec ·)) = true := by kernel_rfl
theorem j15 : (Rows.expressBindsRow.ifaces == (Tryz.f3.params.toList ++ Rows.expressBindsSpec.plain.varTypes Tryz.prog).any (Tryz.prog.ifacesRec ·)) = true := by kernel_rfl
theorem j16 : (Rows.expressBindsRow.mapsOut == Tryz.prog.mapsAmong Tryz.f3.resultTypes.toList) = true := by kernel_rfl
theorem j17 : (Rows.expressBindsRow.loops == (Tryz.f3.params.toList ++ Rows.expressBindsSpec.plain.varTypes Tryz.prog).any (Tryz.prog.loopsFrom ·)) = true := by kernel_rfl
theorem j18 : (Rows.expressBindsRow.wideKeys == (Tryz.f3.params.toList ++ Rows.expressBindsSpec.plain.varTypes Tryz.prog ++ Tryz.f3.resultTypes.toList).any (Tryz.prog.wideKeysFrom ·)) = true := by kernel_rfl
theorem j19 : (Rows.expressBindsSpec.vars.all (Tryz.prog.varReadable ·)) = true := by kernel_rfl
theorem j20 : (Tryz.f3.resultTypes.all (fun t => Tryz.prog.readableRec t && decide (t < Tryz.prog.types.size))) = true := by kernel_rfl
theorem j21 : (Rows.expressBindsRow.ifacesOut == Tryz.f3.resultTypes.toList.any (Tryz.prog.ifacesRec ·)) = true := by kernel_rfl
theorem j22 : (Rows.expressBindsRow.loopsOut == Tryz.f3.resultTypes.toList.any (Tryz.prog.loopsFrom ·)) = true := by kernel_rfl
theorem j23 : (Rows.expressBindsRow.plainKeys == Tryz.prog.plainKeys) = true := pfKeys
theorem j24 : (Rows.expressBindsRow.shortTexts.isNone) = true := by kernel_rfl
theorem j25 : (Tryz.prog.stopsHeard) = true := pfHeard
theorem j26 : (Tryz.prog.mayEnter) = true := pfEnter
theorem j27 : (Rows.expressBindsRow.lifted == Tryz.prog.liftsFinal) = true := pfLifts
theorem j28 : (Tryz.prog.make == some Rows.expressBindsRow.make) = true := pfMake
theorem j29 : (Rows.expressBindsRow.kinds == (if Rows.expressBindsRow.domain.isEmpty then [] else Tryz.f3.params.toList.map fun t => match Tryz.prog.underlying t with | some (.int k) => some k | _ => none)) = true := by kernel_rfl
theorem j30 : (Rows.expressBindsRow.pinned == Rows.expressBindsRow.pinnedBy) = true := by kernel_rfl
theorem j31 : (Rows.expressBindsRow.veiled == (Tryz.f3.params.toList ++ Rows.expressBindsSpec.plain.varTypes Tryz.prog ++ Tryz.f3.resultTypes.toList).any (Tryz.prog.veiledRec ·)) = true := by kernel_rfl
theorem j32 : (Rows.expressBindsRow.veiledFits Tryz.prog Tryz.f3.params.toList (Tryz.f3.params.toList ++ Rows.expressBindsSpec.plain.varTypes Tryz.prog ++ Tryz.f3.resultTypes.toList)) = true := by kernel_rfl
theorem joined : joinedFacts Tryz.prog 3 Tryz.f3 Rows.expressBindsSpec Rows.expressBindsRow = true := by
  simp only [joinedFacts, Bool.and_eq_true]
  exact ⟨⟨⟨⟨⟨⟨⟨⟨⟨⟨⟨⟨⟨⟨⟨⟨⟨⟨⟨⟨⟨⟨⟨⟨⟨⟨⟨⟨⟨⟨⟨j1, j2⟩, j3⟩, j4⟩, j5⟩, j6⟩, j7⟩, j8⟩, j9⟩, j10⟩, j11⟩, j12⟩, j13⟩, j14⟩, j15⟩, j16⟩, j17⟩, j18⟩, j19⟩, j20⟩, j21⟩, j22⟩, j23⟩, j24⟩, j25⟩, j26⟩, j27⟩, j28⟩, j29⟩, j30⟩, j31⟩, j32⟩
theorem fnamed : Tryz.prog.funcNamed Rows.expressBindsRow.func = some 3 := by kernel_rfl
theorem wrap : Tryz.f3.isWrapper Tryz.prog Rows.expressBindsRow.wrapper Rows.expressBindsRow.mainSum := by unfold Func.isWrapper; first | (rw [if_pos (by decide +kernel)]; kernel_rfl) | (rw [if_neg (by decide +kernel)]; exact ⟨rfl, rfl⟩)
theorem inst : Tryz.f3.isInstance Tryz.prog Rows.expressBindsRow.origin Rows.expressBindsRow.targs := of_decide_eq_true (by kernel_rfl)
theorem lookd : false = Tryz.prog.looks [] := pfLooks
theorem goes : false = Rows.expressBindsRow.goesBy Tryz.prog := by kernel_rfl
theorem mains : Tryz.prog.mainIs = some (Rows.expressBindsCard.stood.harness.1, Rows.expressBindsCard.stood.harness.2.toList) := pfMain
theorem wfText : Rows.expressBindsRow.wfByText (OpenSpec.ofChange Rows.expressBindsSpec) = true := by kernel_rfl
end Go.Proofs.YtllbbacnakoomaaGreatDoor.expressBindsDone
