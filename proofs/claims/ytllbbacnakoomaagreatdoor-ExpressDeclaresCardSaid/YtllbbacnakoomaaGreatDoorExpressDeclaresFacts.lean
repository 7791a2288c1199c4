
/- ExpressDeclares: the row's closed facts, each by itself. -/
import Derived.Test.YtllbbacnakoomaaGreatDoorRows
import Derived.Test.YtllbbacnakoomaaGreatDoorCards
import Derived.JoinedOf
import Derived.ProofKit
import Derived.SevenTiedAt
import Derived.Test.YtllbbacnakoomaaGreatDoorPFacts
namespace Go.Proofs.YtllbbacnakoomaaGreatDoor.expressDeclaresDone
set_option linter.unusedVariables false
set_option maxRecDepth 100000

theorem j1 : (Rows.expressDeclaresRow.wf (OpenSpec.ofChange Rows.expressDeclaresSpec)) = true := by kernel_rfl
theorem j2 : (laidOutB Tryz.prog) = true := pfLaid
theorem j3 : (mapsRowed Tryz.prog) = true := pfMaps
theorem j4 : (Tryz.f8.params.all (Tryz.prog.readableRec ·)) = true := by kernel_rfl
theorem j5 : (namedTie Tryz.prog Rows.expressDeclaresRow.named Rows.expressDeclaresSpec.vars) = true := by kernel_rfl
theorem j6 : (Rows.expressDeclaresRow.stops == []) = true := by kernel_rfl
theorem j7 : (Tryz.prog.stops == []) = true := pfStops
theorem j8 : (Rows.expressDeclaresRow.knobs == []) = true := by kernel_rfl
theorem j9 : (Tryz.prog.stopKnobs == []) = true := pfKnobs
theorem j10 : (Rows.expressDeclaresRow.inPlace == Tryz.prog.inPlace 8) = true := by kernel_rfl
theorem j11 : (Rows.expressDeclaresRow.unfollowed == Tryz.prog.unfollowed 8) = true := by kernel_rfl
theorem j12 : (Rows.expressDeclaresRow.recurses == Tryz.prog.recurses 8) = true := by kernel_rfl
theorem j13 : (Rows.expressDeclaresRow.named == Tryz.prog.varsNamed 8) = true := by kernel_rfl
theorem j14 : (Rows.expressDeclaresRow.maps == (Tryz.f8.params.toList ++ Rows.expressDeclaresSpec.plain.varTypes Tryz.prog).any (Tryz.prog.mapsRec ·)) = true := by kernel_rfl
theorem j15 : (Rows.expressDeclaresRow.ifaces == (Tryz.f8.params.toList ++ Rows.expressDeclaresSpec.plain.varTypes Tryz.prog).any (Tryz.prog.ifacesRec ·)) = true := by kernel_rfl
theorem j16 : (Rows.expressDeclaresRow.mapsOut == Tryz.prog.mapsAmong Tryz.f8.resultTypes.toList) = true := by kernel_rfl
theorem j17 : (Rows.expressDeclaresRow.loops == (Tryz.f8.params.toList ++ Rows.expressDeclaresSpec.plain.varTypes Tryz.prog).any (Tryz.prog.loopsFrom ·)) = true := by kernel_rfl
theorem j18 : (Rows.expressDeclaresRow.wideKeys == (Tryz.f8.params.toList ++ Rows.expressDeclaresSpec.plain.varTypes Tryz.prog ++ Tryz.f8.resultTypes.toList).any (Tryz.prog.wideKeysFrom ·)) = true := by kernel_rfl
theorem j19 : (Rows.expressDeclaresSpec.vars.all (Tryz.prog.varReadable ·)) = true := by kernel_rfl
theorem j20 : (Tryz.f8.resultTypes.all (fun t => Tryz.prog.readableRec t && decide (t < Tryz.prog.types.size))) = true := by kernel_rfl
theorem j21 : (Rows.expressDeclaresRow.ifacesOut == Tryz.f8.resultTypes.toList.any (Tryz.prog.ifacesRec ·)) = true := by kernel_rfl
theorem j22 : (Rows.expressDeclaresRow.loopsOut == Tryz.f8.resultTypes.toList.any (Tryz.prog.loopsFrom ·)) = true := by kernel_rfl
theorem j23 : (Rows.expressDeclaresRow.plainKeys == Tryz.prog.plainKeys) = true := pfKeys
theorem j24 : (Rows.expressDeclaresRow.shortTexts.isNone) = true := by kernel_rfl
theorem j25 : (Tryz.prog.stopsHeard) = true := pfHeard
theorem j26 : (Tryz.prog.mayEnter) = true := pfEnter
theorem j27 : (Rows.expressDeclaresRow.lifted == Tryz.prog.liftsFinal) = true := pfLifts
theorem j28 : (Tryz.prog.make == some Rows.expressDeclaresRow.make) = true := pfMake
theorem j29 : (Rows.expressDeclaresRow.kinds == (if Rows.expressDeclaresRow.domain.isEmpty then [] else Tryz.f8.params.toList.map fun t => match Tryz.prog.underlying t with | some (.int k) => some k | _ => none)) = true := by kernel_rfl
theorem j30 : (Rows.expressDeclaresRow.pinned == Rows.expressDeclaresRow.pinnedBy) = true := by kernel_rfl
theorem j31 : (Rows.expressDeclaresRow.veiled == (Tryz.f8.params.toList ++ Rows.expressDeclaresSpec.plain.varTypes Tryz.prog ++ Tryz.f8.resultTypes.toList).any (Tryz.prog.veiledRec ·)) = true := by kernel_rfl
theorem j32 : (Rows.expressDeclaresRow.veiledFits Tryz.prog Tryz.f8.params.toList (Tryz.f8.params.toList ++ Rows.expressDeclaresSpec.plain.varTypes Tryz.prog ++ Tryz.f8.resultTypes.toList)) = true := by kernel_rfl
theorem joined : joinedFacts Tryz.prog 8 Tryz.f8 Rows.expressDeclaresSpec Rows.expressDeclaresRow = true := by
  simp only [joinedFacts, Bool.and_eq_true]
  exact ⟨⟨⟨⟨⟨⟨⟨⟨⟨⟨⟨⟨⟨⟨⟨⟨⟨⟨⟨⟨⟨⟨⟨⟨⟨⟨⟨⟨⟨⟨⟨j1, j2⟩, j3⟩, j4⟩, j5⟩, j6⟩, j7⟩, j8⟩, j9⟩, j10⟩, j11⟩, j12⟩, j13⟩, j14⟩, j15⟩, j16⟩, j17⟩, j18⟩, j19⟩, j20⟩, j21⟩, j22⟩, j23⟩, j24⟩, j25⟩, j26⟩, j27⟩, j28⟩, j29⟩, j30⟩, j31⟩, j32⟩
theorem fnamed : Tryz.prog.funcNamed Rows.expressDeclaresRow.func = some 8 := by kernel_rfl
theorem wrap : Tryz.f8.isWrapper Tryz.prog Rows.expressDeclaresRow.wrapper Rows.expressDeclaresRow.mainSum := by unfold Func.isWrapper; first | (rw [if_pos (by decide +kernel)]; kernel_rfl) | (rw [if_neg (by decide +kernel)]; exact ⟨rfl, rfl⟩)
theorem inst : Tryz.f8.isInstance Tryz.prog Rows.expressDeclaresRow.origin Rows.expressDeclaresRow.targs := of_decide_eq_true (by kernel_rfl)
theorem lookd : false = Tryz.prog.looks [] := pfLooks
theorem goes : false = Rows.expressDeclaresRow.goesBy Tryz.prog := by kernel_rfl
theorem mains : Tryz.prog.mainIs = some (Rows.expressDeclaresCard.stood.harness.1, Rows.expressDeclaresCard.stood.harness.2.toList) := pfMain
theorem wfText : Rows.expressDeclaresRow.wfByText (OpenSpec.ofChange Rows.expressDeclaresSpec) = true := by kernel_rfl
end Go.Proofs.YtllbbacnakoomaaGreatDoor.expressDeclaresDone
