
/- DeclareOdd: the row's closed facts, each by itself. -/
import Derived.Test.YtllbbacnakoomaaGreatDoorRows
import Derived.Test.YtllbbacnakoomaaGreatDoorCards
import Derived.JoinedOf
import Derived.ProofKit
import Derived.SevenTiedAt
import Derived.Test.YtllbbacnakoomaaGreatDoorPFacts
namespace Go.Proofs.YtllbbacnakoomaaGreatDoor.declareOddDone
set_option linter.unusedVariables false
set_option maxRecDepth 100000

theorem j1 : (Rows.declareOddRow.wf (OpenSpec.ofChange Rows.declareOddSpec)) = true := by kernel_rfl
theorem j2 : (laidOutB Tryz.prog) = true := pfLaid
theorem j3 : (mapsRowed Tryz.prog) = true := pfMaps
theorem j4 : (Tryz.f13.params.all (Tryz.prog.readableRec ·)) = true := by kernel_rfl
theorem j5 : (namedTie Tryz.prog Rows.declareOddRow.named Rows.declareOddSpec.vars) = true := by kernel_rfl
theorem j6 : (Rows.declareOddRow.stops == []) = true := by kernel_rfl
theorem j7 : (Tryz.prog.stops == []) = true := pfStops
theorem j8 : (Rows.declareOddRow.knobs == []) = true := by kernel_rfl
theorem j9 : (Tryz.prog.stopKnobs == []) = true := pfKnobs
theorem j10 : (Rows.declareOddRow.inPlace == Tryz.prog.inPlace 13) = true := by kernel_rfl
theorem j11 : (Rows.declareOddRow.unfollowed == Tryz.prog.unfollowed 13) = true := by kernel_rfl
theorem j12 : (Rows.declareOddRow.recurses == Tryz.prog.recurses 13) = true := by kernel_rfl
theorem j13 : (Rows.declareOddRow.named == Tryz.prog.varsNamed 13) = true := by kernel_rfl
theorem j14 : (Rows.declareOddRow.maps == (Tryz.f13.params.toList ++ Rows.declareOddSpec.plain.varTypes Tryz.prog).any (Tryz.prog.mapsRec ·)) = true := by kernel_rfl
theorem j15 : (Rows.declareOddRow.ifaces == (Tryz.f13.params.toList ++ Rows.declareOddSpec.plain.varTypes Tryz.prog).any (Tryz.prog.ifacesRec ·)) = true := by kernel_rfl
theorem j16 : (Rows.declareOddRow.mapsOut == Tryz.prog.mapsAmong Tryz.f13.resultTypes.toList) = true := by kernel_rfl
theorem j17 : (Rows.declareOddRow.loops == (Tryz.f13.params.toList ++ Rows.declareOddSpec.plain.varTypes Tryz.prog).any (Tryz.prog.loopsFrom ·)) = true := by kernel_rfl
theorem j18 : (Rows.declareOddRow.wideKeys == (Tryz.f13.params.toList ++ Rows.declareOddSpec.plain.varTypes Tryz.prog ++ Tryz.f13.resultTypes.toList).any (Tryz.prog.wideKeysFrom ·)) = true := by kernel_rfl
theorem j19 : (Rows.declareOddSpec.vars.all (Tryz.prog.varReadable ·)) = true := by kernel_rfl
theorem j20 : (Tryz.f13.resultTypes.all (fun t => Tryz.prog.readableRec t && decide (t < Tryz.prog.types.size))) = true := by kernel_rfl
theorem j21 : (Rows.declareOddRow.ifacesOut == Tryz.f13.resultTypes.toList.any (Tryz.prog.ifacesRec ·)) = true := by kernel_rfl
theorem j22 : (Rows.declareOddRow.loopsOut == Tryz.f13.resultTypes.toList.any (Tryz.prog.loopsFrom ·)) = true := by kernel_rfl
theorem j23 : (Rows.declareOddRow.plainKeys == Tryz.prog.plainKeys) = true := pfKeys
theorem j24 : (Rows.declareOddRow.shortTexts.isNone) = true := by kernel_rfl
theorem j25 : (Tryz.prog.stopsHeard) = true := pfHeard
theorem j26 : (Tryz.prog.mayEnter) = true := pfEnter
theorem j27 : (Rows.declareOddRow.lifted == Tryz.prog.liftsFinal) = true := pfLifts
theorem j28 : (Tryz.prog.make == some Rows.declareOddRow.make) = true := pfMake
theorem j29 : (Rows.declareOddRow.kinds == (if Rows.declareOddRow.domain.isEmpty then [] else Tryz.f13.params.toList.map fun t => match Tryz.prog.underlying t with | some (.int k) => some k | _ => none)) = true := by kernel_rfl
theorem j30 : (Rows.declareOddRow.pinned == Rows.declareOddRow.pinnedBy) = true := by kernel_rfl
theorem j31 : (Rows.declareOddRow.veiled == (Tryz.f13.params.toList ++ Rows.declareOddSpec.plain.varTypes Tryz.prog ++ Tryz.f13.resultTypes.toList).any (Tryz.prog.veiledRec ·)) = true := by kernel_rfl
theorem j32 : (Rows.declareOddRow.veiledFits Tryz.prog Tryz.f13.params.toList (Tryz.f13.params.toList ++ Rows.declareOddSpec.plain.varTypes Tryz.prog ++ Tryz.f13.resultTypes.toList)) = true := by kernel_rfl
theorem joined : joinedFacts Tryz.prog 13 Tryz.f13 Rows.declareOddSpec Rows.declareOddRow = true := by
  simp only [joinedFacts, Bool.and_eq_true]
  exact ⟨⟨⟨⟨⟨⟨⟨⟨⟨⟨⟨⟨⟨⟨⟨⟨⟨⟨⟨⟨⟨⟨⟨⟨⟨⟨⟨⟨⟨⟨⟨j1, j2⟩, j3⟩, j4⟩, j5⟩, j6⟩, j7⟩, j8⟩, j9⟩, j10⟩, j11⟩, j12⟩, j13⟩, j14⟩, j15⟩, j16⟩, j17⟩, j18⟩, j19⟩, j20⟩, j21⟩, j22⟩, j23⟩, j24⟩, j25⟩, j26⟩, j27⟩, j28⟩, j29⟩, j30⟩, j31⟩, j32⟩
theorem fnamed : Tryz.prog.funcNamed Rows.declareOddRow.func = some 13 := by kernel_rfl
theorem wrap : Tryz.f13.isWrapper Tryz.prog Rows.declareOddRow.wrapper Rows.declareOddRow.mainSum := by unfold Func.isWrapper; first | (rw [if_pos (by decide +kernel)]; kernel_rfl) | (rw [if_neg (by decide +kernel)]; exact ⟨rfl, rfl⟩)
theorem inst : Tryz.f13.isInstance Tryz.prog Rows.declareOddRow.origin Rows.declareOddRow.targs := of_decide_eq_true (by kernel_rfl)
theorem lookd : false = Tryz.prog.looks [] := pfLooks
theorem goes : false = Rows.declareOddRow.goesBy Tryz.prog := by kernel_rfl
theorem mains : Tryz.prog.mainIs = some (Rows.declareOddCard.stood.harness.1, Rows.declareOddCard.stood.harness.2.toList) := pfMain
theorem wfText : Rows.declareOddRow.wfByText (OpenSpec.ofChange Rows.declareOddSpec) = true := by kernel_rfl
end Go.Proofs.YtllbbacnakoomaaGreatDoor.declareOddDone
