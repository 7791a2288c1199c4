
/- DeclareForms: the row's closed facts, each by itself. -/
import Derived.Test.YtllbbacnakoomaaGreatDoorRows
import Derived.Test.YtllbbacnakoomaaGreatDoorCards
import Derived.JoinedOf
import Derived.ProofKit
import Derived.SevenTiedAt
import Derived.Test.YtllbbacnakoomaaGreatDoorPFacts
namespace Go.Proofs.YtllbbacnakoomaaGreatDoor.declareFormsDone
set_option linter.unusedVariables false
set_option maxRecDepth 100000

theorem j1 : (Rows.declareFormsRow.wf (OpenSpec.ofChange Rows.declareFormsSpec)) = true := by kernel_rfl
theorem j2 : (laidOutB Tryz.prog) = true := pfLaid
theorem j3 : (mapsRowed Tryz.prog) = true := pfMaps
theorem j4 : (Tryz.f10.params.all (Tryz.prog.readableRec ·)) = true := by kernel_rfl
theorem j5 : (namedTie Tryz.prog Rows.declareFormsRow.named Rows.declareFormsSpec.vars) = true := by kernel_rfl
theorem j6 : (Rows.declareFormsRow.stops == []) = true := by kernel_rfl
theorem j7 : (Tryz.prog.stops == []) = true := pfStops
theorem j8 : (Rows.declareFormsRow.knobs == []) = true := by kernel_rfl
theorem j9 : (Tryz.prog.stopKnobs == []) = true := pfKnobs
theorem j10 : (Rows.declareFormsRow.inPlace == Tryz.prog.inPlace 10) = true := by kernel_rfl
theorem j11 : (Rows.declareFormsRow.unfollowed == Tryz.prog.unfollowed 10) = true := by kernel_rfl
theorem j12 : (Rows.declareFormsRow.recurses == Tryz.prog.recurses 10) = true := by kernel_rfl
theorem j13 : (Rows.declareFormsRow.named == Tryz.prog.varsNamed 10) = true := by kernel_rfl
theorem j14 : (Rows.declareFormsRow.maps == (Tryz.f10.params.toList ++ Rows.declareFormsSpec.plain.varTypes Tryz.prog).any (Tryz.prog.mapsRec ·)) = true := by kernel_rfl
theorem j15 : (Rows.declareFormsRow.ifaces == (Tryz.f10.params.toList ++ Rows.declareFormsSpec.plain.varTypes Tryz.prog).any (Tryz.prog.ifacesRec ·)) = true := by kernel_rfl
theorem j16 : (Rows.declareFormsRow.mapsOut == Tryz.prog.mapsAmong Tryz.f10.resultTypes.toList) = true := by kernel_rfl
theorem j17 : (Rows.declareFormsRow.loops == (Tryz.f10.params.toList ++ Rows.declareFormsSpec.plain.varTypes Tryz.prog).any (Tryz.prog.loopsFrom ·)) = true := by kernel_rfl
theorem j18 : (Rows.declareFormsRow.wideKeys == (Tryz.f10.params.toList ++ Rows.declareFormsSpec.plain.varTypes Tryz.prog ++ Tryz.f10.resultTypes.toList).any (Tryz.prog.wideKeysFrom ·)) = true := by kernel_rfl
theorem j19 : (Rows.declareFormsSpec.vars.all (Tryz.prog.varReadable ·)) = true := by kernel_rfl
theorem j20 : (Tryz.f10.resultTypes.all (fun t => Tryz.prog.readableRec t && decide (t < Tryz.prog.types.size))) = true := by kernel_rfl
theorem j21 : (Rows.declareFormsRow.ifacesOut == Tryz.f10.resultTypes.toList.any (Tryz.prog.ifacesRec ·)) = true := by kernel_rfl
theorem j22 : (Rows.declareFormsRow.loopsOut == Tryz.f10.resultTypes.toList.any (Tryz.prog.loopsFrom ·)) = true := by kernel_rfl
theorem j23 : (Rows.declareFormsRow.plainKeys == Tryz.prog.plainKeys) = true := pfKeys
theorem j24 : (Rows.declareFormsRow.shortTexts.isNone) = true := by kernel_rfl
theorem j25 : (Tryz.prog.stopsHeard) = true := pfHeard
theorem j26 : (Tryz.prog.mayEnter) = true := pfEnter
theorem j27 : (Rows.declareFormsRow.lifted == Tryz.prog.liftsFinal) = true := pfLifts
theorem j28 : (Tryz.prog.make == some Rows.declareFormsRow.make) = true := pfMake
theorem j29 : (Rows.declareFormsRow.kinds == (if Rows.declareFormsRow.domain.isEmpty then [] else Tryz.f10.params.toList.map fun t => match Tryz.prog.underlying t with | some (.int k) => some k | _ => none)) = true := by kernel_rfl
theorem j30 : (Rows.declareFormsRow.pinned == Rows.declareFormsRow.pinnedBy) = true := by kernel_rfl
theorem j31 : (Rows.declareFormsRow.veiled == (Tryz.f10.params.toList ++ Rows.declareFormsSpec.plain.varTypes Tryz.prog ++ Tryz.f10.resultTypes.toList).any (Tryz.prog.veiledRec ·)) = true := by kernel_rfl
theorem j32 : (Rows.declareFormsRow.veiledFits Tryz.prog Tryz.f10.params.toList (Tryz.f10.params.toList ++ Rows.declareFormsSpec.plain.varTypes Tryz.prog ++ Tryz.f10.resultTypes.toList)) = true := by kernel_rfl
theorem joined : joinedFacts Tryz.prog 10 Tryz.f10 Rows.declareFormsSpec Rows.declareFormsRow = true := by
  simp only [joinedFacts, Bool.and_eq_true]
  exact ⟨⟨⟨⟨⟨⟨⟨⟨⟨⟨⟨⟨⟨⟨⟨⟨⟨⟨⟨⟨⟨⟨⟨⟨⟨⟨⟨⟨⟨⟨⟨j1, j2⟩, j3⟩, j4⟩, j5⟩, j6⟩, j7⟩, j8⟩, j9⟩, j10⟩, j11⟩, j12⟩, j13⟩, j14⟩, j15⟩, j16⟩, j17⟩, j18⟩, j19⟩, j20⟩, j21⟩, j22⟩, j23⟩, j24⟩, j25⟩, j26⟩, j27⟩, j28⟩, j29⟩, j30⟩, j31⟩, j32⟩
theorem fnamed : Tryz.prog.funcNamed Rows.declareFormsRow.func = some 10 := by kernel_rfl
theorem wrap : Tryz.f10.isWrapper Tryz.prog Rows.declareFormsRow.wrapper Rows.declareFormsRow.mainSum := by unfold Func.isWrapper; first | (rw [if_pos (by decide +kernel)]; kernel_rfl) | (rw [if_neg (by decide +kernel)]; exact ⟨rfl, rfl⟩)
theorem inst : Tryz.f10.isInstance Tryz.prog Rows.declareFormsRow.origin Rows.declareFormsRow.targs := of_decide_eq_true (by kernel_rfl)
theorem lookd : false = Tryz.prog.looks [] := pfLooks
theorem goes : false = Rows.declareFormsRow.goesBy Tryz.prog := by kernel_rfl
theorem mains : Tryz.prog.mainIs = some (Rows.declareFormsCard.stood.harness.1, Rows.declareFormsCard.stood.harness.2.toList) := pfMain
theorem wfText : Rows.declareFormsRow.wfByText (OpenSpec.ofChange Rows.declareFormsSpec) = true := by kernel_rfl
end Go.Proofs.YtllbbacnakoomaaGreatDoor.declareFormsDone
