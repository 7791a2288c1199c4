
/- ExpressDeep: the row's closed facts, each by itself. -/
import Derived.Test.YtllbbacnakoomaaGreatDoorRows
import Derived.Test.YtllbbacnakoomaaGreatDoorCards
import Derived.JoinedOf
import Derived.ProofKit
import Derived.SevenTiedAt
import Derived.Test.YtllbbacnakoomaaGreatDoorPFacts
namespace Go.Proofs.YtllbbacnakoomaaGreatDoor.expressDeepDone
set_option linter.unusedVariables false
set_option maxRecDepth 100000

theorem j1 : (Rows.expressDeepRow.wf (OpenSpec.ofChange Rows.expressDeepSpec)) = true := by kernel_rfl
theorem j2 : (laidOutB Tryz.prog) = true := pfLaid
theorem j3 : (mapsRowed Tryz.prog) = true := pfMaps
theorem j4 : (Tryz.f4.params.all (Tryz.prog.readableRec ·)) = true := by kernel_rfl
theorem j5 : (namedTie Tryz.prog Rows.expressDeepRow.named Rows.expressDeepSpec.vars) = true := by kernel_rfl
theorem j6 : (Rows.expressDeepRow.stops == []) = true := by kernel_rfl
theorem j7 : (Tryz.prog.stops == []) = true := pfStops
theorem j8 : (Rows.expressDeepRow.knobs == []) = true := by kernel_rfl
theorem j9 : (Tryz.prog.stopKnobs == []) = true := pfKnobs
theorem j10 : (Rows.expressDeepRow.inPlace == Tryz.prog.inPlace 4) = true := by kernel_rfl
theorem j11 : (Rows.expressDeepRow.unfollowed == Tryz.prog.unfollowed 4) = true := by kernel_rfl
theorem j12 : (Rows.expressDeepRow.recurses == Tryz.prog.recurses 4) = true := by kernel_rfl
theorem j13 : (Rows.expressDeepRow.named == Tryz.prog.varsNamed 4) = true := by kernel_rfl
theorem j14 : (Rows.expressDeepRow.maps == (Tryz.f4.params.toList ++ Rows.expressDeepSpec.plain.varTypes Tryz.prog).any (Tryz.prog.mapsRec ·)) = true := by kernel_rfl
theorem j15 : (Rows.expressDeepRow.ifaces == (Tryz.f4.params.toList ++ Rows.expressDeepSpec.plain.varTypes Tryz.prog).any (Tryz.prog.ifacesRec ·)) = true := by kernel_rfl
theorem j16 : (Rows.expressDeepRow.mapsOut == Tryz.prog.mapsAmong Tryz.f4.resultTypes.toList) = true := by kernel_rfl
theorem j17 : (Rows.expressDeepRow.loops == (Tryz.f4.params.toList ++ Rows.expressDeepSpec.plain.varTypes Tryz.prog).any (Tryz.prog.loopsFrom ·)) = true := by kernel_rfl
theorem j18 : (Rows.expressDeepRow.wideKeys == (Tryz.f4.params.toList ++ Rows.expressDeepSpec.plain.varTypes Tryz.prog ++ Tryz.f4.resultTypes.toList).any (Tryz.prog.wideKeysFrom ·)) = true := by kernel_rfl
theorem j19 : (Rows.expressDeepSpec.vars.all (Tryz.prog.varReadable ·)) = true := by kernel_rfl
theorem j20 : (Tryz.f4.resultTypes.all (fun t => Tryz.prog.readableRec t && decide (t < Tryz.prog.types.size))) = true := by kernel_rfl
theorem j21 : (Rows.expressDeepRow.ifacesOut == Tryz.f4.resultTypes.toList.any (Tryz.prog.ifacesRec ·)) = true := by kernel_rfl
theorem j22 : (Rows.expressDeepRow.loopsOut == Tryz.f4.resultTypes.toList.any (Tryz.prog.loopsFrom ·)) = true := by kernel_rfl
theorem j23 : (Rows.expressDeepRow.plainKeys == Tryz.prog.plainKeys) = true := pfKeys
theorem j24 : (Rows.expressDeepRow.shortTexts.isNone) = true := by kernel_rfl
theorem j25 : (Tryz.prog.stopsHeard) = true := pfHeard
theorem j26 : (Tryz.prog.mayEnter) = true := pfEnter
theorem j27 : (Rows.expressDeepRow.lifted == Tryz.prog.liftsFinal) = true := pfLifts
theorem j28 : (Tryz.prog.make == some Rows.expressDeepRow.make) = true := pfMake
theorem j29 : (Rows.expressDeepRow.kinds == (if Rows.expressDeepRow.domain.isEmpty then [] else Tryz.f4.params.toList.map fun t => match Tryz.prog.underlying t with | some (.int k) => some k | _ => none)) = true := by kernel_rfl
theorem j30 : (Rows.expressDeepRow.pinned == Rows.expressDeepRow.pinnedBy) = true := by kernel_rfl
theorem j31 : (Rows.expressDeepRow.veiled == (Tryz.f4.params.toList ++ Rows.expressDeepSpec.plain.varTypes Tryz.prog ++ Tryz.f4.resultTypes.toList).any (Tryz.prog.veiledRec ·)) = true := by kernel_rfl
theorem j32 : (Rows.expressDeepRow.veiledFits Tryz.prog Tryz.f4.params.toList (Tryz.f4.params.toList ++ Rows.expressDeepSpec.plain.varTypes Tryz.prog ++ Tryz.f4.resultTypes.toList)) = true := by kernel_rfl
theorem joined : joinedFacts Tryz.prog 4 Tryz.f4 Rows.expressDeepSpec Rows.expressDeepRow = true := by
  simp only [joinedFacts, Bool.and_eq_true]
  exact ⟨⟨⟨⟨⟨⟨⟨⟨⟨⟨⟨⟨⟨⟨⟨⟨⟨⟨⟨⟨⟨⟨⟨⟨⟨⟨⟨⟨⟨⟨⟨j1, j2⟩, j3⟩, j4⟩, j5⟩, j6⟩, j7⟩, j8⟩, j9⟩, j10⟩, j11⟩, j12⟩, j13⟩, j14⟩, j15⟩, j16⟩, j17⟩, j18⟩, j19⟩, j20⟩, j21⟩, j22⟩, j23⟩, j24⟩, j25⟩, j26⟩, j27⟩, j28⟩, j29⟩, j30⟩, j31⟩, j32⟩
theorem fnamed : Tryz.prog.funcNamed Rows.expressDeepRow.func = some 4 := by kernel_rfl
theorem wrap : Tryz.f4.isWrapper Tryz.prog Rows.expressDeepRow.wrapper Rows.expressDeepRow.mainSum := by unfold Func.isWrapper; first | (rw [if_pos (by decide +kernel)]; kernel_rfl) | (rw [if_neg (by decide +kernel)]; exact ⟨rfl, rfl⟩)
theorem inst : Tryz.f4.isInstance Tryz.prog Rows.expressDeepRow.origin Rows.expressDeepRow.targs := of_decide_eq_true (by kernel_rfl)
theorem lookd : false = Tryz.prog.looks [] := pfLooks
theorem goes : false = Rows.expressDeepRow.goesBy Tryz.prog := by kernel_rfl
theorem mains : Tryz.prog.mainIs = some (Rows.expressDeepCard.stood.harness.1, Rows.expressDeepCard.stood.harness.2.toList) := pfMain
theorem wfText : Rows.expressDeepRow.wfByText (OpenSpec.ofChange Rows.expressDeepSpec) = true := by kernel_rfl
end Go.Proofs.YtllbbacnakoomaaGreatDoor.expressDeepDone
