
/- ExpressForms: the row's closed facts, each by itself. -/
import Derived.Test.YtllbbacnakoomaaGreatDoorRows
import Derived.Test.YtllbbacnakoomaaGreatDoorCards
import Derived.JoinedOf
import Derived.ProofKit
import Derived.SevenTiedAt
namespace Go.Proofs.YtllbbacnakoomaaGreatDoor.expressFormsDone
set_option linter.unusedVariables false
set_option maxRecDepth 100000

theorem j1 : (Rows.expressFormsRow.wf (OpenSpec.ofChange Rows.expressFormsSpec)) = true := by kernel_rfl
theorem j2 : (laidOutB Tryz.prog) = true := by kernel_rfl
theorem j3 : (mapsRowed Tryz.prog) = true := by kernel_rfl
theorem j4 : (Tryz.f6.params.all (Tryz.prog.readableRec ·)) = true := by kernel_rfl
theorem j5 : (namedTie Tryz.prog Rows.expressFormsRow.named Rows.expressFormsSpec.vars) = true := by kernel_rfl
theorem j6 : (Rows.expressFormsRow.stops == []) = true := by kernel_rfl
theorem j7 : (Tryz.prog.stops == []) = true := by kernel_rfl
theorem j8 : (Rows.expressFormsRow.knobs == []) = true := by kernel_rfl
theorem j9 : (Tryz.prog.stopKnobs == []) = true := by kernel_rfl
theorem j10 : (Rows.expressFormsRow.inPlace == Tryz.prog.inPlace 6) = true := by kernel_rfl
theorem j11 : (Rows.expressFormsRow.unfollowed == Tryz.prog.unfollowed 6) = true := by kernel_rfl
theorem j12 : (Rows.expressFormsRow.recurses == Tryz.prog.recurses 6) = true := by kernel_rfl
theorem j13 : (Rows.expressFormsRow.named == Tryz.prog.varsNamed 6) = true := by kernel_rfl
theorem j14 : (Rows.expressFormsRow.maps == (Tryz.f6.params.toList ++ Rows.expressFormsSpec.plain.varTypes Tryz.prog).any (Tryz.prog.mapsRec ·)) = true := by kernel_rfl
theorem j15 : (Rows.expressFormsRow.ifaces == (Tryz.f6.params.toList ++ Rows.expressFormsSpec.plain.varTypes Tryz.prog).any (Tryz.prog.ifacesRec ·)) = true := by kernel_rfl
theorem j16 : (Rows.expressFormsRow.mapsOut == Tryz.prog.mapsAmong Tryz.f6.resultTypes.toList) = true := by kernel_rfl
theorem j17 : (Rows.expressFormsRow.loops == (Tryz.f6.params.toList ++ Rows.expressFormsSpec.plain.varTypes Tryz.prog).any (Tryz.prog.loopsFrom ·)) = true := by kernel_rfl
theorem j18 : (Rows.expressFormsRow.wideKeys == (Tryz.f6.params.toList ++ Rows.expressFormsSpec.plain.varTypes Tryz.prog ++ Tryz.f6.resultTypes.toList).any (Tryz.prog.wideKeysFrom ·)) = true := by kernel_rfl
theorem j19 : (Rows.expressFormsSpec.vars.all (Tryz.prog.varReadable ·)) = true := by kernel_rfl
theorem j20 : (Tryz.f6.resultTypes.all (fun t => Tryz.prog.readableRec t && decide (t < Tryz.prog.types.size))) = true := by kernel_rfl
theorem j21 : (Rows.expressFormsRow.ifacesOut == Tryz.f6.resultTypes.toList.any (Tryz.prog.ifacesRec ·)) = true := by kernel_rfl
theorem j22 : (Rows.expressFormsRow.loopsOut == Tryz.f6.resultTypes.toList.any (Tryz.prog.loopsFrom ·)) = true := by kernel_rfl
theorem j23 : (Rows.expressFormsRow.plainKeys == Tryz.prog.plainKeys) = true := by kernel_rfl
theorem j24 : (Rows.expressFormsRow.shortTexts.isNone) = true := by kernel_rfl
theorem j25 : (Tryz.prog.stopsHeard) = true := by kernel_rfl
theorem j26 : (Tryz.prog.mayEnter) = true := by kernel_rfl
theorem j27 : (Rows.expressFormsRow.lifted == Tryz.prog.liftsFinal) = true := by kernel_rfl
theorem j28 : (Tryz.prog.make == some Rows.expressFormsRow.make) = true := by kernel_rfl
theorem j29 : (Rows.expressFormsRow.kinds == (if Rows.expressFormsRow.domain.isEmpty then [] else Tryz.f6.params.toList.map fun t => match Tryz.prog.underlying t with | some (.int k) => some k | _ => none)) = true := by kernel_rfl
theorem j30 : (Rows.expressFormsRow.pinned == Rows.expressFormsRow.pinnedBy) = true := by kernel_rfl
theorem j31 : (Rows.expressFormsRow.veiled == (Tryz.f6.params.toList ++ Rows.expressFormsSpec.plain.varTypes Tryz.prog ++ Tryz.f6.resultTypes.toList).any (Tryz.prog.veiledRec ·)) = true := by kernel_rfl
theorem j32 : (Rows.expressFormsRow.veiledFits Tryz.prog Tryz.f6.params.toList (Tryz.f6.params.toList ++ Rows.expressFormsSpec.plain.varTypes Tryz.prog ++ Tryz.f6.resultTypes.toList)) = true := by kernel_rfl
theorem joined : joinedFacts Tryz.prog 6 Tryz.f6 Rows.expressFormsSpec Rows.expressFormsRow = true := by
  simp only [joinedFacts, Bool.and_eq_true]
  exact ⟨⟨⟨⟨⟨⟨⟨⟨⟨⟨⟨⟨⟨⟨⟨⟨⟨⟨⟨⟨⟨⟨⟨⟨⟨⟨⟨⟨⟨⟨⟨j1, j2⟩, j3⟩, j4⟩, j5⟩, j6⟩, j7⟩, j8⟩, j9⟩, j10⟩, j11⟩, j12⟩, j13⟩, j14⟩, j15⟩, j16⟩, j17⟩, j18⟩, j19⟩, j20⟩, j21⟩, j22⟩, j23⟩, j24⟩, j25⟩, j26⟩, j27⟩, j28⟩, j29⟩, j30⟩, j31⟩, j32⟩
theorem fnamed : Tryz.prog.funcNamed Rows.expressFormsRow.func = some 6 := by kernel_rfl
theorem wrap : Tryz.f6.isWrapper Tryz.prog Rows.expressFormsRow.wrapper Rows.expressFormsRow.mainSum := by unfold Func.isWrapper; first | (rw [if_pos (by decide +kernel)]; kernel_rfl) | (rw [if_neg (by decide +kernel)]; exact ⟨rfl, rfl⟩)
theorem inst : Tryz.f6.isInstance Tryz.prog Rows.expressFormsRow.origin Rows.expressFormsRow.targs := of_decide_eq_true (by kernel_rfl)
theorem lookd : false = Tryz.prog.looks [] := by kernel_rfl
theorem goes : false = Rows.expressFormsRow.goesBy Tryz.prog := by kernel_rfl
theorem mains : Tryz.prog.mainIs = some (Rows.expressFormsCard.stood.harness.1, Rows.expressFormsCard.stood.harness.2.toList) := by kernel_rfl
theorem wfText : Rows.expressFormsRow.wfByText (OpenSpec.ofChange Rows.expressFormsSpec) = true := by kernel_rfl
end Go.Proofs.YtllbbacnakoomaaGreatDoor.expressFormsDone
