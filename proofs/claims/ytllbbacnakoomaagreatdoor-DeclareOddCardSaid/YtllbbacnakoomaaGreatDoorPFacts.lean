
/- The program's closed facts, each by itself: what the rows' facts share. -/
import Derived.Test.YtllbbacnakoomaaGreatDoorRows
import Derived.Test.YtllbbacnakoomaaGreatDoorCards
import Derived.JoinedOf
import Derived.ProofKit
import Derived.SevenTiedAt
namespace Go.Proofs.YtllbbacnakoomaaGreatDoor
set_option linter.unusedVariables false
set_option maxRecDepth 100000

theorem pfLaid : (laidOutB Tryz.prog) = true := by kernel_rfl
theorem pfMaps : (mapsRowed Tryz.prog) = true := by kernel_rfl
theorem pfStops : (Tryz.prog.stops == []) = true := by kernel_rfl
theorem pfKnobs : (Tryz.prog.stopKnobs == []) = true := by kernel_rfl
theorem pfHeard : (Tryz.prog.stopsHeard) = true := by kernel_rfl
theorem pfEnter : (Tryz.prog.mayEnter) = true := by kernel_rfl
theorem pfKeys : (Rows.expressFormsRow.plainKeys == Tryz.prog.plainKeys) = true := by kernel_rfl
theorem pfLifts : (Rows.expressFormsRow.lifted == Tryz.prog.liftsFinal) = true := by kernel_rfl
theorem pfMake : (Tryz.prog.make == some Rows.expressFormsRow.make) = true := by kernel_rfl
theorem pfLooks : false = Tryz.prog.looks [] := by kernel_rfl
theorem pfMain : Tryz.prog.mainIs = some (Rows.expressFormsCard.stood.harness.1, Rows.expressFormsCard.stood.harness.2.toList) := by kernel_rfl
end Go.Proofs.YtllbbacnakoomaaGreatDoor
