/- Texts of this seat's proofs, laid into one file. -/
import Derived.Test.YtllbbacnakoomaaGreatDoorS11
import Derived.Test.YtllbbacnakoomaaGreatDoorRows
import Derived.LaidSub
import Derived.MakeChecks
import Derived.Lib.LaidTab
set_option maxRecDepth 100000
set_option maxHeartbeats 16000000
namespace Go.Proofs.YtllbbacnakoomaaGreatDoor
open Go.RowKit
set_option linter.unusedVariables false
theorem gTab : Tryz.prog.globalNamed "strings.asciiSpace" = some 0 := by kernel_rfl
theorem gTabTy : (Tryz.prog.globals[0]?).map (·.type) = some 246 := by kernel_rfl
theorem spTab_of {l : List (String × DataW Unit)} {W : World} (hp : (l.all fun x => x.2.handleName?.isNone) = true) (hl : (l.filter fun x => x.1 == "strings.asciiSpace") = [("strings.asciiSpace", Lib.tabData .u8 Lib.asciiSpaceTab)]) (h : laidMetH Tryz.prog l W) : SpTab W := by
 rw [MakeChecks.laidMetH_plain _ _ _ hp] at h
 have h2 := h.filter (fun x => x.1 == "strings.asciiSpace")
 rw [hl] at h2
 exact Lib.tabIs_of_head gTab gTabTy (n := 256) (e := 5) (by kernel_rfl) (by kernel_rfl) (by kernel_rfl) (by kernel_rfl) h2
theorem spTab_forms {W : World} (h : laidMetH Tryz.prog Rows.expressFormsRow.laid W) : SpTab W := spTab_of (by kernel_rfl) (by kernel_rfl) h
end Go.Proofs.YtllbbacnakoomaaGreatDoor
