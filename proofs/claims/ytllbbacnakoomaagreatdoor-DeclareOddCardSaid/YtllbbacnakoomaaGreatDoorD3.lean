/- Texts of this seat's proofs, laid into one file. -/
import Derived.Test.YtllbbacnakoomaaGreatDoorS38
set_option maxRecDepth 100000
set_option maxHeartbeats 16000000
namespace Go.Proofs.YtllbbacnakoomaaGreatDoor
set_option linter.unusedVariables false
def stmtOf (N : Nat) (L : List Ct) (names : List ByteArray) : Option (List UInt8) := outOf L ((recN L N).stmt 0 ⟨0, envOf names, false⟩)
def writS (s : List UInt8) (names : List ByteArray) : Option (List UInt8) := stmtOf 1000 (toksU s) names
def writSQ (s : List UInt8) (names : List ByteArray) : Option (List UInt8) := stmtOf 1000 (quickC s) names
theorem stmt_same {L L' : List Ct} (h : L.map kt = L'.map kt) {N : Nat} {names : List ByteArray} {x : List UInt8} (ho : stmtOf N L names = some x) : stmtOf N L' names = some x := by
 unfold stmtOf at ho ⊢
 have := (rec_sim (mv_same h) N).stmt 0 ⟨0, envOf names, false⟩ (Int.le_refl _)
 rw [Ps.mv_id] at this
 exact out_sim (len_same h) this ho
theorem writS_quick {s : List UInt8} (h : quickB s = true) {names : List ByteArray} {x : List UInt8} (ho : writSQ s names = some x) : writS s names = some x := stmt_same (quick_same h) ho
def writB (s : List UInt8) (names : List ByteArray) (x : List UInt8) : Bool := if quickB s then writSQ s names == some x else writS s names == some x
theorem writB_of {s : List UInt8} {names : List ByteArray} {x : List UInt8} (h : writB s names x = true) : writS s names = some x := by
 unfold writB at h
 split at h
 ·rename_i hq; exact writS_quick hq (by simpa using h)
 ·simpa using h
end Go.Proofs.YtllbbacnakoomaaGreatDoor
