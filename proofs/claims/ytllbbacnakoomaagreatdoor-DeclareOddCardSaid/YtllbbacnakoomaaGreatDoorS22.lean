/- Texts of this seat's proofs, laid into one file. -/
import Derived.Test.YtllbbacnakoomaaGreatDoorS21
import Derived.Test.YtllbbacnakoomaaGreatDoorS9
import Derived.Test.YtllbbacnakoomaaGreatDoorS7
set_option maxRecDepth 100000
set_option maxHeartbeats 16000000
namespace Go.Proofs.YtllbbacnakoomaaGreatDoor
open Go.RowKit
set_option linter.unusedVariables false
theorem LnsAt.nth {w : World} {S : Nat} {file : ByteArray} : ∀ {ls : List Ln} {css : List (List Value)}, LnsAt w S file ls css → ∀ (i : Nat) (l : Ln), ls[i]? = some l → ∃ c, css[i]? = some c ∧ LnAt w S file l c
 | _, _, .nil, i, l, h => by simp at h
 | _, _, .cons (c := c) h r, i, l, hl => by
   cases i with
   | zero => simp at hl; subst hl; exact ⟨c, rfl, h⟩
   | succ i => simp at hl; obtain ⟨c', h1, h2⟩ := LnsAt.nth r i l hl; exact ⟨c', by simpa using h1, h2⟩
theorem flat_take {α β : Type} {ls : List α} {g : α → List β} {i : Nat} {l : α} (h : ls[i]? = some l) : (ls.take (i + 1)).flatMap g = (ls.take i).flatMap g ++ g l := by
 rw [List.take_add_one, h, List.flatMap_append]; simp
theorem flat_le {α β : Type} (ls : List α) (g : α → List β) (i : Nat) : ((ls.take i).flatMap g).length ≤ (ls.flatMap g).length := by
 have : ls.flatMap g = (ls.take i).flatMap g ++ (ls.drop i).flatMap g := by rw [← List.flatMap_append, List.take_append_drop]
 rw [this, List.length_append]; omega
theorem tm_tk (T : List Tk) : (T.map (Tk.tm (bs [102]))).map tmR = T.map (tkC (⟨#[102]⟩ : ByteArray)) := by
 rw [List.map_map]; rfl
theorem tm8 (T : List Tm) : ∀ cs ∈ T.map tmR, cs.length = 8 := by
 intro cs h
 obtain ⟨t, _, rfl⟩ := List.mem_map.1 h
 rfl
theorem tm1 (T : List Tm) : ∀ cs ∈ T.map tmR, ∀ u ∈ cs, u.oneCell' = true := by
 intro cs h u hu
 obtain ⟨t, _, rfl⟩ := List.mem_map.1 h
 simp at hu
 rcases hu with rfl | rfl | rfl | rfl | rfl | rfl | rfl | rfl <;> rfl
end Go.Proofs.YtllbbacnakoomaaGreatDoor
namespace Go.Proofs.YtllbbacnakoomaaGreatDoor
open Go.RowKit
set_option linter.unusedVariables false
theorem Em95 : EI Tryz.prog 39 95 (.agg #[.int .i64 0, .string ⟨#[]⟩, .string ⟨#[]⟩, .int .i64 0, .int .i64 0, .int .i64 0, .int .i64 0]) 7 72 := ⟨Tryz.underlying39, by kernel_rfl, rfl, by decide⟩
end Go.Proofs.YtllbbacnakoomaaGreatDoor
