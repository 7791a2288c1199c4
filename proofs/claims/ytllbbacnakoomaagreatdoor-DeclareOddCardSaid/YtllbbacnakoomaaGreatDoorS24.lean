/- Texts of this seat's proofs, laid into one file. -/
import Derived.Test.YtllbbacnakoomaaGreatDoorS22
import Derived.Test.YtllbbacnakoomaaGreatDoorS23
import Derived.Test.YtllbbacnakoomaaGreatDoorS9
set_option maxRecDepth 100000
set_option maxHeartbeats 16000000
namespace Go.Proofs.YtllbbacnakoomaaGreatDoor
open Go.RowKit
set_option linter.unusedVariables false
theorem tkAt_own {L : List Ct} {w : World} {B : Nat} {v : Value} (h : Own w B 95 7 v (L.map rtC)) (hl : L.length ≤ 2000) (ht : ∀ t ∈ L, t.text.size ≤ 1000000000) (hsp : SpTab w) : ∃ ta tc, v = .slice ta L.length tc ∧ TkAt L ta tc w := by
 have h2 := h
 obtain ⟨ao, cap, rfl, hc, _, hr, hn⟩ := h.rown (n := L.length) (by rw [List.length_map])
 refine ⟨ao, cap, rfl, hr, by omega, hc, ht, hsp, fun b o e => ?_⟩
 subst e
 obtain ⟨c, fz, hx⟩ := h2.size_lt b rfl
 exact ⟨c, fz, hx⟩
theorem envOf_snoc (ns : List ByteArray) (n : ByteArray) : envOf (ns ++ [n]) = .decl (envOf ns) n true := by unfold envOf; rw [List.foldl_append]; rfl
theorem tmod_at (k : Int) (m : Nat) (hm : 0 < m) : ∃ i : Nat, i < m ∧ (k.tmod m + m).tmod m = i ∧ -(m : Int) < k.tmod m ∧ k.tmod m < m := by
 have h1 : -(m : Int) < k.tmod m ∧ k.tmod m < m := by
  have h := Int.tmod_lt_of_pos k (b := (m : Int)) (by omega)
  have h2 := Int.lt_tmod_of_pos k (b := (m : Int)) (by omega)
  exact ⟨h2, h⟩
 refine ⟨((k.tmod m + m).tmod m).toNat, ?_, ?_, h1⟩
 ·have h2 := Int.tmod_lt_of_pos (k.tmod m + m) (b := (m : Int)) (by omega)
  have h3 := Int.tmod_nonneg (a := k.tmod m + m) (m : Int) (by omega)
  omega
 ·have h3 := Int.tmod_nonneg (a := k.tmod m + m) (m : Int) (by omega)
  omega
theorem wp_world {P : Program} {c : Code} {Q : Exit → Act → World → Prop} {a : Act} {w : World} (h : ∀ W, W = w → Code.wp P c Q a W) : Code.wp P c Q a w := h w rfl
theorem dl (l : List UInt8) : (⟨l.toArray⟩ : ByteArray).data.toList = l := by simp
theorem da (a b : ByteArray) : (a ++ b).data.toList = a.data.toList ++ b.data.toList := by rw [ByteArray.data_append, Array.toList_append]
theorem bs_list {a : ByteArray} {l : List UInt8} (h : a.data.toList = l) : a = ⟨l.toArray⟩ := by
 apply ByteArray.ext
 rw [← h]
theorem dsz (a : ByteArray) : a.data.toList.length = a.size := by rw [sz_list]
end Go.Proofs.YtllbbacnakoomaaGreatDoor
