
/- law 20: what the walks of its laws share. -/
import Derived.Test.YtllbbacnakoomaaGreatDoorE30
namespace Go.Proofs.YtllbbacnakoomaaGreatDoor
open Go.RowKit
set_option linter.unusedVariables false

theorem tmod_at (k : Int) (m : Nat) (hm : 0 < m) : ∃ i : Nat, i < m ∧ (k.tmod m + m).tmod m = i ∧ -(m : Int) < k.tmod m ∧ k.tmod m < m := by
  have h1 : -(m : Int) < k.tmod m ∧ k.tmod m < m := by
    have h := Int.tmod_lt_of_pos k (b := (m : Int)) (by omega)
    have h2 := Int.lt_tmod_of_pos k (b := (m : Int)) (by omega)
    exact ⟨h2, h⟩
  refine ⟨((k.tmod m + m).tmod m).toNat, ?_, ?_, h1⟩
  · have h2 := Int.tmod_lt_of_pos (k.tmod m + m) (b := (m : Int)) (by omega)
    have h3 := Int.tmod_nonneg (a := k.tmod m + m) (m : Int) (by omega)
    omega
  · have h3 := Int.tmod_nonneg (a := k.tmod m + m) (m : Int) (by omega)
    omega
theorem wp_world {P : Program} {c : Code} {Q : Exit → Act → World → Prop} {a : Act} {w : World} (h : ∀ W, W = w → Code.wp P c Q a W) : Code.wp P c Q a w := h w rfl

theorem dl (l : List UInt8) : (⟨l.toArray⟩ : ByteArray).data.toList = l := by simp
theorem da (a b : ByteArray) : (a ++ b).data.toList = a.data.toList ++ b.data.toList := by rw [ByteArray.data_append, Array.toList_append]
theorem bs_list {a : ByteArray} {l : List UInt8} (h : a.data.toList = l) : a = ⟨l.toArray⟩ := by
  apply ByteArray.ext
  rw [← h]

theorem dsz (a : ByteArray) : a.data.toList.length = a.size := by rw [sz_list]
theorem wr20_s {w : World} (hsp : SpTab w) (s r : ByteArray) {l o : List UInt8} (hw : writE l [] = some o) (hs : s.data.toList = l) (hr : r.data.toList = o) (hl : l.length ≤ 1900) (ho : o.length ≤ 1000000) : ∀ y, Below w.heap.size w y → Calls Tryz.prog 18 #[.string s, .slice none 0 0] y fun e w' => e = .returned (.string r) ∧ Below y.heap.size y w' := fun y hy => by
  rw [bs_list hr]
  exact wr20 hsp s (by rw [← dsz, hs]; exact hl) o (by rw [hs]; exact hw) ho y hy
theorem wr20n_s {w : World} (hsp : SpTab w) (s r x : ByteArray) (hx : x.size ≠ 0) {l o : List UInt8} (hw : writE l [x] = some o) (hs : s.data.toList = l) (hr : r.data.toList = o) (hl : l.length ≤ 1900) (ho : o.length ≤ 1000000) : ∀ y, Below w.heap.size w y → Calls Tryz.prog 18 #[.string s, .slice (some ⟨y.heap.size, 0, none⟩) 1 1] (y.alloc (.cells #[.string x] 9)) fun e w' => e = .returned (.string r) ∧ Below y.heap.size y w' := fun y hy => by
  rw [bs_list hr]
  exact wr20n hsp s (by rw [← dsz, hs]; exact hl) x hx o (by rw [hs]; exact hw) ho y hy
end Go.Proofs.YtllbbacnakoomaaGreatDoor
