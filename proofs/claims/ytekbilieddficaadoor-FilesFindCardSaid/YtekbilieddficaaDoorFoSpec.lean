/- FilesOrder: the law in plain Lean. -/
import Derived.Test.YtekbilieddficaaDoorFi10
namespace Go.Proofs.YtekbilieddficaaDoor
open Go.RowKit
set_option linter.unusedVariables false

def dirB (i : Nat) : ByteArray := ⟨#[100, UInt8.ofNat (48 + i)]⟩
def yB (i : Nat) : ByteArray := ⟨#[100, UInt8.ofNat (48 + i), 47, 120, 47, 121, 46, 104]⟩
abbrev sSrcA : ByteArray := ⟨#[115, 114, 99, 47, 97, 46, 99]⟩
abbrev sSrcY : ByteArray := ⟨#[115, 114, 99, 47, 120, 47, 121, 46, 104]⟩
abbrev nXy : ByteArray := ⟨#[120, 47, 121, 46, 104]⟩
abbrev nZxy : ByteArray := ⟨#[122, 47, 46, 46, 47, 120, 47, 46, 47, 121, 46, 104]⟩
abbrev nY : ByteArray := ⟨#[121, 46, 104]⟩
abbrev sSrc : ByteArray := ⟨#[115, 114, 99]⟩

theorem dir_ok : ∀ i, i < 8 → badB (dirB i) = false := by decide +kernel
theorem y_valid : ∀ i, i < 8 → ValidP (yB i).data.toList := by decide +kernel
theorem srcA_valid : ValidP sSrcA.data.toList := by decide +kernel
theorem srcY_valid : ValidP sSrcY.data.toList := by decide +kernel
theorem join_xy : ∀ i, i < 8 → joinedP (dirB i).data.toList nXy.data.toList = some (yB i).data.toList := by decide +kernel
theorem join_zxy : ∀ i, i < 8 → joinedP (dirB i).data.toList nZxy.data.toList = some (yB i).data.toList := by decide +kernel
theorem join_y : ∀ i, i < 8 → joinedP (dirB i).data.toList nY.data.toList = some [100, UInt8.ofNat (48 + i), 47, 121, 46, 104] := by decide +kernel
theorem joinS_xy : joinedP sSrc.data.toList nXy.data.toList = some sSrcY.data.toList := by decide +kernel
theorem joinS_zxy : joinedP sSrc.data.toList nZxy.data.toList = some sSrcY.data.toList := by decide +kernel
theorem joinS_y : joinedP sSrc.data.toList nY.data.toList = some [115, 114, 99, 47, 121, 46, 104] := by decide +kernel
theorem y_inj : ∀ i, i < 8 → ∀ j, j < 8 → (yB i).data.toList = (yB j).data.toList → i = j := by decide +kernel
theorem y_notA : ∀ i, i < 8 → (yB i).data.toList ≠ sSrcA.data.toList := by decide +kernel
theorem y_notY : ∀ i, i < 8 → (yB i).data.toList ≠ sSrcY.data.toList := by decide +kernel
theorem z_not : ∀ i, i < 8 → ([100, UInt8.ofNat (48 + i), 47, 121, 46, 104] : List UInt8) ≠ sSrcA.data.toList ∧ ([100, UInt8.ofNat (48 + i), 47, 121, 46, 104] : List UInt8) ≠ sSrcY.data.toList ∧ ∀ j, j < 8 → ([100, UInt8.ofNat (48 + i), 47, 121, 46, 104] : List UInt8) ≠ (yB j).data.toList := by decide +kernel
theorem s_not : ([115, 114, 99, 47, 121, 46, 104] : List UInt8) ≠ sSrcA.data.toList ∧ ([115, 114, 99, 47, 121, 46, 104] : List UInt8) ≠ sSrcY.data.toList ∧ ∀ j, j < 8 → ([115, 114, 99, 47, 121, 46, 104] : List UInt8) ≠ (yB j).data.toList := by decide +kernel
theorem y_ne : ∀ i, i < 8 → (yB i).data.toList ≠ [] := by decide +kernel

theorem file_some {F : List (ByteArray × Nat × RT)} {n : ByteArray} : (fileOf F n).isSome = true ↔ n ∈ F.map (·.1) := by
  unfold fileOf
  rw [Option.isSome_map, List.find?_isSome]
  simp [List.mem_map]

/-- the files behind the law's second loop, at j: those of the directories from j on -/
def Keys (H : List Bool) (j : Nat) (F : List (ByteArray × Nat × RT)) : Prop := ∀ n : ByteArray, n ∈ F.map (·.1) ↔ n = sSrcA ∨ ∃ i, j ≤ i ∧ H[i]? = some true ∧ n = yB i

/-- the first of the directories that has it -/
def firstY : Nat → List Bool → ByteArray
  | _, [] => ⟨#[]⟩
  | i, true :: _ => yB i
  | i, false :: r => firstY (i + 1) r

theorem ba_eq' {a b : ByteArray} (h : a.data.toList = b.data.toList) : a = b := by
  cases a with | mk x => cases b with | mk y => exact congrArg ByteArray.mk (Array.toList_inj.1 h)

theorem mk_back (a : ByteArray) : (⟨a.data.toList.toArray⟩ : ByteArray) = a := by cases a; rfl

def dirsFrom : Nat → Nat → List ByteArray
  | _, 0 => []
  | i, n + 1 => dirB i :: dirsFrom (i + 1) n

theorem firstY_drop {H : List Bool} {j : Nat} {b : Bool} (h : H[j]? = some b) : firstY j (H.drop j) = if b then yB j else firstY (j + 1) (H.drop (j + 1)) := by
  have hlt := (List.getElem?_eq_some_iff.1 h).1
  rw [← List.getElem_cons_drop hlt, (List.getElem?_eq_some_iff.1 h).2]
  cases b <;> rfl

/-- what the directories have, from i on: the first one that has it, if there is one -/
theorem found_dirs {H : List Bool} (h8 : H.length ≤ 8) {F : List (ByteArray × Nat × RT)} (hF : ∀ i, i < H.length → ((fileOf F (yB i)).isSome = true ↔ H[i]? = some true)) {nm : List UInt8} (hj : ∀ i, i < 8 → joinedP (dirB i).data.toList nm = some (yB i).data.toList) :
    ∀ m i, i + m = H.length → foundL nm F (dirsFrom i m) = if firstY i (H.drop i) = ⟨#[]⟩ then none else some (firstY i (H.drop i)) := by
  intro m
  induction m with
  | zero =>
    intro i hi
    rw [List.drop_eq_nil_of_le (by omega)]
    rfl
  | succ m ih =>
    intro i hi
    have hlt : i < H.length := by omega
    have hb : H[i]? = some (H[i]'hlt) := List.getElem?_eq_getElem _
    rw [firstY_drop hb]
    show (match hitL nm F (dirB i) with | some r => some r | none => foundL nm F (dirsFrom (i + 1) m)) = _
    unfold hitL
    rw [hj i (by omega)]
    simp only [mk_back]
    cases hH : H[i]'hlt with
    | true =>
      rw [hH] at hb
      rw [(hF i hlt).2 hb]
      simp only [if_true]
      rw [if_neg]
      intro e
      exact y_ne i (by omega) (by rw [e])
    | false =>
      rw [hH] at hb
      have : (fileOf F (yB i)).isSome = false := by
        cases hx : (fileOf F (yB i)).isSome with
        | false => rfl
        | true => have := (hF i hlt).1 hx; rw [hb] at this; cases this
      rw [this]
      simp only [Bool.false_eq_true, if_false]
      exact ih (i + 1) (by omega)
end Go.Proofs.YtekbilieddficaaDoor
