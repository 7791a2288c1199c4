/- Files: Find. -/
import Derived.Test.YtekbilieddficaaDoorFi8
import Derived.Deep.Cut
import Derived.Deep.CutRange
namespace Go.Proofs.YtekbilieddficaaDoor
open Go.RowKit
set_option linter.unusedVariables false

/-- what a name means, beside a directory -/
def hitL (nm : List UInt8) (F : List (ByteArray × Nat × RT)) (d : ByteArray) : Option ByteArray :=
  match joinedP d.data.toList nm with
  | some l => if (fileOf F ⟨l.toArray⟩).isSome then some ⟨l.toArray⟩ else none
  | none => none

def foundL (nm : List UInt8) (F : List (ByteArray × Nat × RT)) : List ByteArray → Option ByteArray
  | [] => none
  | d :: D => match hitL nm F d with | some r => some r | none => foundL nm F D

theorem joined_valid {d p l : List UInt8} (h : joinedP d p = some l) : ValidP l := by
  unfold joinedP at h
  split at h
  · exact cleanP_valid h
  · exact cleanP_valid h

theorem found_drop {nm : List UInt8} {F : List (ByteArray × Nat × RT)} {D : List ByteArray} {k : Nat} {d : ByteArray} (h : D[k]? = some d) : foundL nm F (D.drop k) = match hitL nm F d with | some r => some r | none => foundL nm F (D.drop (k + 1)) := by
  have hlt := (List.getElem?_eq_some_iff.1 h).1
  rw [← List.getElem_cons_drop hlt, (List.getElem?_eq_some_iff.1 h).2]
  rfl

def findV : Option ByteArray → Value
  | some r => .tuple #[.string r, .bool true]
  | none => .tuple #[.string ⟨#[]⟩, .bool false]

def withDir (q : Bool) (d0 : ByteArray) (D : List ByteArray) : List ByteArray := if q then d0 :: D else D

set_option maxRecDepth 100000 in
set_option maxHeartbeats 2000000 in
theorem find_any {B g fm vm : Nat} {dv : Value} {D : List ByteArray} {F : List (ByteArray × Nat × RT)} {V : List (ByteArray × Nat × Int)} (w : World) (h : FAt w B g fm vm dv D F V) (hD : D.length ≤ 100 ∧ ∀ d ∈ D, d.size ≤ 1000) (fr nm : ByteArray) (hfr : fr.size ≤ 1000) (hnm : nm.size ≤ 1000) (q : Bool) (d0 : ByteArray) (hd0 : DirOf fr.data.toList d0.data.toList) (hd0s : d0.size ≤ 1000) :
    Calls Tryd.prog 13 #[.pointer (some ⟨g, 0, none⟩), .string fr, .string nm, .bool q] w fun e w' => e = .returned (findV (foundL nm.data.toList F (withDir q d0 D))) ∧ Below w.heap.size w w' := by
  obtain ⟨ao, c, rfl, hc, hrow, hz⟩ := h.dirs
  have c0 := Lib.cell_of_heap h.tab 0
  have HF : Hid (∀ W, Below w.heap.size w W → W.cell? ⟨g, 1, none⟩ = some (.map (some fm)) ∧ ∀ n : ByteArray, n.size ≤ maxLen → (Instr.lookup 59 (.map (some fm)) (.string n) true).run Tryd.prog W = .ok (.tuple #[((fileOf F n).map fun q => Value.pointer (some ⟨q.1, 0, none⟩)).getD (.pointer none), .bool (fileOf F n).isSome]) W) :=
    Lib.hid fun W hW => ⟨Lib.cell_of_heap (h.moved hW).tab 1, fun n hn => (h.moved hW).file hn⟩
  have HC := Lib.hid (clone_strs D ao c (by omega) hz w hrow)
  have HDir := Lib.hid (fun W => dir_lit fr (by omega) d0.data.toList hd0 W)
  have hd0e : (⟨d0.data.toList.toArray⟩ : ByteArray) = d0 := str_lit rfl
  rw [hd0e] at HDir
  obtain ⟨n, hn⟩ : ∃ n, n = D.length := ⟨_, rfl⟩
  have HN : Hid (D.length = n) := Lib.hid hn.symm
  have hn100 : n ≤ 100 := by omega
  rw [← hn] at hc c0 HC
  obtain ⟨E, hE⟩ : ∃ E, E = withDir q d0 D := ⟨_, rfl⟩
  rw [← hE]
  have hEs : Hid (∀ d ∈ E, d.size ≤ 1000) := Lib.hid (by
    intro d hd
    rw [hE] at hd
    unfold withDir at hd
    split at hd
    · rcases List.mem_cons.1 hd with rfl | hd
      · exact hd0s
      · exact hD.2 d hd
    · exact hD.2 d hd)
  obtain ⟨R, hR⟩ : ∃ R, R = foundL nm.data.toList F E := ⟨_, rfl⟩
  rw [← hR]
  replace hR := Lib.hid hR
  replace hE := Lib.hid hE
  replace hrow := Lib.hid hrow
  replace hz := Lib.hid hz
  clear h hn hd0e hd0 hD
  go_enter Tryd.func13, Tryd.ntmps13
  go_upto_if 23 with fail
  go_cut [10] from 24 to 29 (fun v10 wx => ∃ (ao2 : Option Addr) (n2 c2 : Nat), v10 = .slice ao2 n2 c2 ∧ n2 ≤ c2 ∧ n2 ≤ 101 ∧ Hid (E.length = n2) ∧ Hid (Row wx 1 ao2 (strsB E)) ∧ Hid (Below w.heap.size w wx))
  case first =>
    cases q with
    | false =>
      go_wp2_with fail
      go_meet
      exact ⟨ao, n, c, rfl, hc, by omega, Lib.hid (by rw [hE.out]; exact HN.out), Lib.hid (by rw [hE.out]; exact hrow.out), Lib.hid (Below.refl _ _)⟩
    | true =>
      go_wp2_with fail
      refine HC.out.mono ?_
      rintro e w1 ⟨v1, rfl, ho, b1⟩
      obtain ⟨lo, lc, rfl, hlc, hlm, _, _⟩ := ho.rown (n := n) (by simp [strsB, HN.out])
      have hlo : ∀ a, lo = some a → a.block ≠ w1.heap.size := by
        intro a ha e
        obtain ⟨cc, fz, h1⟩ := ho.size_lt a.block (by rw [ha]; rfl)
        have := lt_of_block h1
        omega
      have HI := Lib.hid (insert0 D d0 (w1.alloc (.cells #[.string d0] 9)) (ho.alloc _) HN.out (heap_alloc_new w1 _) hlo (by omega) (by have := b1.size; simp; omega))
      replace ho := Lib.hid ho
      replace b1 := Lib.hid b1
      clear hlo
      go_wp2_with fail
      refine (HDir.out _).mono ?_
      rintro e w' ⟨rfl, hw'⟩
      replace hw' := hw'.symm
      subst hw'
      go_wp2_with fail
      refine HI.out.mono ?_
      rintro e w2 ⟨ao2, c2, rfl, hc2, hr2, b2⟩
      have hb2 := Lib.hid ((b1.out.alloc b1.out.size _).trans b2)
      replace hr2 := Lib.hid hr2
      clear b2
      go_wp2_with fail
      go_meet
      exact ⟨ao2, n + 1, c2, rfl, hc2, by omega, Lib.hid (by rw [hE.out]; show (d0 :: D).length = n + 1; rw [List.length_cons, HN.out]), Lib.hid (by rw [hE.out]; exact hr2.out), hb2⟩
  case rest =>
    obtain ⟨ao2, n2, c2, rfl, hc2, hn2, HE, hrE, hbE⟩ := hcut
    clear HC HDir c0 hrow hz
    go_wp2_with fail
    go_loopg [12, 13, 14, 15, 16, 32] n2 (fun qq v12 v13 v14 v15 v16 v32 wx => ∃ k : Nat, qq = n2 - k ∧ k ≤ n2 ∧ v32 = .int .i64 k ∧ Hid (foundL nm.data.toList F (E.drop k) = R) ∧ Hid (Row wx 1 ao2 (strsB E)) ∧ Hid (Below w.heap.size w wx))
    case atStart => exact ⟨0, rfl, Nat.zero_le _, rfl, Lib.hid hR.out.symm, hrE, hbE⟩
    case round =>
      obtain ⟨k, hq, hk, rfl, hfd, hrE, hbE⟩ := hrel
      replace hq := hq.symm
      subst hq
      by_cases hkn : k < n2
      · have hkn' : (k : Int) < n2 := by omega
        have f4 : Hid (n2 - (k + 1) < n2 - k) := Lib.hid (by omega)
        have g1 : IntKind.i64.wrap ((k : Int) + 1) = (k : Int) + 1 := IntWalk.i64_in _ (by omega)
        obtain ⟨d, hd⟩ : ∃ d, E[k]? = some d := ⟨_, List.getElem?_eq_getElem (by rw [HE.out]; exact hkn)⟩
        have hds := hEs.out d (List.mem_of_getElem? hd)
        obtain ⟨rb, o, rfl, hat⟩ := hrE.out (by intro h; unfold strsB at h; simp at h; subst h; simp at hd)
        have x0 := strRow_cell hat hd
        have hstep := found_drop (nm := nm.data.toList) (F := F) hd
        rw [hfd.out] at hstep
        unfold hitL at hstep
        clear hat hfd hd
        cases ho : joinedP d.data.toList nm.data.toList with
        | none =>
          rw [ho] at hstep
          have HJ := Lib.hid (pjoin_res d nm (by omega) none ho wr)
          replace ho := Lib.hid ho
          replace hstep := Lib.hid hstep
          unfold resV at HJ
          go_wp2_with fail
          refine HJ.out.mono ?_
          rintro e w1 ⟨rfl, b1⟩
          have hb1 := hbE.out.trans (b1.mono hbE.out.size)
          obtain ⟨c1, hl⟩ := HF.out w1 hb1
          have hl1 := hl ⟨#[]⟩ (by decide)
          have hr1 := Lib.hid (hrE.out.below b1)
          replace hb1 := Lib.hid hb1
          clear hl b1
          generalize ((fileOf F ⟨#[]⟩).map fun q => Value.pointer (some ⟨q.1, 0, none⟩)).getD (.pointer none) = v at hl1
          generalize (fileOf F ⟨#[]⟩).isSome = bb at hl1
          cases bb
          all_goals
            go_wp2_with fail
            go_roundg (n2 - (k + 1))
            case measure => exact f4.out
            case rel => exact ⟨k + 1, rfl, by omega, rfl, Lib.hid hstep.out.symm, hr1, hb1⟩
        | some l =>
          rw [ho] at hstep
          have hv := joined_valid ho
          have HJ := Lib.hid (pjoin_res d nm (by omega) (some l) ho wr)
          replace ho := Lib.hid ho
          unfold resV at HJ
          have hls : (⟨l.toArray⟩ : ByteArray).size ≤ maxLen := by
            have := hv.1
            show l.toArray.size ≤ maxLen
            rw [List.size_toArray]
            unfold maxLen
            omega
          simp only at hstep
          clear hv
          go_wp2_with fail
          refine HJ.out.mono ?_
          rintro e w1 ⟨rfl, b1⟩
          have hb1 := hbE.out.trans (b1.mono hbE.out.size)
          obtain ⟨c1, hl⟩ := HF.out w1 hb1
          have hl1 := hl ⟨l.toArray⟩ hls
          have hr1 := Lib.hid (hrE.out.below b1)
          replace hb1 := Lib.hid hb1
          clear hl b1
          generalize ((fileOf F ⟨l.toArray⟩).map fun q => Value.pointer (some ⟨q.1, 0, none⟩)).getD (.pointer none) = v at hl1
          generalize (fileOf F ⟨l.toArray⟩).isSome = bb at hl1 hstep
          cases bb with
          | false =>
            have hstep' := Lib.hid hstep
            clear hstep
            go_wp2_with fail
            go_roundg (n2 - (k + 1))
            case measure => exact f4.out
            case rel => exact ⟨k + 1, rfl, by omega, rfl, Lib.hid (by have := hstep'.out; simpa using this.symm), hr1, hb1⟩
          | true =>
            have hR2 : R = some ⟨l.toArray⟩ := by simpa using hstep
            clear hstep
            replace hR2 := Lib.hid hR2
            go_wp2
            go_ret2
            rw [hR2.out]
            exact ⟨rfl, hb1.out⟩
      · obtain rfl : k = n2 := by omega
        have hkn' : ¬ (k : Int) < (k : Int) := by omega
        have hR2 : Hid (R = none) := Lib.hid (by
          rw [← hfd.out, List.drop_eq_nil_of_le (by rw [HE.out]; exact Nat.le_refl _)]
          rfl)
        go_wp2
        go_ret2
        rw [hR2.out]
        exact ⟨rfl, hbE.out⟩
end Go.Proofs.YtekbilieddficaaDoor
