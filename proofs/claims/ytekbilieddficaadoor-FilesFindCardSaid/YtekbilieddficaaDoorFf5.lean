/- Files: the document's Find. -/
import Derived.Test.YtekbilieddficaaDoorFf4
namespace Go.Proofs.YtekbilieddficaaDoor
open Go.RowKit
set_option linter.unusedVariables false

/-- what the document's table finds beside a directory -/
def hitR (nm : List UInt8) (P : List ByteArray) (d : ByteArray) : Option ByteArray :=
  match joinedP d.data.toList nm with
  | some l => if hasB P ⟨l.toArray⟩ then some ⟨l.toArray⟩ else none
  | none => none

def foundR (nm : List UInt8) (P : List ByteArray) : List ByteArray → Option ByteArray
  | [] => none
  | d :: D => match hitR nm P d with | some r => some r | none => foundR nm P D

theorem foundR_drop {nm : List UInt8} {P : List ByteArray} {D : List ByteArray} {k : Nat} {d : ByteArray} (h : D[k]? = some d) : foundR nm P (D.drop k) = match hitR nm P d with | some r => some r | none => foundR nm P (D.drop (k + 1)) := by
  have hlt := (List.getElem?_eq_some_iff.1 h).1
  rw [← List.getElem_cons_drop hlt, (List.getElem?_eq_some_iff.1 h).2]
  rfl

theorem foundR_L {nm : List UInt8} {P : List ByteArray} {F : List (ByteArray × Nat × RT)} (h : ∀ n, (fileOf F n).isSome = hasB P n) (D : List ByteArray) : foundL nm F D = foundR nm P D := by
  induction D with
  | nil => rfl
  | cons d D ih =>
    have : hitL nm F d = hitR nm P d := by
      unfold hitL hitR
      cases joinedP d.data.toList nm with
      | none => rfl
      | some l => simp only [h]
    show (match hitL nm F d with | some r => some r | none => foundL nm F D) = (match hitR nm P d with | some r => some r | none => foundR nm P D)
    rw [this, ih]

set_option maxRecDepth 100000 in
set_option maxHeartbeats 2000000 in
theorem rfind_any {B g c : Nat} {ao : Option Addr} {P N D : List ByteArray} (w : World) (h : RTab w B g (.slice ao D.length c) P N) (hr : RiseB P) (hP : P.length ≤ 1000) (hc : D.length ≤ c) (hrow : Row w 1 ao (strsB D)) (hz : ao = none → c = 0)
    (hD : D.length ≤ 100 ∧ ∀ d ∈ D, d.size ≤ 1000) (fr nm : ByteArray) (hfr : fr.size ≤ 1000) (hnm : nm.size ≤ 1000) (q : Bool) (d0 : ByteArray) (hd0 : DirOf fr.data.toList d0.data.toList) (hd0s : d0.size ≤ 1000) :
    Calls Tryd.prog 14 #[.pointer (some ⟨g, 0, none⟩), .string fr, .string nm, .bool q] w fun e w' => e = .returned (findV (foundR nm.data.toList P (withDir q d0 D))) ∧ Below w.heap.size w w' := by
  have HDir := Lib.hid (fun W => (rdir_any fr (by omega) W).mono fun e w' (hx : (∃ r : ByteArray, e = .returned (.string r) ∧ DirOf fr.data.toList r.data.toList) ∧ w' = W) => show e = .returned (.string d0) ∧ w' = W from by
    obtain ⟨⟨r, h1, h2⟩, h3⟩ := hx
    exact ⟨by rw [h1, ba_eqR (h2.same hd0)], h3⟩)
  have hA : Hid (∀ W s, Below w.heap.size w W → Calls Tryd.prog 31 #[.pointer (some ⟨g, 0, none⟩), .string s] W fun e w' => (∃ k : Nat, e = .returned (.tuple #[.int .i64 k, .bool (hasB P s)])) ∧ Below W.heap.size W w') := Lib.hid fun W s hW => (rat_any W (h.moved hW) hP s).mono fun e w' hx => by
    obtain ⟨⟨k, b, h1, _, h2, h3, h4⟩, h5⟩ := hx
    refine ⟨⟨k, ?_⟩, h5⟩
    rw [rise_at hr h2 h3] at h4
    have : b = hasB P s := by
      cases b with
      | false => exact (hasB_false fun h => by simpa using h4.2 h).symm
      | true => exact (hasB_true.2 (h4.1 rfl)).symm
    rw [h1, this]
  obtain ⟨lv, nv, tv, hg, _, _, _⟩ := h.tab
  have c0 := Lib.cell_of_heap hg 0
  obtain ⟨n, hn⟩ : ∃ n, n = D.length := ⟨_, rfl⟩
  have HN : Hid (D.length = n) := Lib.hid hn.symm
  have hn100 : n ≤ 100 := by omega
  rw [← hn] at hc c0
  obtain ⟨E, hE⟩ : ∃ E, E = withDir q d0 D := ⟨_, rfl⟩
  rw [← hE]
  have hEs : Hid (∀ d ∈ E, d.size ≤ 1000) := Lib.hid (by
    intro d hd
    rw [hE] at hd
    unfold withDir at hd
    split at hd
    · rcases List.mem_cons.1 hd with rfl | hd
      · exact hd0s
      · exact hD.2 d hd
    · exact hD.2 d hd)
  obtain ⟨R, hR⟩ : ∃ R, R = foundR nm.data.toList P E := ⟨_, rfl⟩
  rw [← hR]
  replace hR := Lib.hid hR
  replace hE := Lib.hid hE
  replace hz := Lib.hid hz
  have HF : Hid (∀ W, Below w.heap.size w W → W.cell? ⟨g, 0, none⟩ = some (.slice ao n c) ∧ Row W 1 ao (strsB D)) := Lib.hid fun W hW => ⟨kept_cell hW c0, hrow.below hW⟩
  have hlD : Hid ((strsB D).length = n) := Lib.hid (by unfold strsB; rw [List.length_map, HN.out])
  clear h hn hd0 hD hg hrow c0 hr
  go_enter Tryd.func14, Tryd.ntmps14
  obtain ⟨E0, hE0⟩ : ∃ E0, E0 = (if q then [d0] else ([] : List ByteArray)) := ⟨_, rfl⟩
  have hEE : Hid (E = E0 ++ D) := Lib.hid (by rw [hE.out, hE0]; unfold withDir; cases q <;> rfl)
  have hl0 : E0.length ≤ 1 := by rw [hE0]; split <;> simp
  replace hE0 := Lib.hid hE0
  replace hl0 := Lib.hid hl0
  go_upto_if 16 with fail
  go_cut [10] from 17 to 21 (fun v10 wx => Hid (Own wx w.heap.size 9 1 v10 (strsB E0)) ∧ Hid (Below w.heap.size w wx))
  case first =>
    cases q with
    | false =>
      go_wp2_with fail
      go_meet
      exact ⟨Lib.hid (by rw [hE0.out]; exact Own.nil _ _ _ _), Lib.hid (Below.refl _ _)⟩
    | true =>
      go_wp2_with fail
      refine (HDir.out _).mono ?_
      rintro e w' ⟨rfl, hw'⟩
      replace hw' := hw'.symm
      subst hw'
      go_wp2_with (at_builtin; go_must (refine wpList_append1 Ef9 rfl rfl (Own.nil w w.heap.size _ _) rfl rfl (news := [.string d0]) (by simp) rfl (by simp [Value.oneCell']) (by simp) (by decide) (Nat.le_refl _) ?_); intro v3 w3 hown3 hg3)
      have hb3 : Below w.heap.size w w3 := bapp (Below.refl _ w) (Own.nil w w.heap.size 9 1) hg3 (Nat.le_refl _)
      go_meet
      exact ⟨Lib.hid (by rw [hE0.out]; exact hown3), Lib.hid hb3⟩
  case rest =>
    obtain ⟨ho0, hb0⟩ := hcut
    rename World => w3
    obtain ⟨d1, hr1⟩ := HF.out w3 hb0.out
    have hs3 := hb0.out.size
    have hlE0 : Hid ((strsB E0).length ≤ 1) := Lib.hid (by unfold strsB; rw [List.length_map]; exact hl0.out)
    obtain ⟨n2, hn2⟩ : ∃ n2, n2 = E.length := ⟨_, rfl⟩
    have hlE : Hid ((strsB E0 ++ strsB D).length = n2) := Lib.hid (by rw [hn2, hEE.out]; unfold strsB; rw [← List.map_append, List.length_map])
    have HE : Hid (E.length = n2) := Lib.hid hn2.symm
    have hn2b : n2 ≤ 101 := by rw [hn2, hEE.out, List.length_append, HN.out]; have := hl0.out; omega
    clear hn2
    go_wp2_with (at_builtin; go_must (refine wpList_appendN Ef9 rfl rfl ho0.out rfl rfl hlD.out hz.out hr1 strsB_one strsB_cell (by have := hlE0.out; omega) (by decide) hs3 ?_); intro v4 w4 hown4 hg4; have hb4 : Below w.heap.size w w4 := bapp hb0.out ho0.out hg4 hs3; obtain ⟨ao2, c2, rfl, hc2, hlm, hrw, _⟩ := hown4.rown (n := n2) hlE.out; go_upto_block 5 with fail)
    have hrE : Hid (Row w4 1 ao2 (strsB E)) := Lib.hid (by rw [hEE.out]; unfold strsB at hrw ⊢; rw [List.map_append]; exact hrw)
    have hbE := Lib.hid hb4
    clear hrw hown4 hg4 hb4 d1 hr1 ho0 hb0 HDir hz
    go_wp2_with fail
    go_loopg [11, 12, 13, 14, 15] n2 (fun qq v11 v12 v13 v14 v15 wx => ∃ k : Nat, qq = n2 - k ∧ k ≤ n2 ∧ v11 = .int .i64 k ∧ Hid (foundR nm.data.toList P (E.drop k) = R) ∧ Hid (Row wx 1 ao2 (strsB E)) ∧ Hid (Below w.heap.size w wx))
    case atStart => exact ⟨0, rfl, Nat.zero_le _, rfl, Lib.hid hR.out.symm, hrE, hbE⟩
    case round =>
      obtain ⟨k, hq, hk, rfl, hfd, hrE, hbE⟩ := hrel
      replace hq := hq.symm
      subst hq
      by_cases hkn : k < n2
      · have hkn' : (k : Int) < n2 := by omega
        have f4 : Hid (n2 - (k + 1) < n2 - k) := Lib.hid (by omega)
        have g1 : IntKind.i64.wrap ((k : Int) + 1) = (k : Int) + 1 := IntWalk.i64_in _ (by omega)
        obtain ⟨d, hd⟩ : ∃ d, E[k]? = some d := ⟨_, List.getElem?_eq_getElem (by rw [HE.out]; exact hkn)⟩
        have hds := hEs.out d (List.mem_of_getElem? hd)
        obtain ⟨rb, o, rfl, hat⟩ := hrE.out (by intro h; unfold strsB at h; simp at h; subst h; simp at hd)
        have x0 := strRow_cell hat hd
        have hstep := foundR_drop (nm := nm.data.toList) (P := P) hd
        rw [hfd.out] at hstep
        unfold hitR at hstep
        clear hat hfd hd
        cases ho : joinedP d.data.toList nm.data.toList with
        | none =>
          rw [ho] at hstep
          have HJ := Lib.hid (rjoin_res d nm (by omega) none ho wr)
          replace ho := Lib.hid ho
          replace hstep := Lib.hid hstep
          unfold resV at HJ
          go_wp2_with fail
          refine HJ.out.mono ?_
          rintro e w1 ⟨rfl, b1⟩
          have hb1 := hbE.out.trans (b1.mono hbE.out.size)
          have hr1 := Lib.hid (hrE.out.below b1)
          replace hb1 := Lib.hid hb1
          clear b1
          go_wp2_with fail
          go_roundg (n2 - (k + 1))
          case measure => exact f4.out
          case rel => exact ⟨k + 1, rfl, by omega, rfl, Lib.hid hstep.out.symm, hr1, hb1⟩
        | some l =>
          rw [ho] at hstep
          have HJ := Lib.hid (rjoin_res d nm (by omega) (some l) ho wr)
          replace ho := Lib.hid ho
          unfold resV at HJ
          simp only at hstep
          go_wp2_with fail
          refine HJ.out.mono ?_
          rintro e w1 ⟨rfl, b1⟩
          have hb1 := hbE.out.trans (b1.mono hbE.out.size)
          have HA1 := hA.out w1 ⟨l.toArray⟩ hb1
          have hr1 := Lib.hid (hrE.out.below b1)
          replace hb1 := Lib.hid hb1
          clear b1
          generalize hasB P ⟨l.toArray⟩ = bb at HA1 hstep
          replace HA1 := Lib.hid HA1
          cases bb with
          | false =>
            have hstep' := Lib.hid hstep
            clear hstep
            go_wp2_with fail
            refine HA1.out.mono ?_
            rintro e w2 ⟨⟨kk, rfl⟩, b2⟩
            have hb2 := Lib.hid (hb1.out.trans (b2.mono hb1.out.size))
            have hr2 := Lib.hid (hr1.out.below b2)
            clear b2
            go_wp2_with fail
            go_roundg (n2 - (k + 1))
            case measure => exact f4.out
            case rel => exact ⟨k + 1, rfl, by omega, rfl, Lib.hid (by have := hstep'.out; simpa using this.symm), hr2, hb2⟩
          | true =>
            have hR2 : R = some ⟨l.toArray⟩ := by simpa using hstep
            clear hstep
            replace hR2 := Lib.hid hR2
            go_wp2_with fail
            refine HA1.out.mono ?_
            rintro e w2 ⟨⟨kk, rfl⟩, b2⟩
            have hb2 := Lib.hid (hb1.out.trans (b2.mono hb1.out.size))
            clear b2
            go_wp2
            go_ret2
            exact ⟨by rw [hR2.out]; rfl, hb2.out⟩
      · obtain rfl : k = n2 := by omega
        have hkn' : ¬ (k : Int) < (k : Int) := by omega
        have hR2 : Hid (R = none) := Lib.hid (by
          have := hfd.out
          rw [List.drop_eq_nil_of_le (by rw [HE.out]; exact Nat.le_refl _)] at this
          exact this.symm)
        go_wp2
        go_ret2
        exact ⟨by rw [hR2.out]; rfl, hbE.out⟩
end Go.Proofs.YtekbilieddficaaDoor
