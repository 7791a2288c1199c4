/- oxbowref4's punct. -/
import Derived.Test.YthbicbfdldpemaaLx4
namespace Go.Proofs.Ythbicbfdldpemaa
open Go.RowKit
set_option linter.unusedVariables false

set_option maxHeartbeats 2000000 in
set_option maxRecDepth 100000 in
theorem rpunct_any (R : List Rn) (ao : Option Addr) (cap i : Nat) (hn : R.length ≤ 1000001) (hi : i ≤ 1000003) (w : World) (hrow : Row w 3 ao (R.map Rn.v)) :
    Calls Try.prog 81 #[.slice ao R.length cap, .int .i64 i] w fun e w' => e = .returned (.int .i64 (punctL (cs R) i)) ∧ Below w.heap.size w w' := by
  have HR : Hid (∀ w', Below w.heap.size w w' → ∀ k : Nat, Calls Try.prog 75 #[.slice ao R.length cap, .int .i64 k] w' fun e w'' => e = .returned (.int .u8 (chAt (cs R) k).toNat) ∧ w'' = w') := Lib.hid (fun w' hb k => rat_any R ao cap k (by omega) w' (hrow.below hb))
  have HP : Hid (∀ w', Below (w.heap.size + 1) (punW w) w' → ∀ k p, punctsL[k]? = some p → w'.cell? ⟨w.heap.size, k, none⟩ = some (strV p)) := Lib.hid (by
    intro w' hb k p hp
    rw [hb.cell (p := ⟨w.heap.size, k, none⟩) (Nat.lt_succ_self _)]
    exact punW_cell hp)
  obtain ⟨n, hnn⟩ : ∃ n, n = R.length := ⟨_, rfl⟩
  rw [← hnn] at hn HR ⊢
  clear hnn hrow
  go_enter Try.func81, Try.ntmps81
  go_wp2_with fail
  refine (rpuncts_any w).mono ?_
  rintro e w' ⟨rfl, rfl⟩
  go_wp2_with fail
  go_loopg [6] 54 (fun u v w9 => ∃ k : Nat, u = 54 - k ∧ k ≤ 54 ∧ v = .int .i64 k ∧ Hid (punctL (cs R) i = punFrom (cs R) i k) ∧ Below (w.heap.size + 1) (punW w) w9)
  case atStart => exact ⟨0, rfl, by omega, rfl, Lib.hid rfl, Below.refl _ _⟩
  case round =>
    obtain ⟨k, rfl, hk, rfl, hs, hb⟩ := hrel
    by_cases hlt : k < 54
    · obtain ⟨p, hp⟩ : ∃ p, punctsL[k]? = some p := ⟨punctsL[k]'hlt, List.getElem?_eq_getElem hlt⟩
      obtain ⟨pb, hpb⟩ : ∃ pb : ByteArray, pb = ⟨p.toArray⟩ := ⟨_, rfl⟩
      have hpl : pb.size = p.length := by rw [hpb]; rfl
      have hp4 : pb.size ≤ 4 := by rw [hpl]; exact (puncts_ne p (List.mem_of_getElem? hp)).2
      have HPC : Hid (∀ w', Below (w.heap.size + 1) (punW w) w' → w'.cell? ⟨w.heap.size, k, none⟩ = some (.string pb)) := Lib.hid (by
        intro w' hb
        have := HP.out w' hb k p hp
        rw [this, hpb]; rfl)
      have HPG : Hid (∀ j (hj : j < pb.size), p.getD j 0 = pb[j]'hj) := Lib.hid (by
        intro j hj
        subst hpb
        simp [List.getD_eq_getElem?_getD]
        rw [List.getElem?_eq_getElem (by rw [← hpl]; exact hj)]
        rfl)
      have HPP := Lib.hid hp
      have HPL := Lib.hid hpl
      clear hp hpl hpb HP
      go_wp2_with fail
      go_loopg [7] pb.size (fun u v w9 => ∃ j : Nat, u = pb.size - j ∧ j ≤ pb.size ∧ v = .int .i64 j ∧ Hid (∀ m, m < j → chAt (cs R) (i + m) = p.getD m 0) ∧ Below (w.heap.size + 1) (punW w) w9)
      case atStart => exact ⟨0, rfl, Nat.zero_le _, rfl, Lib.hid (fun m hm => (Nat.not_lt_zero _ hm).elim), hb⟩
      case round =>
        obtain ⟨j, rfl, hj, rfl, hall, hb2⟩ := hrel
        have c0 := HPC.out _ hb2
        by_cases hjl : j < pb.size
        · have hji : (j : Int) < (pb.size : Int) := by omega
          have HA := fun nq => HR.out (wr.drewN nq) (below_drewN ((punW_below w).trans (hb2.mono (Nat.le_succ _))) nq) (i + j)
          rw [show ((i + j : Nat) : Int) = (i : Int) + j by omega] at HA
          have HG := HPG.out j hjl
          obtain ⟨x, hx⟩ : ∃ x : Int, x = ((chAt (cs R) (i + j)).toNat : Int) := ⟨_, rfl⟩
          rw [← hx] at HA
          replace HA := Lib.hid HA
          by_cases hm : x = ((pb[j]'hjl).toNat : Int)
          · have hm' : (x == ((pb[j]'hjl).toNat : Int)) = true := by simpa using hm
            have hnew : chAt (cs R) (i + j) = p.getD j 0 := by rw [HG]; exact (u8eq _ _).2 (hx.symm.trans hm)
            replace hnew := Lib.hid hnew
            clear hx HG
            go_wp2_with fail
            go_quiet (first | (go_at_call 75; exact Calls.quiet_of_same (HA.out _)))
            go_wp2_with fail
            go_roundg (pb.size - (j + 1))
            case measure => omega
            case rel =>
              refine ⟨j + 1, rfl, by omega, by go_num, Lib.hid ?_, below_drewN hb2 nq⟩
              intro m hmj
              by_cases hmm : m = j
              · subst hmm; exact hnew.out
              · exact hall.out m (by omega)
          · have hm' : (x == ((pb[j]'hjl).toNat : Int)) = false := by simpa using hm
            have hnew : chAt (cs R) (i + j) ≠ p.getD j 0 := by rw [HG]; intro e; exact hm (hx.trans ((u8eq _ _).1 e))
            replace hnew := Lib.hid (punFrom_miss HPP.out (by rw [← HPL.out]; exact hjl) hnew)
            have hjs : ((j : Int) == (pb.size : Int)) = false := by simp; omega
            clear hx HG
            go_wp2_with fail
            go_quiet (first | (go_at_call 75; exact Calls.quiet_of_same (HA.out _)))
            go_wp2_with fail
            go_roundg (54 - (k + 1))
            case measure => omega
            case rel => exact ⟨k + 1, rfl, by omega, by go_num, Lib.hid (hs.out.trans hnew.out), below_drewN hb2 nq⟩
        · have hjf : decide ((j : Int) < (pb.size : Int)) = false := decide_eq_false (by omega)
          have hje : j = pb.size := by omega
          have hjs : ((j : Int) == (pb.size : Int)) = true := by simp; omega
          have hres : Hid (punctL (cs R) i = j) := Lib.hid (by
            rw [hs.out, punFrom_hit HPP.out (fun m hm => hall.out m (by rw [hje, HPL.out]; exact hm)), hje, HPL.out])
          replace hje := Lib.hid hje
          go_wp2_with fail
          go_quiet (fail)
          go_wp2_with fail
          go_ret
          refine ⟨by rw [hres.out]; rfl, ?_⟩
          exact (punW_below w).trans ((below_drewN hb2 nq).mono (Nat.le_succ _))
    · obtain rfl : k = 54 := by omega
      have hres : Hid (punctL (cs R) i = 0) := Lib.hid (by rw [hs.out, punFrom_end])
      go_wp2_with fail
      go_ret
      exact ⟨by rw [hres.out]; rfl, (punW_below w).trans (hb.mono (Nat.le_succ _))⟩
end Go.Proofs.Ythbicbfdldpemaa
