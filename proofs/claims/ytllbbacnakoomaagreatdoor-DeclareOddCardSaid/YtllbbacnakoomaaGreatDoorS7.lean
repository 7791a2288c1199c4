/- Texts of this seat's proofs, laid into one file. -/
import Derived.Test.YtllbbacnakoomaaGreatDoorS6
import Derived.Deep.QuietTactic
set_option maxRecDepth 100000
set_option maxHeartbeats 16000000
namespace Go.Proofs.YtllbbacnakoomaaGreatDoor
open Go.RowKit
set_option linter.unusedVariables false
def strV (p : List UInt8) : Value := .string ⟨p.toArray⟩
def punW (w : World) : World := w.alloc (.cells (punctsL.map strV).toArray 9)
theorem punW_size (w : World) : (punW w).heap.size = w.heap.size + 1 := by simp [punW]
theorem punW_below (w : World) : Below w.heap.size w (punW w) := (Below.refl _ w).alloc (Nat.le_refl _) _
theorem punW_cell {w : World} {k : Nat} {p : List UInt8} (h : punctsL[k]? = some p) : (punW w).cell? ⟨w.heap.size, k, none⟩ = some (strV p) := cell_new w _ _ (by simp [h])
theorem rpuncts_any (w : World) : Calls Tryz.prog 184 #[] w fun e w' => e = .returned (.slice (some ⟨w.heap.size, 0, none⟩) 54 54) ∧ w' = punW w := by
 go_enter Tryz.func184, Tryz.ntmps184
 go_wp2
 go_ret
 exact ⟨rfl, rfl⟩
theorem pref_iff (A : List UInt8) : ∀ (p : List UInt8) (i : Nat), (∀ c ∈ p, c ≠ 0) → (p.isPrefixOf (A.drop i) = true ↔ ∀ j, j < p.length → chAt A (i + j) = p.getD j 0) := by
 intro p
 induction p with
 | nil => intro i _; simp
 | cons c p ih =>
   intro i h0
   have hc : c ≠ 0 := h0 c (by simp)
   have ih := ih (i + 1) (fun d hd => h0 d (by simp [hd]))
   by_cases hi : i < A.length
   ·rw [drop_at hi, List.isPrefixOf, Bool.and_eq_true, ih, beq_iff_eq]
    constructor
    ·rintro ⟨h1, h2⟩ j hj
     cases j with
     | zero => simpa using h1.symm
     | succ j => have := h2 j (by simpa using hj); rw [Nat.add_assoc, Nat.add_comm 1 j] at this; simpa using this
    ·intro h
     refine ⟨by simpa using (h 0 (by simp)).symm, fun j hj => ?_⟩
     have := h (j + 1) (by simpa using hj)
     rw [Nat.add_assoc, Nat.add_comm 1 j]
     simpa using this
   ·rw [List.drop_eq_nil_of_le (by omega)]
    constructor
    ·intro h; simp [List.isPrefixOf] at h
    ·intro h
     have := h 0 (by simp)
     rw [chAt_ge (by omega)] at this
     exact (hc (by simpa using this.symm)).elim
theorem puncts_ne : ∀ p ∈ punctsL, (∀ c ∈ p, c ≠ 0) ∧ p.length ≤ 4 := by decide
def punFrom (A : List UInt8) (i k : Nat) : Nat := (((punctsL.drop k).find? fun p => p.isPrefixOf (A.drop i)).map List.length).getD 0
theorem punFrom_zero (A : List UInt8) (i : Nat) : punctL A i = punFrom A i 0 := rfl
theorem punFrom_end (A : List UInt8) (i : Nat) : punFrom A i 54 = 0 := by
 have : punctsL.drop 54 = [] := by decide
 simp [punFrom, this]
theorem punFrom_hit {A : List UInt8} {i k : Nat} {p : List UInt8} (hp : punctsL[k]? = some p) (h : ∀ j, j < p.length → chAt A (i + j) = p.getD j 0) : punFrom A i k = p.length := by
 obtain ⟨hk, rfl⟩ := List.getElem?_eq_some_iff.1 hp
 have := (pref_iff A punctsL[k] i (puncts_ne _ (List.getElem_mem hk)).1).2 h
 unfold punFrom
 rw [List.drop_eq_getElem_cons hk, List.find?_cons, this]
 rfl
theorem punFrom_miss {A : List UInt8} {i k : Nat} {p : List UInt8} (hp : punctsL[k]? = some p) {j : Nat} (hj : j < p.length) (h : chAt A (i + j) ≠ p.getD j 0) : punFrom A i k = punFrom A i (k + 1) := by
 obtain ⟨hk, rfl⟩ := List.getElem?_eq_some_iff.1 hp
 have : ¬ (punctsL[k].isPrefixOf (A.drop i) = true) := fun hh => h ((pref_iff A punctsL[k] i (puncts_ne _ (List.getElem_mem hk)).1).1 hh j hj)
 unfold punFrom
 rw [List.drop_eq_getElem_cons hk, List.find?_cons]
 simp only [this]
end Go.Proofs.YtllbbacnakoomaaGreatDoor
namespace Go.Proofs.YtllbbacnakoomaaGreatDoor
open Go.RowKit
set_option linter.unusedVariables false
theorem below_drN {B : Nat} {a w : World} (h : Below B a w) (n : Nat) : Below B a (w.drewN n) := ⟨h.os, h.tape, h.output, h.size, h.block⟩
theorem rpunct_any (R : List Rn) (ao : Option Addr) (cap i : Nat) (hn : R.length ≤ 1000001) (hi : i ≤ 1000003) (w : World) (hrow : Row w 3 ao (R.map Rn.v)) :
 Calls Tryz.prog 147 #[.slice ao R.length cap, .int .i64 i] w fun e w' => e = .returned (.int .i64 (punctL (cs R) i)) ∧ Below w.heap.size w w' := by
 have HR : Hid (∀ w', Below w.heap.size w w' → ∀ k : Nat, Calls Tryz.prog 141 #[.slice ao R.length cap, .int .i64 k] w' fun e w'' => e = .returned (.int .u8 (chAt (cs R) k).toNat) ∧ w'' = w') := Hd (fun w' hb k => rat_any R ao cap k (by omega) w' (hrow.below hb))
 have HP : Hid (∀ w', Below (w.heap.size + 1) (punW w) w' → ∀ k p, punctsL[k]? = some p → w'.cell? ⟨w.heap.size, k, none⟩ = some (strV p)) := Hd (by
  intro w' hb k p hp
  rw [hb.cell (p := ⟨w.heap.size, k, none⟩) (Nat.lt_succ_self _)]
  exact punW_cell hp)
 obtain ⟨n, hnn⟩ : ∃ n, n = R.length := ⟨_, rfl⟩
 rw [← hnn] at hn HR ⊢
 clear hnn hrow
 go_enter Tryz.func147, Tryz.ntmps147
 go_wp2_with fail
 refine (rpuncts_any w).mono ?_
 rintro e w' ⟨rfl, rfl⟩
 go_wp2_with fail
 go_loopg [6] 54 (fun u v w9 => ∃ k : Nat, u = 54 - k ∧ k ≤ 54 ∧ v = .int .i64 k ∧ Hid (punctL (cs R) i = punFrom (cs R) i k) ∧ Below (w.heap.size + 1) (punW w) w9)
 case atStart => exact ⟨0, rfl, by omega, rfl, Hd rfl, Below.refl _ _⟩
 case round =>
  obtain ⟨k, rfl, hk, rfl, hs, hb⟩ := hrel
  by_cases hlt : k < 54
  ·obtain ⟨p, hp⟩ : ∃ p, punctsL[k]? = some p := ⟨punctsL[k]'hlt, List.getElem?_eq_getElem hlt⟩
   obtain ⟨pb, hpb⟩ : ∃ pb : ByteArray, pb = ⟨p.toArray⟩ := ⟨_, rfl⟩
   have hpl : pb.size = p.length := by rw [hpb]; rfl
   have hp4 : pb.size ≤ 4 := by rw [hpl]; exact (puncts_ne p (List.mem_of_getElem? hp)).2
   have HPC : Hid (∀ w', Below (w.heap.size + 1) (punW w) w' → w'.cell? ⟨w.heap.size, k, none⟩ = some (.string pb)) := Hd (by
    intro w' hb
    have := HP.out w' hb k p hp
    rw [this, hpb]; rfl)
   have HPG : Hid (∀ j (hj : j < pb.size), p.getD j 0 = pb[j]'hj) := Hd (by
    intro j hj
    subst hpb
    simp [List.getD_eq_getElem?_getD]
    rw [List.getElem?_eq_getElem (by rw [← hpl]; exact hj)]
    rfl)
   have HPP := Hd hp
   have HPL := Hd hpl
   clear hp hpl hpb HP
   go_wp2_with fail
   go_loopg [7] pb.size (fun u v w9 => ∃ j : Nat, u = pb.size - j ∧ j ≤ pb.size ∧ v = .int .i64 j ∧ Hid (∀ m, m < j → chAt (cs R) (i + m) = p.getD m 0) ∧ Below (w.heap.size + 1) (punW w) w9)
   case atStart => exact ⟨0, rfl, Nat.zero_le _, rfl, Hd (fun m hm => (Nat.not_lt_zero _ hm).elim), hb⟩
   case round =>
    obtain ⟨j, rfl, hj, rfl, hall, hb2⟩ := hrel
    have c0 := HPC.out _ hb2
    by_cases hjl : j < pb.size
    ·have hji : (j : Int) < (pb.size : Int) := by omega
     have HA := fun nq => HR.out (wr.drewN nq) (below_drN ((punW_below w).trans (hb2.mono (Nat.le_succ _))) nq) (i + j)
     rw [show ((i + j : Nat) : Int) = (i : Int) + j by omega] at HA
     have HG := HPG.out j hjl
     obtain ⟨x, hx⟩ : ∃ x : Int, x = ((chAt (cs R) (i + j)).toNat : Int) := ⟨_, rfl⟩
     rw [← hx] at HA
     replace HA := Hd HA
     by_cases hm : x = ((pb[j]'hjl).toNat : Int)
     ·have hm' : (x == ((pb[j]'hjl).toNat : Int)) = true := by simpa using hm
      have hnew : chAt (cs R) (i + j) = p.getD j 0 := by rw [HG]; exact (u8eq _ _).2 (hx.symm.trans hm)
      replace hnew := Hd hnew
      clear hx HG
      go_wp2_with fail
      go_quiet (first | (go_at_call 141; exact Calls.quiet_of_same (HA.out _)))
      go_wp2_with fail
      go_roundg (pb.size - (j + 1))
      case measure => omega
      case rel =>
       refine ⟨j + 1, rfl, by omega, by go_num, Hd ?_, below_drN hb2 nq⟩
       intro m hmj
       by_cases hmm : m = j
       ·subst hmm; exact hnew.out
       ·exact hall.out m (by omega)
     ·have hm' : (x == ((pb[j]'hjl).toNat : Int)) = false := by simpa using hm
      have hnew : chAt (cs R) (i + j) ≠ p.getD j 0 := by rw [HG]; intro e; exact hm (hx.trans ((u8eq _ _).1 e))
      replace hnew := Hd (punFrom_miss HPP.out (by rw [← HPL.out]; exact hjl) hnew)
      have hjs : ((j : Int) == (pb.size : Int)) = false := by simp; omega
      clear hx HG
      go_wp2_with fail
      go_quiet (first | (go_at_call 141; exact Calls.quiet_of_same (HA.out _)))
      go_wp2_with fail
      go_roundg (54 - (k + 1))
      case measure => omega
      case rel => exact ⟨k + 1, rfl, by omega, by go_num, Hd (hs.out.trans hnew.out), below_drN hb2 nq⟩
    ·have hjf : decide ((j : Int) < (pb.size : Int)) = false := decide_eq_false (by omega)
     have hje : j = pb.size := by omega
     have hjs : ((j : Int) == (pb.size : Int)) = true := by simp; omega
     have hres : Hid (punctL (cs R) i = j) := Hd (by
      rw [hs.out, punFrom_hit HPP.out (fun m hm => hall.out m (by rw [hje, HPL.out]; exact hm)), hje, HPL.out])
     replace hje := Hd hje
     go_wp2_with fail
     go_quiet (fail)
     go_wp2_with fail
     go_ret
     refine ⟨by rw [hres.out]; rfl, ?_⟩
     exact (punW_below w).trans ((below_drN hb2 nq).mono (Nat.le_succ _))
  ·obtain rfl : k = 54 := by omega
   have hres : Hid (punctL (cs R) i = 0) := Hd (by rw [hs.out, punFrom_end])
   go_wp2_with fail
   go_ret
   exact ⟨by rw [hres.out]; rfl, (punW_below w).trans (hb.mono (Nat.le_succ _))⟩
end Go.Proofs.YtllbbacnakoomaaGreatDoor
namespace Go.Proofs.YtllbbacnakoomaaGreatDoor
open Go.RowKit
set_option linter.unusedVariables false
theorem rtext_any (R : List Rn) (ao : Option Addr) (n cap : Nat) (hl : R.length = n) (hn : n ≤ 1000001) (w : World) (hrow : Row w 3 ao (R.map Rn.v)) :
 Calls Tryz.prog 90 #[.slice ao n cap] w fun e w' => e = .returned (.string ⟨(cs R).toArray⟩) ∧ Below w.heap.size w w' := by
 have HL := Hd hl
 clear hl
 go_enter Tryz.func90, Tryz.ntmps90
 go_wp2
 go_loopg [3,4] n (fun u v i wr => ∃ k : Nat, u = n - k ∧ k ≤ n ∧ i = .int .i64 k ∧ Own wr w.heap.size 5 1 v ((cs (R.take k)).map fun c => [.int .u8 c.toNat]) ∧ Below w.heap.size w wr)
 case atStart => exact ⟨0, rfl, Nat.zero_le _, rfl, Own.nil _ _ _ _, Below.refl _ _⟩
 case round =>
  obtain ⟨k, rfl, hk, rfl, hown, hb⟩ := hrel
  have htl : (cs (R.take k)).length ≤ k := by rw [cs_len]; exact List.length_take_le ..
  by_cases hlt : k < n
  ·obtain ⟨r, hr⟩ : ∃ r, R[k]? = some r := ⟨R[k]'(by rw [HL.out]; exact hlt), by simp⟩
   obtain ⟨b, o, rfl, hat⟩ := (hrow.below hb) (by intro h; simp at h; subst h; simp at hr)
   have c0 := hat.cell (i := k) (cs := r.v) (by simp [hr]) (j := 0) (u := .int .u8 r.c.toNat) rfl
   simp only [Nat.add_zero] at c0
   have HS : Hid (cs (R.take (k + 1)) = cs (R.take k) ++ [r.c]) := Hd (by simp [cs, List.take_add_one, hr])
   clear hr hat hrow
   go_wp2_with (at_builtin; go_must (refine wpList_append1 E36 rfl rfl hown rfl rfl (news := [.int .u8 r.c.toNat]) rfl rfl (by simp [Value.oneCell']) (by rw [List.length_map]; omega) (by decide) hb.size ?_); intro v2 w3 hown2 hg2)
   go_roundg (n - (k + 1))
   case measure => omega
   case rel =>
    refine ⟨k + 1, rfl, by omega, by go_num, ?_, bapp hb hown hg2 hb.size⟩
    rw [HS.out, List.map_append]
    exact hown2
  ·have hcv := run_str_own (P := Tryz.prog) hown 115 9 Tryz.underlying115 Tryz.underlying5 Tryz.underlying9
   go_wp2
   go_ret
   refine ⟨?_, hb⟩
   rw [show R.take k = R by rw [List.take_of_length_le]; rw [HL.out]; omega]
   rfl
theorem comI (A : List UInt8) (i : Nat) : commentL A i = if ¬ ((chAt A i).toNat : Int) = 47 then (i, false)
 else if ((chAt A (i + 1)).toNat : Int) = 47 then (i + ((A.drop i).takeWhile (· != 10)).length, false)
 else if ¬ ((chAt A (i + 1)).toNat : Int) = 42 then (i, false)
 else match comEnd (i + 2) (A.drop (i + 2)) with
  | some e => (e, false)
  | none => (A.length, true) := by
 unfold commentL
 simp only [u8eq, ne_eq]
 rfl
theorem com_go (A : List UInt8) (j : Nat) (h : j < A.length) : comEnd j (A.drop j) = if ((chAt A j).toNat : Int) = 42 ∧ ((chAt A (j + 1)).toNat : Int) = 47 then some (j + 2) else comEnd (j + 1) (A.drop (j + 1)) := by
 rw [com_step h]
 simp only [u8eq]
 rfl
theorem line_go (A : List UInt8) (j : Nat) (h : j < A.length) : ((A.drop j).takeWhile (· != 10)).length = if ((chAt A j).toNat : Int) = 10 then 0 else ((A.drop (j + 1)).takeWhile (· != 10)).length + 1 := by
 rw [while_step h]
 have h10 : chAt A j = 10 ↔ ((chAt A j).toNat : Int) = 10 := u8eq _ _
 by_cases hc : chAt A j = 10
 ·rw [if_neg (by simp [hc]), if_pos (h10.1 hc)]
 ·rw [if_pos (by simpa using hc), if_neg (fun h => hc (h10.2 h))]
theorem rcomment_any (R : List Rn) (ao : Option Addr) (cap i : Nat) (hn : R.length ≤ 1000001) (hi : i ≤ R.length) (w : World) (hrow : Row w 3 ao (R.map Rn.v)) :
 Calls Tryz.prog 88 #[.slice ao R.length cap, .int .i64 i] w fun e w' => e = .returned (.tuple #[.int .i64 (commentL (cs R) i).1, .bool (commentL (cs R) i).2]) ∧ w' = w := by
 have H0 := rat_any R ao cap i (by omega) w hrow
 have H1 := rat_any R ao cap (i + 1) (by omega) w hrow
 have HA := fun k => rat_any R ao cap k (by omega) w hrow
 rw [show ((i + 1 : Nat) : Int) = (i : Int) + 1 by omega] at H1
 have HC := comI (cs R) i
 obtain ⟨x, hx⟩ : ∃ x : Int, x = ((chAt (cs R) i).toNat : Int) := ⟨_, rfl⟩
 obtain ⟨y, hy⟩ : ∃ y : Int, y = ((chAt (cs R) (i + 1)).toNat : Int) := ⟨_, rfl⟩
 rw [← hx] at H0 HC
 rw [← hy] at H1 HC
 clear hx hy
 obtain ⟨n, hnn⟩ : ∃ n, n = R.length := ⟨_, rfl⟩
 have HNN : Hid ((cs R).length = n) := Hd (by rw [cs_len, hnn])
 have HN2 : Hid (R.length = n) := Hd hnn.symm
 rw [← hnn] at hn hi H0 H1 HA ⊢
 clear hnn
 replace HC := Hd HC
 replace H0 := Hd H0
 replace H1 := Hd H1
 replace HA := Hd HA
 go_enter Tryz.func88, Tryz.ntmps88
 go_wp2_with fail
 refine H0.out.mono ?_
 rintro e w' ⟨rfl, rfl⟩
 by_cases hx47 : x = 47
 ·subst hx47
  by_cases hy47 : y = 47
  ·subst hy47
   go_wp2_with fail
   refine H1.out.mono ?_
   rintro e w' ⟨rfl, rfl⟩
   have HV : Hid (commentL (cs R) i = (i + (((cs R).drop i).takeWhile (· != 10)).length, false)) := Hd (HC.out.trans (by simp))
   clear HC
   go_wp2_with fail
   go_loopg [6] (n - i) (fun u v w9 => ∃ j : Nat, u = n - j ∧ j ≤ n ∧ v = .int .i64 j ∧ w9 = w' ∧ Hid (i + (((cs R).drop i).takeWhile (· != 10)).length = j + (((cs R).drop j).takeWhile (· != 10)).length))
   case atStart => exact ⟨i, rfl, hi, rfl, rfl, Hd rfl⟩
   case round =>
    obtain ⟨j, rfl, hj, rfl, rfl, hs⟩ := hrel
    by_cases hlt : j < n
    ·have HG := Hd (line_go (cs R) j (by rw [HNN.out]; exact hlt))
     obtain ⟨r, hr⟩ : ∃ r, R[j]? = some r := ⟨R[j]'(by rw [HN2.out]; exact hlt), by simp⟩
     obtain ⟨b, o, rfl, hat⟩ := hrow (by intro h; simp at h; subst h; simp at hr)
     have c0 := hat.cell (i := j) (cs := r.v) (by simp [hr]) (j := 0) (u := .int .u8 r.c.toNat) rfl
     rw [cs_at hr] at HG
     simp only [Nat.add_zero] at c0
     obtain ⟨z, hz⟩ : ∃ z : Int, z = (r.c.toNat : Int) := ⟨_, rfl⟩
     rw [← hz] at HG c0
     clear hz hr hat
     by_cases hz10 : z = 10
     ·subst hz10
      have hv := HG.out.trans (if_pos rfl)
      clear HG
      replace hv := Hd hv
      go_wp2
      go_ret2
      exact ⟨by rw [HV.out, hs.out, hv.out]; rfl, rfl⟩
     ·have hz10' : (z == 10) = false := by simpa using hz10
      have hv := Hd (HG.out.trans (if_neg hz10))
      clear HG
      go_wp2_with fail
      go_roundg (n - (j + 1))
      case measure => omega
      case rel => exact ⟨j + 1, rfl, by omega, by go_num, rfl, Hd (by rw [hs.out, hv.out]; omega)⟩
    ·have hv : (((cs R).drop j).takeWhile (· != 10)).length = 0 := while_end (by rw [HNN.out]; omega)
     replace hv := Hd hv
     go_wp2
     go_ret2
     exact ⟨by rw [HV.out, hs.out, hv.out]; rfl, rfl⟩
  ·have hy47' : (y == 47) = false := by simpa using hy47
   by_cases hy42 : y = 42
   ·subst hy42
    go_wp2_with fail
    refine H1.out.mono ?_
    rintro e w' ⟨rfl, rfl⟩
    have HV : Hid (commentL (cs R) i = match comEnd (i + 2) ((cs R).drop (i + 2)) with | some e => (e, false) | none => (n, true)) := Hd (HC.out.trans (by rw [HNN.out]; simp))
    clear HC
    go_wp2_with fail
    refine H1.out.mono ?_
    rintro e w' ⟨rfl, rfl⟩
    go_wp2_with fail
    go_loopg [7] (n + 4 - (i + 2)) (fun u v w9 => ∃ j : Nat, u = n + 4 - j ∧ 2 ≤ j ∧ j ≤ n + 2 ∧ v = .int .i64 j ∧ w9 = w' ∧ Hid (comEnd (i + 2) ((cs R).drop (i + 2)) = comEnd j ((cs R).drop j)))
    case atStart => exact ⟨i + 2, rfl, by omega, by omega, by go_num, rfl, Hd rfl⟩
    case round =>
     obtain ⟨j, rfl, hj2, hj, rfl, rfl, hs⟩ := hrel
     by_cases hlt : j < n
     ·have HG := Hd (com_go (cs R) j (by rw [HNN.out]; exact hlt))
      have A1 := HA.out (j + 1)
      rw [show ((j + 1 : Nat) : Int) = (j : Int) + 1 by omega] at A1
      obtain ⟨t, ht⟩ : ∃ t : Int, t = ((chAt (cs R) (j + 1)).toNat : Int) := ⟨_, rfl⟩
      rw [← ht] at A1 HG
      replace A1 := Hd A1
      clear ht
      obtain ⟨r, hr⟩ : ∃ r, R[j]? = some r := ⟨R[j]'(by rw [HN2.out]; exact hlt), by simp⟩
      obtain ⟨b, o, rfl, hat⟩ := hrow (by intro h; simp at h; subst h; simp at hr)
      have c0 := hat.cell (i := j) (cs := r.v) (by simp [hr]) (j := 0) (u := .int .u8 r.c.toNat) rfl
      rw [cs_at hr] at HG
      simp only [Nat.add_zero] at c0
      obtain ⟨z, hz⟩ : ∃ z : Int, z = (r.c.toNat : Int) := ⟨_, rfl⟩
      rw [← hz] at HG c0
      clear hz hr hat
      by_cases hz42 : z = 42
      ·subst hz42
       by_cases ht47 : t = 47
       ·subst ht47
        have hv := Hd (HG.out.trans (if_pos ⟨rfl, rfl⟩))
        clear HG
        go_wp2_with fail
        refine A1.out.mono ?_
        rintro e w' ⟨rfl, rfl⟩
        go_wp2
        go_ret2
        exact ⟨by rw [HV.out, hs.out, hv.out]; rfl, rfl⟩
       ·have ht47' : (t == 47) = false := by simpa using ht47
        have hv := Hd (HG.out.trans (if_neg (fun h => ht47 h.2)))
        clear HG
        go_wp2_with fail
        refine A1.out.mono ?_
        rintro e w' ⟨rfl, rfl⟩
        go_wp2_with fail
        go_roundg (n + 4 - (j + 1))
        case measure => omega
        case rel => exact ⟨j + 1, rfl, by omega, by omega, by go_num, rfl, Hd (hs.out.trans hv.out)⟩
      ·have hz42' : (z == 42) = false := by simpa using hz42
       have hv := Hd (HG.out.trans (if_neg (fun h => hz42 h.1)))
       clear HG
       go_wp2_with fail
       go_roundg (n + 4 - (j + 1))
       case measure => omega
       case rel => exact ⟨j + 1, rfl, by omega, by omega, by go_num, rfl, Hd (hs.out.trans hv.out)⟩
     ·have hv : comEnd j ((cs R).drop j) = none := com_end (by rw [HNN.out]; omega)
      replace hv := Hd hv
      go_wp2
      go_ret2
      exact ⟨by rw [HV.out, hs.out, hv.out]; rfl, rfl⟩
   ·have hy42' : (y == 42) = false := by simpa using hy42
    go_wp2_with fail
    refine H1.out.mono ?_
    rintro e w' ⟨rfl, rfl⟩
    go_wp2_with fail
    refine H1.out.mono ?_
    rintro e w' ⟨rfl, rfl⟩
    have hv : Hid (commentL (cs R) i = (i, false)) := Hd (HC.out.trans (by simp [hy47, hy42]))
    go_wp2
    go_ret2
    exact ⟨by rw [hv.out]; rfl, rfl⟩
 ·have hx47' : (x == 47) = false := by simpa using hx47
  have hv : Hid (commentL (cs R) i = (i, false)) := Hd (HC.out.trans (by simp [hx47]))
  go_wp2
  go_ret2
  exact ⟨by rw [hv.out]; rfl, rfl⟩
end Go.Proofs.YtllbbacnakoomaaGreatDoor
namespace Go.Proofs.YtllbbacnakoomaaGreatDoor
open Go.RowKit
set_option linter.unusedVariables false
def restL (A : List UInt8) (i : Nat) : Nat × Nat × Bool :=
 if letterB (chAt A i) then (1, i + 1 + ((A.drop (i + 1)).takeWhile idB).length, false)
 else if i < numL A i then (2, numL A i, false)
 else if 0 < punctL A i then (5, i + punctL A i, false)
 else (6, i + 1, false)
theorem nextI (A : List UInt8) (i : Nat) : nextL A i = if 0 ≤ lettersL A i ∧ 0 < quotedL A (i + (lettersL A i).toNat) ∧ ((chAt A (i + (lettersL A i).toNat)).toNat : Int) = 34 then (4, quotedL A (i + (lettersL A i).toNat), false)
 else if 0 ≤ lettersL A i ∧ 0 < quotedL A (i + (lettersL A i).toNat) then (3, quotedL A (i + (lettersL A i).toNat), false)
 else if lettersL A i = 0 then (6, i + 1, true) else restL A i := by
 unfold nextL restL
 simp only [u8eq]
 rfl
theorem id_go (A : List UInt8) (j : Nat) : ((A.drop j).takeWhile idB).length = if (letterB (chAt A j) || digitB (chAt A j)) = true then ((A.drop (j + 1)).takeWhile idB).length + 1 else 0 := by
 by_cases h : j < A.length
 ·exact while_step h
 ·rw [while_end (by omega), chAt_ge (by omega)]
  rfl
theorem letters_range (A : List UInt8) (i : Nat) : -1 ≤ lettersL A i ∧ lettersL A i ≤ 2 := by
 unfold lettersL
 repeat' split
 all_goals decide
theorem takeWhile_le (p : UInt8 → Bool) (A : List UInt8) : (A.takeWhile p).length ≤ A.length := (List.takeWhile_sublist p).length_le
theorem numL_ge (A : List UInt8) (i : Nat) : i ≤ numL A i := by
 unfold numL
 split <;> omega
theorem numL_le (A : List UInt8) (i : Nat) : numL A i ≤ i + 1 + A.length := by
 unfold numL
 split
 ·have := numRun_le (A.drop (i + 1))
  rw [List.length_drop] at this
  omega
 ·omega
theorem punctL_le (A : List UInt8) (i : Nat) : punctL A i ≤ 4 := by
 unfold punctL
 cases h : punctsL.find? fun p => p.isPrefixOf (A.drop i) with
 | none => simp
 | some p => exact (puncts_ne p (List.mem_of_find?_eq_some h)).2
theorem rnext_any (R : List Rn) (ao : Option Addr) (cap i : Nat) (hn : R.length ≤ 1000001) (hi : i < R.length) (w : World) (hrow : Row w 3 ao (R.map Rn.v)) :
 Calls Tryz.prog 89 #[.slice ao R.length cap, .int .i64 i] w fun e w' => e = .returned (.tuple #[.int .i64 ((nextL (cs R) i).1 : Nat), .int .i64 ((nextL (cs R) i).2.1 : Nat), .bool (nextL (cs R) i).2.2]) ∧ Below w.heap.size w w' := by
 have HA := Hd (fun k => rat_any R ao cap k (by omega) w hrow)
 have HD := Hd (fun c => rDigit_any c w)
 have HT := Hd (fun c => rLetter_any c w)
 have H0 := rletters_any R ao cap i (by omega) (by omega) w hrow
 have HQ := Hd (fun k (hk : k ≤ 1000003) => rquoted_any R ao cap k hn hk w hrow)
 have HM := Hd (rnumber_any R ao cap i hn (by omega) w hrow)
 have HP := Hd (rpunct_any R ao cap i hn (by omega) w hrow)
 have HC := nextI (cs R) i
 have hkr := letters_range (cs R) i
 have HLEN := Hd (cs_len R)
 have HML := numL_le (cs R) i
 have HMG := numL_ge (cs R) i
 have HPL := punctL_le (cs R) i
 rw [cs_len] at HML
 have HRE : restL (cs R) i = if letterB (chAt (cs R) i) = true then (1, i + 1 + (((cs R).drop (i + 1)).takeWhile idB).length, false) else if i < numL (cs R) i then (2, numL (cs R) i, false) else if 0 < punctL (cs R) i then (5, i + punctL (cs R) i, false) else (6, i + 1, false) := rfl
 obtain ⟨m, hm⟩ : ∃ m, m = numL (cs R) i := ⟨_, rfl⟩
 obtain ⟨p, hp⟩ : ∃ p, p = punctL (cs R) i := ⟨_, rfl⟩
 rw [← hm] at HM HML HMG HRE
 rw [← hp] at HP HPL HRE
 clear hm hp
 obtain ⟨k, hk⟩ : ∃ k, k = lettersL (cs R) i := ⟨_, rfl⟩
 rw [← hk] at H0 HC hkr
 clear hk hrow
 replace HC := Hd HC
 replace HRE := Hd HRE
 replace H0 := Hd H0
 obtain ⟨n, hnn⟩ : ∃ n, n = R.length := ⟨_, rfl⟩
 rw [← hnn] at hn hi H0 HA HQ HM HP HML HLEN ⊢
 clear hnn
 go_enter Tryz.func89, Tryz.ntmps89
 go_wp2_with fail
 refine H0.out.mono ?_
 rintro e w' ⟨rfl, rfl⟩
 by_cases hk0 : 0 ≤ k
 ·obtain ⟨K, rfl⟩ : ∃ K : Nat, k = (K : Int) := ⟨k.toNat, by omega⟩
  have HQ1 := HQ.out (i + K) (by omega)
  have A1 := HA.out (i + K)
  rw [show ((i + K : Nat) : Int) = (i : Int) + K by omega] at HQ1 A1
  rw [Int.toNat_natCast] at HC
  obtain ⟨E, hE⟩ : ∃ E, E = quotedL (cs R) (i + K) := ⟨_, rfl⟩
  obtain ⟨y, hy⟩ : ∃ y : Int, y = ((chAt (cs R) (i + K)).toNat : Int) := ⟨_, rfl⟩
  rw [← hE] at HQ1 HC
  rw [← hy] at A1 HC
  replace A1 := Hd A1
  replace HQ1 := Hd HQ1
  clear hE hy
  go_wp2_with fail
  refine HQ1.out.mono ?_
  rintro e w' ⟨rfl, rfl⟩
  by_cases hE0 : 0 < E
  ·have hEi : (0 : Int) < E := by omega
   by_cases hy34 : y = 34
   ·subst hy34
    have HV : Hid (nextL (cs R) i = (4, E, false)) := Hd (HC.out.trans (if_pos ⟨hk0, hE0, rfl⟩))
    clear HC
    go_wp2_with fail
    refine A1.out.mono ?_
    rintro e w' ⟨rfl, rfl⟩
    go_wp2
    go_ret3
    exact ⟨by rw [HV.out]; rfl, Below.refl _ _⟩
   ·have hy34' : (y == 34) = false := by simpa using hy34
    have HV : Hid (nextL (cs R) i = (3, E, false)) := Hd (HC.out.trans ((if_neg (fun h => hy34 h.2.2)).trans (if_pos ⟨hk0, hE0⟩)))
    clear HC
    go_wp2_with fail
    refine A1.out.mono ?_
    rintro e w' ⟨rfl, rfl⟩
    go_wp2
    go_ret3
    exact ⟨by rw [HV.out]; rfl, Below.refl _ _⟩
  ·obtain rfl : E = 0 := by omega
   by_cases hK : K = 0
   ·subst hK
    have HV : Hid (nextL (cs R) i = (6, i + 1, true)) := Hd (HC.out.trans ((if_neg (fun h => Nat.lt_irrefl _ h.2.1)).trans ((if_neg (fun h => Nat.lt_irrefl _ h.2)).trans (if_pos rfl))))
    clear HC
    go_wp2
    go_ret3
    exact ⟨by rw [HV.out]; rfl, Below.refl _ _⟩
   ·have hKi : ((K : Int) == 0) = false := by simp; omega
    have hrest : Hid (nextL (cs R) i = restL (cs R) i) := Hd (HC.out.trans ((if_neg (fun h => Nat.lt_irrefl _ h.2.1)).trans ((if_neg (fun h => Nat.lt_irrefl _ h.2)).trans (if_neg (by omega)))))
    clear HC
    have A0 := HA.out i
    have L0 := HT.out (chAt (cs R) i)
    obtain ⟨la, hla⟩ : ∃ b, b = letterB (chAt (cs R) i) := ⟨_, rfl⟩
    obtain ⟨x, hx⟩ : ∃ x : Int, x = ((chAt (cs R) i).toNat : Int) := ⟨_, rfl⟩
    rw [← hla] at L0 HRE
    rw [← hx] at A0 L0
    replace A0 := Hd A0
    replace L0 := Hd L0
    clear hla hx
    go_wp2_with fail
    refine A0.out.mono ?_
    rintro e w' ⟨rfl, rfl⟩
    go_wp2_with fail
    refine L0.out.mono ?_
    rintro e w' ⟨rfl, rfl⟩
    cases la with
    | true =>
      have HV : Hid (nextL (cs R) i = (1, i + 1 + (((cs R).drop (i + 1)).takeWhile idB).length, false)) := Hd (hrest.out.trans (HRE.out.trans (if_pos rfl)))
      have hwl : Hid ((((cs R).drop (i + 1)).takeWhile idB).length ≤ n) := Hd (Nat.le_trans (takeWhile_le _ _) (by rw [List.length_drop, HLEN.out]; omega))
      clear HRE hrest A0 L0 HM HP HQ H0
      go_wp2_with fail
      go_loopg [9] ((((cs R).drop (i + 1)).takeWhile idB).length) (fun u v w9 => ∃ j : Nat, u = (((cs R).drop j).takeWhile idB).length ∧ v = .int .i64 j ∧ w9 = w' ∧ Hid (i + 1 + (((cs R).drop (i + 1)).takeWhile idB).length = j + (((cs R).drop j).takeWhile idB).length))
      case atStart => exact ⟨i + 1, rfl, by go_num, rfl, Hd rfl⟩
      case round =>
       obtain ⟨j, rfl, rfl, rfl, hs⟩ := hrel
       have hj : j ≤ 2000003 := by have := hs.out; have := hwl.out; omega
       have A1 := HA.out j
       have L1 := HT.out (chAt (cs R) j)
       have D1 := HD.out (chAt (cs R) j)
       have HG := id_go (cs R) j
       obtain ⟨lz, hlz⟩ : ∃ b, b = letterB (chAt (cs R) j) := ⟨_, rfl⟩
       obtain ⟨dz, hdz⟩ : ∃ b, b = digitB (chAt (cs R) j) := ⟨_, rfl⟩
       obtain ⟨z, hz⟩ : ∃ z : Int, z = ((chAt (cs R) j).toNat : Int) := ⟨_, rfl⟩
       rw [← hlz] at L1 HG
       rw [← hdz] at D1 HG
       rw [← hz] at A1 L1 D1
       replace A1 := Hd A1
       replace L1 := Hd L1
       replace D1 := Hd D1
       replace HG := Hd HG
       clear hlz hdz hz
       go_wp2_with fail
       refine A1.out.mono ?_
       rintro e w' ⟨rfl, rfl⟩
       go_wp2_with fail
       refine L1.out.mono ?_
       rintro e w' ⟨rfl, rfl⟩
       cases lz with
       | true =>
         have hv := Hd (HG.out.trans (if_pos rfl))
         clear HG
         go_wp2_with fail
         go_roundg ((((cs R).drop (j + 1)).takeWhile idB).length)
         case measure => have := hv.out; omega
         case rel => exact ⟨j + 1, rfl, by go_num, rfl, Hd (by have := hs.out; have := hv.out; omega)⟩
       | false =>
         go_wp2_with fail
         refine A1.out.mono ?_
         rintro e w' ⟨rfl, rfl⟩
         go_wp2_with fail
         refine D1.out.mono ?_
         rintro e w' ⟨rfl, rfl⟩
         cases dz with
         | true =>
           have hv := Hd (HG.out.trans (if_pos rfl))
           clear HG
           go_wp2_with fail
           go_roundg ((((cs R).drop (j + 1)).takeWhile idB).length)
           case measure => have := hv.out; omega
           case rel => exact ⟨j + 1, rfl, by go_num, rfl, Hd (by have := hs.out; have := hv.out; omega)⟩
         | false =>
           have hv := Hd (HG.out.trans (if_neg (by decide)))
           clear HG
           have HV2 : Hid (nextL (cs R) i = (1, j, false)) := Hd (by rw [HV.out, hs.out, hv.out]; rfl)
           go_wp2
           go_ret3
           exact ⟨by rw [HV2.out]; rfl, Below.refl _ _⟩
    | false =>
      have HRE2 : Hid (restL (cs R) i = if i < m then (2, m, false) else if 0 < p then (5, i + p, false) else (6, i + 1, false)) := Hd (HRE.out.trans (if_neg (by decide)))
      clear HRE A0 L0 H0 HQ
      go_wp2_with fail
      refine HM.out.mono ?_
      rintro e w' ⟨rfl, rfl⟩
      by_cases him : i < m
      ·have HV : Hid (nextL (cs R) i = (2, m, false)) := Hd (hrest.out.trans (HRE2.out.trans (if_pos him)))
       have himi : (i : Int) < m := by omega
       clear HRE2 hrest
       go_wp2
       go_ret3
       exact ⟨by rw [HV.out]; rfl, Below.refl _ _⟩
      ·have hmi : m = i := by omega
       subst hmi
       clear him
       go_wp2_with fail
       refine HP.out.mono ?_
       rintro e w9 ⟨rfl, hb9⟩
       by_cases hp0 : 0 < p
       ·have HV : Hid (nextL (cs R) m = (5, m + p, false)) := Hd (hrest.out.trans (HRE2.out.trans ((if_neg (Nat.lt_irrefl _)).trans (if_pos hp0))))
        have hpi : (0 : Int) < p := by omega
        clear HRE2 hrest
        go_wp2
        go_ret3
        exact ⟨by rw [HV.out]; rfl, hb9⟩
       ·obtain rfl : p = 0 := by omega
        have HV : Hid (nextL (cs R) m = (6, m + 1, false)) := Hd (hrest.out.trans (HRE2.out.trans ((if_neg (Nat.lt_irrefl _)).trans (if_neg (Nat.lt_irrefl _)))))
        clear HRE2 hrest
        go_wp2
        go_ret3
        exact ⟨by rw [HV.out]; rfl, hb9⟩
 ·obtain rfl : k = -1 := by omega
  have hrest : Hid (nextL (cs R) i = restL (cs R) i) := Hd (HC.out.trans ((if_neg (fun h => hk0 h.1)).trans ((if_neg (fun h => hk0 h.1)).trans (if_neg (by decide)))))
  clear HC
  have A0 := HA.out i
  have L0 := HT.out (chAt (cs R) i)
  obtain ⟨la, hla⟩ : ∃ b, b = letterB (chAt (cs R) i) := ⟨_, rfl⟩
  obtain ⟨x, hx⟩ : ∃ x : Int, x = ((chAt (cs R) i).toNat : Int) := ⟨_, rfl⟩
  rw [← hla] at L0 HRE
  rw [← hx] at A0 L0
  replace A0 := Hd A0
  replace L0 := Hd L0
  clear hla hx
  go_wp2_with fail
  refine A0.out.mono ?_
  rintro e w' ⟨rfl, rfl⟩
  go_wp2_with fail
  refine L0.out.mono ?_
  rintro e w' ⟨rfl, rfl⟩
  cases la with
  | true =>
    have HV : Hid (nextL (cs R) i = (1, i + 1 + (((cs R).drop (i + 1)).takeWhile idB).length, false)) := Hd (hrest.out.trans (HRE.out.trans (if_pos rfl)))
    have hwl : Hid ((((cs R).drop (i + 1)).takeWhile idB).length ≤ n) := Hd (Nat.le_trans (takeWhile_le _ _) (by rw [List.length_drop, HLEN.out]; omega))
    clear HRE hrest A0 L0 HM HP HQ H0
    go_wp2_with fail
    go_loopg [9] ((((cs R).drop (i + 1)).takeWhile idB).length) (fun u v w9 => ∃ j : Nat, u = (((cs R).drop j).takeWhile idB).length ∧ v = .int .i64 j ∧ w9 = w' ∧ Hid (i + 1 + (((cs R).drop (i + 1)).takeWhile idB).length = j + (((cs R).drop j).takeWhile idB).length))
    case atStart => exact ⟨i + 1, rfl, by go_num, rfl, Hd rfl⟩
    case round =>
     obtain ⟨j, rfl, rfl, rfl, hs⟩ := hrel
     have hj : j ≤ 2000003 := by have := hs.out; have := hwl.out; omega
     have A1 := HA.out j
     have L1 := HT.out (chAt (cs R) j)
     have D1 := HD.out (chAt (cs R) j)
     have HG := id_go (cs R) j
     obtain ⟨lz, hlz⟩ : ∃ b, b = letterB (chAt (cs R) j) := ⟨_, rfl⟩
     obtain ⟨dz, hdz⟩ : ∃ b, b = digitB (chAt (cs R) j) := ⟨_, rfl⟩
     obtain ⟨z, hz⟩ : ∃ z : Int, z = ((chAt (cs R) j).toNat : Int) := ⟨_, rfl⟩
     rw [← hlz] at L1 HG
     rw [← hdz] at D1 HG
     rw [← hz] at A1 L1 D1
     replace A1 := Hd A1
     replace L1 := Hd L1
     replace D1 := Hd D1
     replace HG := Hd HG
     clear hlz hdz hz
     go_wp2_with fail
     refine A1.out.mono ?_
     rintro e w' ⟨rfl, rfl⟩
     go_wp2_with fail
     refine L1.out.mono ?_
     rintro e w' ⟨rfl, rfl⟩
     cases lz with
     | true =>
       have hv := Hd (HG.out.trans (if_pos rfl))
       clear HG
       go_wp2_with fail
       go_roundg ((((cs R).drop (j + 1)).takeWhile idB).length)
       case measure => have := hv.out; omega
       case rel => exact ⟨j + 1, rfl, by go_num, rfl, Hd (by have := hs.out; have := hv.out; omega)⟩
     | false =>
       go_wp2_with fail
       refine A1.out.mono ?_
       rintro e w' ⟨rfl, rfl⟩
       go_wp2_with fail
       refine D1.out.mono ?_
       rintro e w' ⟨rfl, rfl⟩
       cases dz with
       | true =>
         have hv := Hd (HG.out.trans (if_pos rfl))
         clear HG
         go_wp2_with fail
         go_roundg ((((cs R).drop (j + 1)).takeWhile idB).length)
         case measure => have := hv.out; omega
         case rel => exact ⟨j + 1, rfl, by go_num, rfl, Hd (by have := hs.out; have := hv.out; omega)⟩
       | false =>
         have hv := Hd (HG.out.trans (if_neg (by decide)))
         clear HG
         have HV2 : Hid (nextL (cs R) i = (1, j, false)) := Hd (by rw [HV.out, hs.out, hv.out]; rfl)
         go_wp2
         go_ret3
         exact ⟨by rw [HV2.out]; rfl, Below.refl _ _⟩
  | false =>
    have HRE2 : Hid (restL (cs R) i = if i < m then (2, m, false) else if 0 < p then (5, i + p, false) else (6, i + 1, false)) := Hd (HRE.out.trans (if_neg (by decide)))
    clear HRE A0 L0 H0 HQ
    go_wp2_with fail
    refine HM.out.mono ?_
    rintro e w' ⟨rfl, rfl⟩
    by_cases him : i < m
    ·have HV : Hid (nextL (cs R) i = (2, m, false)) := Hd (hrest.out.trans (HRE2.out.trans (if_pos him)))
     have himi : (i : Int) < m := by omega
     clear HRE2 hrest
     go_wp2
     go_ret3
     exact ⟨by rw [HV.out]; rfl, Below.refl _ _⟩
    ·have hmi : m = i := by omega
     subst hmi
     clear him
     go_wp2_with fail
     refine HP.out.mono ?_
     rintro e w9 ⟨rfl, hb9⟩
     by_cases hp0 : 0 < p
     ·have HV : Hid (nextL (cs R) m = (5, m + p, false)) := Hd (hrest.out.trans (HRE2.out.trans ((if_neg (Nat.lt_irrefl _)).trans (if_pos hp0))))
      have hpi : (0 : Int) < p := by omega
      clear HRE2 hrest
      go_wp2
      go_ret3
      exact ⟨by rw [HV.out]; rfl, hb9⟩
     ·obtain rfl : p = 0 := by omega
      have HV : Hid (nextL (cs R) m = (6, m + 1, false)) := Hd (hrest.out.trans (HRE2.out.trans ((if_neg (Nat.lt_irrefl _)).trans (if_neg (Nat.lt_irrefl _)))))
      clear HRE2 hrest
      go_wp2
      go_ret3
      exact ⟨by rw [HV.out]; rfl, hb9⟩
end Go.Proofs.YtllbbacnakoomaaGreatDoor
namespace Go.Proofs.YtllbbacnakoomaaGreatDoor
set_option linter.unusedVariables false
structure Tk where
 (kind : Nat) (text : List UInt8) (space : Bool) (f t : Nat)
structure Ln where
 (toks : List Tk) (f t : Nat) (op : Bool)
structure Dg where
 (code f t : Nat)
structure LS where
 (i : Nat) (toks : List Tk) (from_ : Nat) (space : Bool) (out : List Ln) (diags : List Dg)
def rF (R : List Rn) (i : Nat) : Nat := ((R[i]?).map (·.f)).getD 0
def rT (R : List Rn) (i : Nat) : Nat := ((R[i]?).map (·.t)).getD 0
def tokAt (R : List Rn) (s : LS) : Tk := ⟨(nextL (cs R) s.i).1, ((cs R).drop s.i).take ((nextL (cs R) s.i).2.1 - s.i), s.space, rF R s.i, rT R ((nextL (cs R) s.i).2.1 - 1)⟩
def lineStep (R : List Rn) (n : Nat) (s : LS) : LS ⊕ (List Ln × List Dg) :=
 if chAt (cs R) s.i = 10 then .inl ⟨s.i + 1, [], rT R s.i, false, s.out ++ [⟨s.toks, s.from_, rT R s.i, false⟩], s.diags⟩
 else if whiteB (chAt (cs R) s.i) then .inl ⟨s.i + 1, s.toks, s.from_, true, s.out, s.diags⟩
 else if s.i < (commentL (cs R) s.i).1 then
  if (commentL (cs R) s.i).2 then .inr (s.out ++ [⟨s.toks, s.from_, n, true⟩], s.diags ++ [⟨1, rF R s.i, rT R (s.i + 1)⟩])
  else .inl ⟨(commentL (cs R) s.i).1, s.toks, s.from_, true, s.out, s.diags⟩
 else .inl ⟨(nextL (cs R) s.i).2.1, s.toks ++ [tokAt R s], s.from_, false, s.out, if (nextL (cs R) s.i).2.2 then s.diags ++ [⟨2, rF R s.i, rT R ((nextL (cs R) s.i).2.1 - 1)⟩] else s.diags⟩
def finL (n : Nat) : List Ln → List Ln
 | [] => []
 | [l] => [⟨l.toks, l.f, n, l.op⟩]
 | l :: m :: r => l :: finL n (m :: r)
def linesRun (R : List Rn) (n : Nat) : Nat → LS → List Ln × List Dg
 | 0, s => (finL n s.out, s.diags)
 | k + 1, s => if s.i < R.length then match lineStep R n s with
     | .inl s' => linesRun R n k s'
     | .inr r => r
   else (finL n s.out, s.diags)
def linesL (text : List UInt8) : List Ln × List Dg := linesRun (charsL text) text.length ((charsL text).length + 1) ⟨0, [], 0, false, [], []⟩
theorem quoL_le (q : UInt8) : ∀ (k : Nat) (l : List UInt8) (j : Nat), l.length ≤ k → quoL q j l ≤ j + l.length ∧ (0 < quoL q j l → j < quoL q j l) := by
 intro k
 induction k with
 | zero => intro l j h; have := List.eq_nil_of_length_eq_zero (by omega : l.length = 0); subst this; simp [quoL]
 | succ k ih =>
   intro l j h
   match l, h with
   | [], _ => simp [quoL]
   | [c], _ => simp only [quoL]; repeat' split
               all_goals simp
   | c :: d :: r, h =>
     simp only [List.length_cons] at h
     have h1 := ih r (j + 2) (by omega)
     have h2 := ih (d :: r) (j + 1) (by simp; omega)
     simp only [List.length_cons] at h2
     simp only [quoL, List.length_cons]
     repeat' split
     all_goals first | omega | (constructor <;> omega)
theorem quotedL_le (A : List UInt8) (i : Nat) (h : 0 < quotedL A i) : i + 1 < quotedL A i ∧ quotedL A i ≤ A.length := by
 have := quoL_le (chAt A i) _ (A.drop (i + 1)) (i + 1) (Nat.le_refl _)
 unfold quotedL at h ⊢
 rw [List.length_drop] at this
 have h2 := this.2 h
 omega
theorem numL_len {A : List UInt8} {i : Nat} (h : i < A.length) : numL A i ≤ A.length := by
 unfold numL
 split
 ·have := numRun_le (A.drop (i + 1))
  rw [List.length_drop] at this
  omega
 ·omega
theorem punctL_len (A : List UInt8) (i : Nat) (h : i ≤ A.length) : i + punctL A i ≤ A.length := by
 unfold punctL
 cases hf : punctsL.find? fun p => p.isPrefixOf (A.drop i) with
 | none => simpa using h
 | some p =>
   have := List.find?_some hf
   have h2 := (List.isPrefixOf_iff_prefix.1 this).length_le
   rw [List.length_drop] at h2
   simp only [Option.map_some, Option.getD_some]
   omega
theorem restL_len {A : List UInt8} {i : Nat} (h : i < A.length) : i < (restL A i).2.1 ∧ (restL A i).2.1 ≤ A.length := by
 unfold restL
 split
 ·have := takeWhile_le idB (A.drop (i + 1))
  rw [List.length_drop] at this
  simp only
  omega
 ·split
  ·exact ⟨by assumption, numL_len h⟩
  ·split
   ·have := punctL_len A i (by omega)
    simp only
    omega
   ·simp only
    omega
theorem nextL_len {A : List UInt8} {i : Nat} (h : i < A.length) : i < (nextL A i).2.1 ∧ (nextL A i).2.1 ≤ A.length := by
 rw [nextI]
 split
 ·rename_i hc
  have := quotedL_le A _ hc.2.1
  simp only
  omega
 ·split
  ·rename_i hc
   have := quotedL_le A _ hc.2
   simp only
   omega
  ·split
   ·simp only
    omega
   ·exact restL_len h
theorem comEnd_le : ∀ (l : List UInt8) (j e : Nat), comEnd j l = some e → j < e ∧ e ≤ j + l.length := by
 intro l
 induction l with
 | nil => intro j e h; simp [comEnd] at h
 | cons c l ih =>
   intro j e h
   cases l with
   | nil => simp [comEnd] at h
   | cons d r =>
     simp only [comEnd] at h
     split at h
     ·simp only [Option.some.injEq] at h
      subst h
      simp only [List.length_cons]
      omega
     ·have := ih (j + 1) e h
      simp only [List.length_cons] at this ⊢
      omega
theorem commentL_len {A : List UInt8} {i : Nat} (h : i < A.length) : i ≤ (commentL A i).1 ∧ (commentL A i).1 ≤ A.length := by
 unfold commentL
 split
 ·simp only; omega
 ·split
  ·have := takeWhile_le (· != 10) (A.drop i)
   rw [List.length_drop] at this
   simp only
   omega
  ·split
   ·simp only; omega
   ·cases hc : comEnd (i + 2) (A.drop (i + 2)) with
    | none => simp only; omega
    | some e =>
      have := comEnd_le _ _ _ hc
      rw [List.length_drop] at this
      simp only
      omega
theorem lineStep_i {R : List Rn} {n : Nat} {s s' : LS} (hi : s.i < R.length) (h : lineStep R n s = .inl s') : s.i < s'.i ∧ s'.i ≤ R.length := by
 have hl : s.i < (cs R).length := by rw [cs_len]; exact hi
 have h1 := nextL_len hl
 have h2 := commentL_len hl
 rw [cs_len] at h1 h2
 unfold lineStep at h
 repeat' split at h
 all_goals first
  | (injection h with h; subst h; simp only; omega)
  | cases h
theorem linesRun_enough (R : List Rn) (n : Nat) : ∀ (k a b : Nat) (s : LS), R.length - s.i ≤ k → R.length < a + s.i → R.length < b + s.i → linesRun R n a s = linesRun R n b s := by
 intro k
 induction k with
 | zero =>
   intro a b s hk ha hb
   have hni : ¬ s.i < R.length := by omega
   cases a <;> cases b <;> simp [linesRun, hni]
 | succ k ih =>
   intro a b s hk ha hb
   by_cases hi : s.i < R.length
   ·cases a with
    | zero => omega
    | succ a =>
      cases b with
      | zero => omega
      | succ b =>
        simp only [linesRun, if_pos hi]
        cases hs : lineStep R n s with
        | inr r => rfl
        | inl s' =>
          have := lineStep_i hi hs
          exact ih a b s' (by omega) (by omega) (by omega)
   ·cases a <;> cases b <;> simp [linesRun, hi]
def linesFrom (R : List Rn) (n : Nat) (s : LS) : List Ln × List Dg := linesRun R n (R.length + 1) s
theorem linesFrom_end {R : List Rn} {n : Nat} {s : LS} (h : ¬ s.i < R.length) : linesFrom R n s = (finL n s.out, s.diags) := by
 simp [linesFrom, linesRun, h]
theorem linesFrom_inl {R : List Rn} {n : Nat} {s s' : LS} (hi : s.i < R.length) (h : lineStep R n s = .inl s') : linesFrom R n s = linesFrom R n s' := by
 have := lineStep_i hi h
 unfold linesFrom
 rw [show linesRun R n (R.length + 1) s = linesRun R n R.length s' by simp [linesRun, hi, h]]
 exact linesRun_enough R n _ _ _ s' (Nat.le_refl _) (by omega) (by omega)
theorem linesFrom_inr {R : List Rn} {n : Nat} {s : LS} {r : List Ln × List Dg} (hi : s.i < R.length) (h : lineStep R n s = .inr r) : linesFrom R n s = r := by
 simp [linesFrom, linesRun, hi, h]
end Go.Proofs.YtllbbacnakoomaaGreatDoor
namespace Go.Proofs.YtllbbacnakoomaaGreatDoor
set_option linter.unusedVariables false
structure Tm where
 (kind : Int) (text : ByteArray) (sp : Bool) (file : ByteArray) (f t : Int) (made : Bool)
abbrev bs (l : List UInt8) : ByteArray := ⟨l.toArray⟩
def Tk.tm (file : ByteArray) (t : Tk) : Tm := ⟨t.kind, bs t.text, t.space, file, t.f, t.t, false⟩
end Go.Proofs.YtllbbacnakoomaaGreatDoor
namespace Go.Proofs.YtllbbacnakoomaaGreatDoor
set_option linter.unusedVariables false
def TokInvX (n : Nat) (s : LS) : Prop := s.toks.length ≤ s.i ∧ (∀ l ∈ s.out, l.toks.length ≤ n) ∧ s.out.length ≤ s.i ∧ s.diags.length ≤ s.i
theorem finL_toksX {n m : Nat} : ∀ {ls : List Ln}, (∀ l ∈ ls, l.toks.length ≤ n) → ∀ l ∈ finL m ls, l.toks.length ≤ n
 | [], h, l, hl => by simp [finL] at hl
 | [a], h, l, hl => by simp only [finL, List.mem_singleton] at hl; subst hl; exact h a (by simp)
 | a :: b :: r, h, l, hl => by
   simp only [finL, List.mem_cons] at hl
   rcases hl with rfl | hl
   ·exact h l (by simp)
   ·exact finL_toksX (ls := b :: r) (fun l h' => h l (by simp at h' ⊢; exact .inr h')) l hl
theorem finL_len {m : Nat} : ∀ (ls : List Ln), (finL m ls).length = ls.length
 | [] => rfl
 | [a] => rfl
 | a :: b :: r => by simp only [finL, List.length_cons]; rw [finL_len (b :: r)]; rfl
theorem lineStep_toksX {R : List Rn} {n : Nat} {s : LS} (hi : s.i < R.length) (h : TokInvX R.length s) : match lineStep R n s with | .inl s' => TokInvX R.length s' | .inr r => (∀ l ∈ r.1, l.toks.length ≤ R.length) ∧ r.1.length ≤ R.length + 1 ∧ r.2.length ≤ R.length + 1 := by
 have hs := fun s' => lineStep_i (R := R) (n := n) (s := s) (s' := s') hi
 revert hs
 unfold lineStep
 obtain ⟨h1, h2, h4, h5⟩ := h
 have h3 := fun (l : Ln) (hl : l.toks = s.toks) => show l.toks.length ≤ R.length by rw [hl]; omega
 split
 ·intro hs
  refine ⟨by simp, fun l hl => ?_, by simp; omega, by simp only; omega⟩
  simp only [List.mem_append, List.mem_singleton] at hl
  rcases hl with hl | rfl
  ·exact h2 l hl
  ·exact h3 _ rfl
 ·split
  ·intro hs
   exact ⟨by simp; omega, h2, by simp; omega, by simp; omega⟩
  ·split
   ·split
    ·intro hs
     refine ⟨fun l hl => ?_, by simp; omega, by simp; omega⟩
     simp only [List.mem_append, List.mem_singleton] at hl
     rcases hl with hl | rfl
     ·exact h2 l hl
     ·exact h3 _ rfl
    ·intro hs
     have := (hs _ rfl).1
     exact ⟨by simp only at this ⊢; omega, h2, by simp only at this ⊢; omega, by simp only at this ⊢; omega⟩
   ·intro hs
    have := (hs _ rfl).1
    refine ⟨by simp only [List.length_append, List.length_singleton] at this ⊢; omega, h2, by simp only at this ⊢; omega, ?_⟩
    simp only at this ⊢
    split
    ·simp only [List.length_append, List.length_singleton]; omega
    ·omega
theorem linesRun_toksX {R : List Rn} {n : Nat} : ∀ (k : Nat) (s : LS), s.i ≤ R.length → TokInvX R.length s → (∀ l ∈ (linesRun R n k s).1, l.toks.length ≤ R.length) ∧ (linesRun R n k s).1.length ≤ R.length + 1 ∧ (linesRun R n k s).2.length ≤ R.length + 1
 | 0, s, hi, h => ⟨finL_toksX h.2.1, by simp only [linesRun, finL_len]; have := h.2.2.1; omega, by simp only [linesRun]; have := h.2.2.2; omega⟩
 | k + 1, s, hle, h => by
   unfold linesRun
   split
   ·rename_i hi
    have hstep := lineStep_toksX (n := n) hi h
    split
    ·rename_i s' he
     rw [he] at hstep
     exact linesRun_toksX k s' (lineStep_i hi he).2 hstep
    ·rename_i r he
     rw [he] at hstep
     exact hstep
   ·exact ⟨finL_toksX h.2.1, by simp only [finL_len]; have := h.2.2.1; omega, by have := h.2.2.2; simp only; omega⟩
theorem linesL_lens (text : List UInt8) : (∀ l ∈ (linesL text).1, l.toks.length ≤ text.length + 1) ∧ (linesL text).1.length ≤ text.length + 2 ∧ (linesL text).2.length ≤ text.length + 2 := by
 have h := linesRun_toksX (R := charsL text) (n := text.length) ((charsL text).length + 1) ⟨0, [], 0, false, [], []⟩ (Nat.zero_le _) ⟨by simp, by simp, by simp, by simp⟩
 have hl := charsL_len text
 exact ⟨fun l hh => Nat.le_trans (h.1 l hh) hl, Nat.le_trans h.2.1 (by omega), Nat.le_trans h.2.2 (by omega)⟩
end Go.Proofs.YtllbbacnakoomaaGreatDoor
