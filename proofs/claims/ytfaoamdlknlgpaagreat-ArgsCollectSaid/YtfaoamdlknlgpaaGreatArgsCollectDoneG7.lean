/- Texts of this seat's proofs, laid into one file. -/
import Derived.Test.YtfaoamdlknlgpaaGreatArgsCollectDoneG6
import Derived.Deep.QuietTactic
/- oxbowref4's puncts, punct. -/
namespace Go.Proofs.YtfaoamdlknlgpaaGreat
open Go.RowKit
set_option linter.unusedVariables false

def strV (p : List UInt8) : Value := .string ⟨p.toArray⟩

/-- the world in which the punctuators lie -/
def punW (w : World) : World := w.alloc (.cells (punctsL.map strV).toArray 9)
theorem punW_size (w : World) : (punW w).heap.size = w.heap.size + 1 := by simp [punW]
theorem punW_below (w : World) : Below w.heap.size w (punW w) := (Below.refl _ w).alloc (Nat.le_refl _) _
theorem punW_cell {w : World} {k : Nat} {p : List UInt8} (h : punctsL[k]? = some p) : (punW w).cell? ⟨w.heap.size, k, none⟩ = some (strV p) := cell_new w _ _ (by simp [h])

set_option maxHeartbeats 2000000 in
set_option maxRecDepth 100000 in
theorem rpuncts_any (w : World) : Calls Tryz.prog 95 #[] w fun e w' => e = .returned (.slice (some ⟨w.heap.size, 0, none⟩) 54 54) ∧ w' = punW w := by
  go_enter Tryz.func95, Tryz.ntmps95
  go_wp2
  go_ret
  exact ⟨rfl, rfl⟩

theorem pref_iff (A : List UInt8) : ∀ (p : List UInt8) (i : Nat), (∀ c ∈ p, c ≠ 0) → (p.isPrefixOf (A.drop i) = true ↔ ∀ j, j < p.length → chAt A (i + j) = p.getD j 0) := by
  intro p
  induction p with
  | nil => intro i _; simp
  | cons c p ih =>
    intro i h0
    have hc : c ≠ 0 := h0 c (by simp)
    have ih := ih (i + 1) (fun d hd => h0 d (by simp [hd]))
    by_cases hi : i < A.length
    · rw [drop_at hi, List.isPrefixOf, Bool.and_eq_true, ih, beq_iff_eq]
      constructor
      · rintro ⟨h1, h2⟩ j hj
        cases j with
        | zero => simpa using h1.symm
        | succ j => have := h2 j (by simpa using hj); rw [Nat.add_assoc, Nat.add_comm 1 j] at this; simpa using this
      · intro h
        refine ⟨by simpa using (h 0 (by simp)).symm, fun j hj => ?_⟩
        have := h (j + 1) (by simpa using hj)
        rw [Nat.add_assoc, Nat.add_comm 1 j]
        simpa using this
    · rw [List.drop_eq_nil_of_le (by omega)]
      constructor
      · intro h; simp [List.isPrefixOf] at h
      · intro h
        have := h 0 (by simp)
        rw [chAt_ge (by omega)] at this
        exact (hc (by simpa using this.symm)).elim

theorem puncts_ne : ∀ p ∈ punctsL, (∀ c ∈ p, c ≠ 0) ∧ p.length ≤ 4 := by decide

def punFrom (A : List UInt8) (i k : Nat) : Nat := (((punctsL.drop k).find? fun p => p.isPrefixOf (A.drop i)).map List.length).getD 0

theorem punFrom_zero (A : List UInt8) (i : Nat) : punctL A i = punFrom A i 0 := rfl
theorem punFrom_end (A : List UInt8) (i : Nat) : punFrom A i 54 = 0 := by
  have : punctsL.drop 54 = [] := by decide
  simp [punFrom, this]

theorem punFrom_hit {A : List UInt8} {i k : Nat} {p : List UInt8} (hp : punctsL[k]? = some p) (h : ∀ j, j < p.length → chAt A (i + j) = p.getD j 0) : punFrom A i k = p.length := by
  obtain ⟨hk, rfl⟩ := List.getElem?_eq_some_iff.1 hp
  have := (pref_iff A punctsL[k] i (puncts_ne _ (List.getElem_mem hk)).1).2 h
  unfold punFrom
  rw [List.drop_eq_getElem_cons hk, List.find?_cons, this]
  rfl

theorem punFrom_miss {A : List UInt8} {i k : Nat} {p : List UInt8} (hp : punctsL[k]? = some p) {j : Nat} (hj : j < p.length) (h : chAt A (i + j) ≠ p.getD j 0) : punFrom A i k = punFrom A i (k + 1) := by
  obtain ⟨hk, rfl⟩ := List.getElem?_eq_some_iff.1 hp
  have : ¬ (punctsL[k].isPrefixOf (A.drop i) = true) := fun hh => h ((pref_iff A punctsL[k] i (puncts_ne _ (List.getElem_mem hk)).1).1 hh j hj)
  unfold punFrom
  rw [List.drop_eq_getElem_cons hk, List.find?_cons]
  simp only [this]

end Go.Proofs.YtfaoamdlknlgpaaGreat

/- oxbowref4's punct. -/
namespace Go.Proofs.YtfaoamdlknlgpaaGreat
open Go.RowKit
set_option linter.unusedVariables false

set_option maxHeartbeats 2000000 in
set_option maxRecDepth 100000 in
theorem rpunct_any (R : List Rn) (ao : Option Addr) (cap i : Nat) (hn : R.length ≤ 1000001) (hi : i ≤ 1000003) (w : World) (hrow : Row w 3 ao (R.map Rn.v)) :
    Calls Tryz.prog 76 #[.slice ao R.length cap, .int .i64 i] w fun e w' => e = .returned (.int .i64 (punctL (cs R) i)) ∧ Below w.heap.size w w' := by
  have HR : Hid (∀ w', Below w.heap.size w w' → ∀ k : Nat, Calls Tryz.prog 71 #[.slice ao R.length cap, .int .i64 k] w' fun e w'' => e = .returned (.int .u8 (chAt (cs R) k).toNat) ∧ w'' = w') := Lib.hid (fun w' hb k => rat_any R ao cap k (by omega) w' (hrow.below hb))
  have HP : Hid (∀ w', Below (w.heap.size + 1) (punW w) w' → ∀ k p, punctsL[k]? = some p → w'.cell? ⟨w.heap.size, k, none⟩ = some (strV p)) := Lib.hid (by
    intro w' hb k p hp
    rw [hb.cell (p := ⟨w.heap.size, k, none⟩) (Nat.lt_succ_self _)]
    exact punW_cell hp)
  obtain ⟨n, hnn⟩ : ∃ n, n = R.length := ⟨_, rfl⟩
  rw [← hnn] at hn HR ⊢
  clear hnn hrow
  go_enter Tryz.func76, Tryz.ntmps76
  go_wp2_with fail
  refine (rpuncts_any w).mono ?_
  rintro e w' ⟨rfl, rfl⟩
  go_wp2_with fail
  go_loopg [6] 54 (fun u v w9 => ∃ k : Nat, u = 54 - k ∧ k ≤ 54 ∧ v = .int .i64 k ∧ Hid (punctL (cs R) i = punFrom (cs R) i k) ∧ Below (w.heap.size + 1) (punW w) w9)
  case atStart => exact ⟨0, rfl, by omega, rfl, Lib.hid rfl, Below.refl _ _⟩
  case round =>
    obtain ⟨k, rfl, hk, rfl, hs, hb⟩ := hrel
    by_cases hlt : k < 54
    · obtain ⟨p, hp⟩ : ∃ p, punctsL[k]? = some p := ⟨punctsL[k]'hlt, List.getElem?_eq_getElem hlt⟩
      obtain ⟨pb, hpb⟩ : ∃ pb : ByteArray, pb = ⟨p.toArray⟩ := ⟨_, rfl⟩
      have hpl : pb.size = p.length := by rw [hpb]; rfl
      have hp4 : pb.size ≤ 4 := by rw [hpl]; exact (puncts_ne p (List.mem_of_getElem? hp)).2
      have HPC : Hid (∀ w', Below (w.heap.size + 1) (punW w) w' → w'.cell? ⟨w.heap.size, k, none⟩ = some (.string pb)) := Lib.hid (by
        intro w' hb
        have := HP.out w' hb k p hp
        rw [this, hpb]; rfl)
      have HPG : Hid (∀ j (hj : j < pb.size), p.getD j 0 = pb[j]'hj) := Lib.hid (by
        intro j hj
        subst hpb
        simp [List.getD_eq_getElem?_getD]
        rw [List.getElem?_eq_getElem (by rw [← hpl]; exact hj)]
        rfl)
      have HPP := Lib.hid hp
      have HPL := Lib.hid hpl
      clear hp hpl hpb HP
      go_wp2_with fail
      go_loopg [7] pb.size (fun u v w9 => ∃ j : Nat, u = pb.size - j ∧ j ≤ pb.size ∧ v = .int .i64 j ∧ Hid (∀ m, m < j → chAt (cs R) (i + m) = p.getD m 0) ∧ Below (w.heap.size + 1) (punW w) w9)
      case atStart => exact ⟨0, rfl, Nat.zero_le _, rfl, Lib.hid (fun m hm => (Nat.not_lt_zero _ hm).elim), hb⟩
      case round =>
        obtain ⟨j, rfl, hj, rfl, hall, hb2⟩ := hrel
        have c0 := HPC.out _ hb2
        by_cases hjl : j < pb.size
        · have hji : (j : Int) < (pb.size : Int) := by omega
          have HA := fun nq => HR.out (wr.drewN nq) (below_drewN ((punW_below w).trans (hb2.mono (Nat.le_succ _))) nq) (i + j)
          rw [show ((i + j : Nat) : Int) = (i : Int) + j by omega] at HA
          have HG := HPG.out j hjl
          obtain ⟨x, hx⟩ : ∃ x : Int, x = ((chAt (cs R) (i + j)).toNat : Int) := ⟨_, rfl⟩
          rw [← hx] at HA
          replace HA := Lib.hid HA
          by_cases hm : x = ((pb[j]'hjl).toNat : Int)
          · have hm' : (x == ((pb[j]'hjl).toNat : Int)) = true := by simpa using hm
            have hnew : chAt (cs R) (i + j) = p.getD j 0 := by rw [HG]; exact (u8eq _ _).2 (hx.symm.trans hm)
            replace hnew := Lib.hid hnew
            clear hx HG
            go_wp2_with fail
            go_quiet (first | (go_at_call 71; exact Calls.quiet_of_same (HA.out _)))
            go_wp2_with fail
            go_roundg (pb.size - (j + 1))
            case measure => omega
            case rel =>
              refine ⟨j + 1, rfl, by omega, by go_num, Lib.hid ?_, below_drewN hb2 nq⟩
              intro m hmj
              by_cases hmm : m = j
              · subst hmm; exact hnew.out
              · exact hall.out m (by omega)
          · have hm' : (x == ((pb[j]'hjl).toNat : Int)) = false := by simpa using hm
            have hnew : chAt (cs R) (i + j) ≠ p.getD j 0 := by rw [HG]; intro e; exact hm (hx.trans ((u8eq _ _).1 e))
            replace hnew := Lib.hid (punFrom_miss HPP.out (by rw [← HPL.out]; exact hjl) hnew)
            have hjs : ((j : Int) == (pb.size : Int)) = false := by simp; omega
            clear hx HG
            go_wp2_with fail
            go_quiet (first | (go_at_call 71; exact Calls.quiet_of_same (HA.out _)))
            go_wp2_with fail
            go_roundg (54 - (k + 1))
            case measure => omega
            case rel => exact ⟨k + 1, rfl, by omega, by go_num, Lib.hid (hs.out.trans hnew.out), below_drewN hb2 nq⟩
        · have hjf : decide ((j : Int) < (pb.size : Int)) = false := decide_eq_false (by omega)
          have hje : j = pb.size := by omega
          have hjs : ((j : Int) == (pb.size : Int)) = true := by simp; omega
          have hres : Hid (punctL (cs R) i = j) := Lib.hid (by
            rw [hs.out, punFrom_hit HPP.out (fun m hm => hall.out m (by rw [hje, HPL.out]; exact hm)), hje, HPL.out])
          replace hje := Lib.hid hje
          go_wp2_with fail
          go_quiet (fail)
          go_wp2_with fail
          go_ret
          refine ⟨by rw [hres.out]; rfl, ?_⟩
          exact (punW_below w).trans ((below_drewN hb2 nq).mono (Nat.le_succ _))
    · obtain rfl : k = 54 := by omega
      have hres : Hid (punctL (cs R) i = 0) := Lib.hid (by rw [hs.out, punFrom_end])
      go_wp2_with fail
      go_ret
      exact ⟨by rw [hres.out]; rfl, (punW_below w).trans (hb.mono (Nat.le_succ _))⟩
end Go.Proofs.YtfaoamdlknlgpaaGreat

/- oxbowref4's text, comment. -/
namespace Go.Proofs.YtfaoamdlknlgpaaGreat
open Go.RowKit
set_option linter.unusedVariables false

set_option maxHeartbeats 1000000 in
theorem rtext_any (R : List Rn) (ao : Option Addr) (n cap : Nat) (hl : R.length = n) (hn : n ≤ 1000001) (w : World) (hrow : Row w 3 ao (R.map Rn.v)) :
    Calls Tryz.prog 79 #[.slice ao n cap] w fun e w' => e = .returned (.string ⟨(cs R).toArray⟩) ∧ Below w.heap.size w w' := by
  have HL := Lib.hid hl
  clear hl
  go_enter Tryz.func79, Tryz.ntmps79
  go_wp2
  go_loopg [3, 4] n (fun u v i wr => ∃ k : Nat, u = n - k ∧ k ≤ n ∧ i = .int .i64 k ∧ Own wr w.heap.size 5 1 v ((cs (R.take k)).map fun c => [.int .u8 c.toNat]) ∧ Below w.heap.size w wr)
  case atStart => exact ⟨0, rfl, Nat.zero_le _, rfl, Own.nil _ _ _ _, Below.refl _ _⟩
  case round =>
    obtain ⟨k, rfl, hk, rfl, hown, hb⟩ := hrel
    have htl : (cs (R.take k)).length ≤ k := by rw [cs_len]; exact List.length_take_le ..
    by_cases hlt : k < n
    · obtain ⟨r, hr⟩ : ∃ r, R[k]? = some r := ⟨R[k]'(by rw [HL.out]; exact hlt), by simp⟩
      obtain ⟨b, o, rfl, hat⟩ := (hrow.below hb) (by intro h; simp at h; subst h; simp at hr)
      have c0 := hat.cell (i := k) (cs := r.v) (by simp [hr]) (j := 0) (u := .int .u8 r.c.toNat) rfl
      simp only [Nat.add_zero] at c0
      have HS : Hid (cs (R.take (k + 1)) = cs (R.take k) ++ [r.c]) := Lib.hid (by simp [cs, List.take_add_one, hr])
      clear hr hat hrow
      go_wp2_with (at_builtin; go_must (refine wpList_append1 E36 rfl rfl hown rfl rfl (news := [.int .u8 r.c.toNat]) rfl rfl (by simp [Value.oneCell']) (by rw [List.length_map]; omega) (by decide) hb.size ?_); intro v2 w3 hown2 hg2)
      go_roundg (n - (k + 1))
      case measure => omega
      case rel =>
        refine ⟨k + 1, rfl, by omega, by go_num, ?_, bapp hb hown hg2 hb.size⟩
        rw [HS.out, List.map_append]
        exact hown2
    · have hcv := run_str_own (P := Tryz.prog) hown 58 9 Tryz.underlying58 Tryz.underlying5 Tryz.underlying9
      go_wp2
      go_ret
      refine ⟨?_, hb⟩
      rw [show R.take k = R by rw [List.take_of_length_le]; rw [HL.out]; omega]
      rfl

theorem comI (A : List UInt8) (i : Nat) : commentL A i = if ¬ ((chAt A i).toNat : Int) = 47 then (i, false)
    else if ((chAt A (i + 1)).toNat : Int) = 47 then (i + ((A.drop i).takeWhile (· != 10)).length, false)
    else if ¬ ((chAt A (i + 1)).toNat : Int) = 42 then (i, false)
    else match comEnd (i + 2) (A.drop (i + 2)) with
      | some e => (e, false)
      | none => (A.length, true) := by
  unfold commentL
  simp only [u8eq, ne_eq]
  rfl

theorem com_go (A : List UInt8) (j : Nat) (h : j < A.length) : comEnd j (A.drop j) = if ((chAt A j).toNat : Int) = 42 ∧ ((chAt A (j + 1)).toNat : Int) = 47 then some (j + 2) else comEnd (j + 1) (A.drop (j + 1)) := by
  rw [com_step h]
  simp only [u8eq]
  rfl

theorem line_go (A : List UInt8) (j : Nat) (h : j < A.length) : ((A.drop j).takeWhile (· != 10)).length = if ((chAt A j).toNat : Int) = 10 then 0 else ((A.drop (j + 1)).takeWhile (· != 10)).length + 1 := by
  rw [while_step h]
  have h10 : chAt A j = 10 ↔ ((chAt A j).toNat : Int) = 10 := u8eq _ _
  by_cases hc : chAt A j = 10
  · rw [if_neg (by simp [hc]), if_pos (h10.1 hc)]
  · rw [if_pos (by simpa using hc), if_neg (fun h => hc (h10.2 h))]

set_option maxHeartbeats 2000000 in
set_option maxRecDepth 100000 in
theorem rcomment_any (R : List Rn) (ao : Option Addr) (cap i : Nat) (hn : R.length ≤ 1000001) (hi : i ≤ R.length) (w : World) (hrow : Row w 3 ao (R.map Rn.v)) :
    Calls Tryz.prog 48 #[.slice ao R.length cap, .int .i64 i] w fun e w' => e = .returned (.tuple #[.int .i64 (commentL (cs R) i).1, .bool (commentL (cs R) i).2]) ∧ w' = w := by
  have H0 := rat_any R ao cap i (by omega) w hrow
  have H1 := rat_any R ao cap (i + 1) (by omega) w hrow
  have HA := fun k => rat_any R ao cap k (by omega) w hrow
  rw [show ((i + 1 : Nat) : Int) = (i : Int) + 1 by omega] at H1
  have HC := comI (cs R) i
  obtain ⟨x, hx⟩ : ∃ x : Int, x = ((chAt (cs R) i).toNat : Int) := ⟨_, rfl⟩
  obtain ⟨y, hy⟩ : ∃ y : Int, y = ((chAt (cs R) (i + 1)).toNat : Int) := ⟨_, rfl⟩
  rw [← hx] at H0 HC
  rw [← hy] at H1 HC
  clear hx hy
  obtain ⟨n, hnn⟩ : ∃ n, n = R.length := ⟨_, rfl⟩
  have HNN : Hid ((cs R).length = n) := Lib.hid (by rw [cs_len, hnn])
  have HN2 : Hid (R.length = n) := Lib.hid hnn.symm
  rw [← hnn] at hn hi H0 H1 HA ⊢
  clear hnn
  replace HC := Lib.hid HC
  replace H0 := Lib.hid H0
  replace H1 := Lib.hid H1
  replace HA := Lib.hid HA
  go_enter Tryz.func48, Tryz.ntmps48
  go_wp2_with fail
  refine H0.out.mono ?_
  rintro e w' ⟨rfl, rfl⟩
  by_cases hx47 : x = 47
  · subst hx47
    by_cases hy47 : y = 47
    · subst hy47
      go_wp2_with fail
      refine H1.out.mono ?_
      rintro e w' ⟨rfl, rfl⟩
      have HV : Hid (commentL (cs R) i = (i + (((cs R).drop i).takeWhile (· != 10)).length, false)) := Lib.hid (HC.out.trans (by simp))
      clear HC
      go_wp2_with fail
      go_loopg [6] (n - i) (fun u v w9 => ∃ j : Nat, u = n - j ∧ j ≤ n ∧ v = .int .i64 j ∧ w9 = w' ∧ Hid (i + (((cs R).drop i).takeWhile (· != 10)).length = j + (((cs R).drop j).takeWhile (· != 10)).length))
      case atStart => exact ⟨i, rfl, hi, rfl, rfl, Lib.hid rfl⟩
      case round =>
        obtain ⟨j, rfl, hj, rfl, rfl, hs⟩ := hrel
        by_cases hlt : j < n
        · have HG := Lib.hid (line_go (cs R) j (by rw [HNN.out]; exact hlt))
          obtain ⟨r, hr⟩ : ∃ r, R[j]? = some r := ⟨R[j]'(by rw [HN2.out]; exact hlt), by simp⟩
          obtain ⟨b, o, rfl, hat⟩ := hrow (by intro h; simp at h; subst h; simp at hr)
          have c0 := hat.cell (i := j) (cs := r.v) (by simp [hr]) (j := 0) (u := .int .u8 r.c.toNat) rfl
          rw [cs_at hr] at HG
          simp only [Nat.add_zero] at c0
          obtain ⟨z, hz⟩ : ∃ z : Int, z = (r.c.toNat : Int) := ⟨_, rfl⟩
          rw [← hz] at HG c0
          clear hz hr hat
          by_cases hz10 : z = 10
          · subst hz10
            have hv := HG.out.trans (if_pos rfl)
            clear HG
            replace hv := Lib.hid hv
            go_wp2
            go_ret2
            exact ⟨by rw [HV.out, hs.out, hv.out]; rfl, rfl⟩
          · have hz10' : (z == 10) = false := by simpa using hz10
            have hv := Lib.hid (HG.out.trans (if_neg hz10))
            clear HG
            go_wp2_with fail
            go_roundg (n - (j + 1))
            case measure => omega
            case rel => exact ⟨j + 1, rfl, by omega, by go_num, rfl, Lib.hid (by rw [hs.out, hv.out]; omega)⟩
        · have hv : (((cs R).drop j).takeWhile (· != 10)).length = 0 := while_end (by rw [HNN.out]; omega)
          replace hv := Lib.hid hv
          go_wp2
          go_ret2
          exact ⟨by rw [HV.out, hs.out, hv.out]; rfl, rfl⟩
    · have hy47' : (y == 47) = false := by simpa using hy47
      by_cases hy42 : y = 42
      · subst hy42
        go_wp2_with fail
        refine H1.out.mono ?_
        rintro e w' ⟨rfl, rfl⟩
        have HV : Hid (commentL (cs R) i = match comEnd (i + 2) ((cs R).drop (i + 2)) with | some e => (e, false) | none => (n, true)) := Lib.hid (HC.out.trans (by rw [HNN.out]; simp))
        clear HC
        go_wp2_with fail
        refine H1.out.mono ?_
        rintro e w' ⟨rfl, rfl⟩
        go_wp2_with fail
        go_loopg [7] (n + 4 - (i + 2)) (fun u v w9 => ∃ j : Nat, u = n + 4 - j ∧ 2 ≤ j ∧ j ≤ n + 2 ∧ v = .int .i64 j ∧ w9 = w' ∧ Hid (comEnd (i + 2) ((cs R).drop (i + 2)) = comEnd j ((cs R).drop j)))
        case atStart => exact ⟨i + 2, rfl, by omega, by omega, by go_num, rfl, Lib.hid rfl⟩
        case round =>
          obtain ⟨j, rfl, hj2, hj, rfl, rfl, hs⟩ := hrel
          by_cases hlt : j < n
          · have HG := Lib.hid (com_go (cs R) j (by rw [HNN.out]; exact hlt))
            have A1 := HA.out (j + 1)
            rw [show ((j + 1 : Nat) : Int) = (j : Int) + 1 by omega] at A1
            obtain ⟨t, ht⟩ : ∃ t : Int, t = ((chAt (cs R) (j + 1)).toNat : Int) := ⟨_, rfl⟩
            rw [← ht] at A1 HG
            replace A1 := Lib.hid A1
            clear ht
            obtain ⟨r, hr⟩ : ∃ r, R[j]? = some r := ⟨R[j]'(by rw [HN2.out]; exact hlt), by simp⟩
            obtain ⟨b, o, rfl, hat⟩ := hrow (by intro h; simp at h; subst h; simp at hr)
            have c0 := hat.cell (i := j) (cs := r.v) (by simp [hr]) (j := 0) (u := .int .u8 r.c.toNat) rfl
            rw [cs_at hr] at HG
            simp only [Nat.add_zero] at c0
            obtain ⟨z, hz⟩ : ∃ z : Int, z = (r.c.toNat : Int) := ⟨_, rfl⟩
            rw [← hz] at HG c0
            clear hz hr hat
            by_cases hz42 : z = 42
            · subst hz42
              by_cases ht47 : t = 47
              · subst ht47
                have hv := Lib.hid (HG.out.trans (if_pos ⟨rfl, rfl⟩))
                clear HG
                go_wp2_with fail
                refine A1.out.mono ?_
                rintro e w' ⟨rfl, rfl⟩
                go_wp2
                go_ret2
                exact ⟨by rw [HV.out, hs.out, hv.out]; rfl, rfl⟩
              · have ht47' : (t == 47) = false := by simpa using ht47
                have hv := Lib.hid (HG.out.trans (if_neg (fun h => ht47 h.2)))
                clear HG
                go_wp2_with fail
                refine A1.out.mono ?_
                rintro e w' ⟨rfl, rfl⟩
                go_wp2_with fail
                go_roundg (n + 4 - (j + 1))
                case measure => omega
                case rel => exact ⟨j + 1, rfl, by omega, by omega, by go_num, rfl, Lib.hid (hs.out.trans hv.out)⟩
            · have hz42' : (z == 42) = false := by simpa using hz42
              have hv := Lib.hid (HG.out.trans (if_neg (fun h => hz42 h.1)))
              clear HG
              go_wp2_with fail
              go_roundg (n + 4 - (j + 1))
              case measure => omega
              case rel => exact ⟨j + 1, rfl, by omega, by omega, by go_num, rfl, Lib.hid (hs.out.trans hv.out)⟩
          · have hv : comEnd j ((cs R).drop j) = none := com_end (by rw [HNN.out]; omega)
            replace hv := Lib.hid hv
            go_wp2
            go_ret2
            exact ⟨by rw [HV.out, hs.out, hv.out]; rfl, rfl⟩
      · have hy42' : (y == 42) = false := by simpa using hy42
        go_wp2_with fail
        refine H1.out.mono ?_
        rintro e w' ⟨rfl, rfl⟩
        go_wp2_with fail
        refine H1.out.mono ?_
        rintro e w' ⟨rfl, rfl⟩
        have hv : Hid (commentL (cs R) i = (i, false)) := Lib.hid (HC.out.trans (by simp [hy47, hy42]))
        go_wp2
        go_ret2
        exact ⟨by rw [hv.out]; rfl, rfl⟩
  · have hx47' : (x == 47) = false := by simpa using hx47
    have hv : Hid (commentL (cs R) i = (i, false)) := Lib.hid (HC.out.trans (by simp [hx47]))
    go_wp2
    go_ret2
    exact ⟨by rw [hv.out]; rfl, rfl⟩
end Go.Proofs.YtfaoamdlknlgpaaGreat
