/- Texts of this seat's proofs, laid into one file. -/
import Derived.Test.YtfaoamdlknlgpaaGreatSubstHashDoneG36
import Derived.Test.YtfaoamdlknlgpaaGreatSubstHashDoneG22
/- args: the document's Unquote: how many letters stand ahead. -/
namespace Go.Proofs.YtfaoamdlknlgpaaGreat
open Go.RowKit
set_option linter.unusedVariables false

def prefsB : List ByteArray := [⟨#[]⟩, ⟨#[76]⟩, ⟨#[117]⟩, ⟨#[85]⟩, ⟨#[117, 56]⟩]
theorem prefsB_map : prefsB.map (fun p => p.data.toList) = prefs := rfl

def aheadV (o : Option Nat) : Int := match o with | some n => n | none => -1

theorem prefs_at {i : Nat} {p : ByteArray} (h : prefsB[i]? = some p) : p.size ≤ 2 ∧ prefs.drop i = p.data.toList :: prefs.drop (i + 1) := by
  have hi := (List.getElem?_eq_some_iff.1 h).1
  match i, hi with
  | 0, _ => simp [prefsB] at h; subst h; exact ⟨by decide, rfl⟩
  | 1, _ => simp [prefsB] at h; subst h; exact ⟨by decide, rfl⟩
  | 2, _ => simp [prefsB] at h; subst h; exact ⟨by decide, rfl⟩
  | 3, _ => simp [prefsB] at h; subst h; exact ⟨by decide, rfl⟩
  | 4, _ => simp [prefsB] at h; subst h; exact ⟨by decide, rfl⟩

theorem byte_chAt {s : ByteArray} {i : Nat} (h : i < s.size) : (s[i]'h) = chAt s.data.toList i := by
  unfold chAt
  rw [List.getD_eq_getElem?_getD, List.getElem?_eq_getElem (by rw [sz_list]; exact h)]
  simp [ByteArray.getElem_eq_getElem_data]

theorem beq_list {a b : ByteArray} : (a.toList == b.toList) = (a.data.toList == b.data.toList) := by rw [Lib.toList_data, Lib.toList_data]

set_option maxRecDepth 100000 in
set_option maxHeartbeats 4000000 in
theorem rAhead_any (s : ByteArray) (hs : s.size ≤ 1000000) (w : World) :
    Calls Tryz.prog 43 #[.string s, .int .u8 34] w fun e w' => e = .returned (.int .i64 (aheadV (aheadL s.data.toList))) ∧ Below w.heap.size w w' := by
  obtain ⟨R, hR⟩ : ∃ R, R = aheadV (aheadL s.data.toList) := ⟨_, rfl⟩
  rw [← hR]
  have hR0 : Hid (aheadV (((prefs.drop 0).find? (aheadB s.data.toList)).map List.length) = R) := Lib.hid hR.symm
  clear hR
  have hrow0 : Hid (Row (w.alloc (.cells #[.string ⟨#[]⟩, .string ⟨#[76]⟩, .string ⟨#[117]⟩, .string ⟨#[85]⟩, .string ⟨#[117, 56]⟩] 9)) 1 (some ⟨w.heap.size, 0, none⟩) (prefsB.map fun p => [.string p])) := Lib.hid (row_new w (css := prefsB.map fun p => [.string p]) (by simp [prefsB]) 9 (by simp [prefsB]) rfl)
  have hb0 : Hid (Below w.heap.size w (w.alloc (.cells #[.string ⟨#[]⟩, .string ⟨#[76]⟩, .string ⟨#[117]⟩, .string ⟨#[85]⟩, .string ⟨#[117, 56]⟩] 9))) := Lib.hid ((Below.refl _ w).alloc (Nat.le_refl _) _)
  go_enter Tryz.func43, Tryz.ntmps43
  go_wp2_with fail
  go_loopg [6, 7] 5 (fun q v6 v7 wx => ∃ i : Nat, q = 5 - i ∧ i ≤ 5 ∧ v6 = .int .i64 i ∧ Hid (aheadV (((prefs.drop i).find? (aheadB s.data.toList)).map List.length) = R) ∧ Hid (Row wx 1 (some ⟨w.heap.size, 0, none⟩) (prefsB.map fun p => [.string p])) ∧ Hid (Below w.heap.size w wx))
  case atStart => exact ⟨0, rfl, Nat.zero_le _, rfl, hR0, hrow0, hb0⟩
  case round =>
    clear hR0 hrow0 hb0
    obtain ⟨i, hq, hi, rfl, hR, hrow, hb⟩ := hrel
    replace hq := hq.symm
    subst hq
    have hsB := hb.out.size
    by_cases hin : i < 5
    · have hin' : (i : Int) < 5 := by omega
      have f4 : Hid (5 - (i + 1) < 5 - i) := Lib.hid (by omega)
      have g1 : IntKind.i64.wrap ((i : Int) + 1) = (i : Int) + 1 := IntWalk.i64_in _ (by omega)
      obtain ⟨p, hp⟩ : ∃ p, prefsB[i]? = some p := ⟨_, List.getElem?_eq_getElem hin⟩
      obtain ⟨hp2, hpd⟩ := prefs_at hp
      have x0 : wr.cell? ⟨w.heap.size, i, none⟩ = some (.string p) := by
        obtain ⟨b', o', e, hat⟩ := hrow.out (by simp [prefsB])
        simp only [Option.some.injEq, Addr.mk.injEq, and_true] at e
        obtain ⟨rfl, rfl⟩ := e
        have := hat i [.string p] (by rw [List.getElem?_map, hp]; rfl) 0 _ rfl
        simpa using this
      have hstep := hR.out
      rw [hpd, List.find?_cons] at hstep
      have g2 : IntKind.i64.wrap ((p.size : Int) + 2) = (p.size : Int) + 2 := IntWalk.i64_in _ (by omega)
      have g3 : IntKind.i64.wrap ((s.size : Int) - 1) = (s.size : Int) - 1 := IntWalk.i64_in _ (by omega)
      clear hp hpd
      by_cases h1 : p.size + 2 ≤ s.size
      · have h1b : decide ((p.size : Int) + 2 ≤ (s.size : Int)) = true := decide_eq_true (by omega)
        have h1i : (p.size : Int) ≤ (s.size : Int) := by omega
        have h1l : (p.size : Int) < (s.size : Int) := by omega
        have h1z : (0 : Int) ≤ (s.size : Int) - 1 := by omega
        have h1y : (s.size : Int) - 1 < (s.size : Int) := by omega
        have h1t : ((s.size : Int) - 1).toNat = s.size - 1 := by omega
        have hb1 : ((s.extract 0 p.size).toList == p.toList) = (s.data.toList.take p.data.toList.length == p.data.toList) := by
          rw [beq_list]
          have := ext_list s 0 p.size
          rw [Nat.zero_add] at this
          rw [this, sz_list]; rfl
        have hb2 : (s[p.size]'(by omega)) = chAt s.data.toList p.size := byte_chAt _
        have hb3 : (s[s.size - 1]'(by omega)) = chAt s.data.toList (s.size - 1) := byte_chAt _
        have hab : aheadB s.data.toList p.data.toList = ((s.data.toList.take p.data.toList.length == p.data.toList) && decide (chAt s.data.toList p.size = 34) && decide (chAt s.data.toList (s.size - 1) = 34)) := by
          unfold aheadB
          rw [sz_list, sz_list, decide_eq_true h1, Bool.true_and]
        rw [hab] at hstep
        generalize (s.data.toList.take p.data.toList.length == p.data.toList) = e1 at hb1 hstep
        generalize chAt s.data.toList p.size = c2 at hb2 hstep
        generalize chAt s.data.toList (s.size - 1) = c3 at hb3 hstep
        clear hab
        replace hstep := Lib.hid hstep
        have h1n : decide (p.size + 2 ≤ s.size) = true := decide_eq_true h1
        cases e1 with
        | false =>
          go_wp2_with fail
          go_quiet (fail)
          have hbn := Lib.hid (hb.out.trans ((below_drewN (Below.refl _ wr) nq).mono hsB))
          have hrn := Lib.hid (hrow.out.below (below_drewN (Below.refl _ wr) nq))
          go_wp2_with fail
          go_roundg (5 - (i + 1))
          case measure => exact f4.out
          case rel => exact ⟨i + 1, rfl, by omega, by simp, Lib.hid (by have := hstep.out; simpa using this), hrn, hbn⟩
        | true =>
          by_cases hc2 : c2 = 34
          · subst hc2
            have h34 : ((UInt8.toNat 34 : Nat) : Int) = 34 := rfl
            by_cases hc3 : c3 = 34
            · subst hc3
              go_wp2_with fail
              go_quiet (fail)
              have hbn := Lib.hid (hb.out.trans ((below_drewN (Below.refl _ wr) nq).mono hsB))
              have hR2 : Hid ((p.size : Int) = R) := Lib.hid (by have := hstep.out; simpa [aheadV, sz_list] using this)
              go_wp2
              go_ret
              exact ⟨by rw [← hR2.out]; rfl, hbn.out⟩
            · obtain ⟨n1, n2⟩ := u8_int (n := 34) (by decide) hc3
              replace n1 : ¬ (c3.toNat : Int) = 34 := n1
              replace n2 : ((c3.toNat : Int) == 34) = false := n2
              replace hc3 := Lib.hid hc3
              go_wp2_with fail
              go_quiet (fail)
              have hbn := Lib.hid (hb.out.trans ((below_drewN (Below.refl _ wr) nq).mono hsB))
              have hrn := Lib.hid (hrow.out.below (below_drewN (Below.refl _ wr) nq))
              go_wp2_with fail
              go_roundg (5 - (i + 1))
              case measure => exact f4.out
              case rel => exact ⟨i + 1, rfl, by omega, by simp, Lib.hid (by have := hstep.out; simpa [hc3.out] using this), hrn, hbn⟩
          · obtain ⟨n1, n2⟩ := u8_int (n := 34) (by decide) hc2
            replace n1 : ¬ (c2.toNat : Int) = 34 := n1
            replace n2 : ((c2.toNat : Int) == 34) = false := n2
            replace hc2 := Lib.hid hc2
            go_wp2_with fail
            go_quiet (fail)
            have hbn := Lib.hid (hb.out.trans ((below_drewN (Below.refl _ wr) nq).mono hsB))
            have hrn := Lib.hid (hrow.out.below (below_drewN (Below.refl _ wr) nq))
            go_wp2_with fail
            go_roundg (5 - (i + 1))
            case measure => exact f4.out
            case rel => exact ⟨i + 1, rfl, by omega, by simp, Lib.hid (by have := hstep.out; simpa [hc2.out] using this), hrn, hbn⟩
      · have h1b : decide ((p.size : Int) + 2 ≤ (s.size : Int)) = false := decide_eq_false (by omega)
        have h1n : decide (p.size + 2 ≤ s.size) = false := decide_eq_false h1
        have hab : aheadB s.data.toList p.data.toList = false := by
          unfold aheadB
          rw [sz_list, sz_list, h1n]
          simp
        rw [hab] at hstep
        replace hstep := Lib.hid hstep
        clear hab h1
        go_wp2_with fail
        go_quiet (fail)
        have hbn := Lib.hid (hb.out.trans ((below_drewN (Below.refl _ wr) nq).mono hsB))
        have hrn := Lib.hid (hrow.out.below (below_drewN (Below.refl _ wr) nq))
        go_wp2_with fail
        go_roundg (5 - (i + 1))
        case measure => exact f4.out
        case rel => exact ⟨i + 1, rfl, by omega, by simp, Lib.hid (by have := hstep.out; simpa using this), hrn, hbn⟩
    · obtain rfl : i = 5 := by omega
      have hR2 : Hid ((-1 : Int) = R) := Lib.hid hR.out
      clear hin hi
      go_wp2
      go_ret
      exact ⟨by rw [← hR2.out]; rfl, hb.out⟩
end Go.Proofs.YtfaoamdlknlgpaaGreat

/- args: the document's Unquote. -/
namespace Go.Proofs.YtfaoamdlknlgpaaGreat
open Go.RowKit
set_option linter.unusedVariables false

def unqV (o : Option (List UInt8)) : Value := match o with | some Y => .tuple #[.string ⟨Y.toArray⟩, .bool true] | none => .tuple #[.string ⟨#[]⟩, .bool false]

theorem inR_bad {c : UInt8} (r : List UInt8) (h : c = 34 ∨ c = 10) : inR (c :: r) = none := by
  cases r with
  | nil => unfold inR; rw [if_pos (by rcases h with h | h <;> simp [h])]
  | cons d r => unfold inR; rw [if_pos h]
theorem inR_plain {c : UInt8} (r : List UInt8) (h1 : c ≠ 34) (h2 : c ≠ 10) (h3 : c ≠ 92) : inR (c :: r) = (inR r).map (c :: ·) := by
  cases r with
  | nil => unfold inR; rw [if_neg (by simp [h1, h2, h3])]; rfl
  | cons d r => conv => lhs; unfold inR
                rw [if_neg (by simp [h1, h2]), if_pos h3]
theorem inR_end : inR [92] = none := rfl
theorem inR_esc {d : UInt8} (r : List UInt8) (h : d = 34 ∨ d = 92) : inR (92 :: d :: r) = (inR r).map (d :: ·) := by
  conv => lhs; unfold inR
  rw [if_neg (by decide), if_neg (by simp), if_pos h]
theorem inR_nl (r : List UInt8) : inR (92 :: 10 :: r) = none := by
  unfold inR
  rw [if_neg (by decide), if_neg (by simp), if_neg (by decide), if_pos rfl]
theorem inR_two {d : UInt8} (r : List UInt8) (h1 : d ≠ 34) (h2 : d ≠ 92) (h3 : d ≠ 10) : inR (92 :: d :: r) = (inR r).map (92 :: d :: ·) := by
  conv => lhs; unfold inR
  rw [if_neg (by decide), if_neg (by simp), if_neg (by simp [h1, h2]), if_neg h3]

theorem map_app (o : Option (List UInt8)) (Y Z : List UInt8) : ((o.map fun x => Z ++ x).map fun x => Y ++ x) = o.map fun x => (Y ++ Z) ++ x := by
  cases o <;> simp

set_option maxRecDepth 100000 in
set_option maxHeartbeats 4000000 in
theorem rUnquote_any (s : ByteArray) (hs : s.size ≤ 1000000) (w : World) :
    Calls Tryz.prog 15 #[.string s] w fun e w' => e = .returned (unqV (unqR s.data.toList)) ∧ Below w.heap.size w w' := by
  have HA := rAhead_any s hs w
  cases ha : aheadL s.data.toList with
  | none =>
    have hr : unqR s.data.toList = none := by unfold unqR; rw [ha]; rfl
    rw [ha] at HA
    replace HA := Lib.hid HA
    unfold aheadV at HA
    rw [hr]
    clear ha hr
    go_enter Tryz.func15, Tryz.ntmps15
    go_wp2_with fail
    refine HA.out.mono ?_
    rintro e w1 ⟨rfl, b1⟩
    replace b1 := Lib.hid b1
    go_wp2
    go_ret2
    exact ⟨rfl, b1.out⟩
  | some n =>
    obtain ⟨p, X, hp, hpl, hAf, hin⟩ := ahead_form ha
    have hr : unqR s.data.toList = inR X := by unfold unqR; rw [ha, ← hin]; rfl
    rw [ha] at HA
    replace HA : Calls Tryz.prog 43 #[.string s, .int .u8 34] w fun e w' => e = .returned (.int .i64 (n : Nat)) ∧ Below w.heap.size w w' := HA
    replace HA := Lib.hid HA
    rw [hr]
    have hsz : s.size = n + X.length + 2 := by
      rw [← sz_list, hAf]; simp; omega
    obtain ⟨I, hI⟩ : ∃ I, I = s.extract (n + 1) (s.size - 1) := ⟨_, rfl⟩
    have hIX : I.data.toList = X := by
      rw [hI, show s.size - 1 = (n + 1) + (s.size - 1 - (n + 1)) by omega, ext_list, ← hin]
      unfold insideL
      rw [sz_list]
    have hIs : I.size = X.length := by rw [← sz_list, hIX]
    obtain ⟨m, hm⟩ : ∃ m, m = X.length := ⟨_, rfl⟩
    have g1 : IntKind.i64.wrap ((n : Int) + 1) = (n : Int) + 1 := IntWalk.i64_in _ (by omega)
    have g2 : IntKind.i64.wrap ((s.size : Int) - 1) = (s.size : Int) - 1 := IntWalk.i64_in _ (by omega)
    have g3 : ((s.size : Int) - 1).toNat = s.size - 1 := by omega
    have g4 : (n : Int) + 1 ≤ (s.size : Int) - 1 := by omega
    have g5 : (s.size : Int) - 1 ≤ (s.size : Int) := by omega
    have g6 : ((n : Int) + 1).toNat = n + 1 := by omega
    have g7 : ¬ (n : Int) < 0 := by omega
    have hm6 : m ≤ 1000000 := by omega
    have hIm : I.size = m := by omega
    have HI : Hid (s.extract (n + 1) (s.size - 1) = I) := Lib.hid hI.symm
    have hIXh := Lib.hid hIX
    obtain ⟨R, hR⟩ : ∃ R, R = inR X := ⟨_, rfl⟩
    rw [← hR]
    have hXm := Lib.hid hm.symm
    have hR0 : Hid ((inR (X.drop 0)).map (fun x => ([] : List UInt8) ++ x) = R) := Lib.hid (by rw [hR, List.drop_zero]; cases inR X <;> rfl)
    clear hR hm hIs hIX hsz hin hAf hpl hp hr ha
    replace hI := hI.symm
    go_enter Tryz.func15, Tryz.ntmps15
    go_wp2_with fail
    refine HA.out.mono ?_
    rintro e w1 ⟨rfl, b1⟩
    replace b1 := Lib.hid b1
    go_wp2_with fail
    clear HA g1 g2 g3 g4 g5 g6 g7
    go_loopg [6, 7, 30, 54, 59, 74] m (fun q v6 v7 v30 v54 v59 v74 wx => ∃ (i : Nat) (Y : List UInt8), q = m - i ∧ i ≤ m ∧ v7 = .int .i64 i ∧ Hid (Own wx w.heap.size 5 1 v6 (byC Y)) ∧ Hid (Y.length ≤ i) ∧ Hid ((inR (X.drop i)).map (fun x => Y ++ x) = R) ∧ Hid (Below w.heap.size w wx))
    case atStart => exact ⟨0, [], rfl, Nat.zero_le _, rfl, Lib.hid (Own.nil _ _ _ _), Lib.hid (Nat.zero_le _), hR0, b1⟩
    case round =>
      clear hR0 b1
      obtain ⟨i, Y, hq, hi, rfl, ho, hYi, hR, hb⟩ := hrel
      replace hq := hq.symm
      subst hq
      have hsB := hb.out.size
      have hlen : Hid ((byC Y).length + 3 ≤ 1000000000) := Lib.hid (by rw [byC_len]; have := hYi.out; omega)
      by_cases hin : i < m
      · have hin' : (i : Int) < m := by omega
        have f4 : Hid (m - (i + 1) < m - i) := Lib.hid (by omega)
        have f5 : Hid (i + 1 < m → m - (i + 2) < m - i) := Lib.hid (by omega)
        have g1 : IntKind.i64.wrap ((i : Int) + 1) = (i : Int) + 1 := IntWalk.i64_in _ (by omega)
        have g2 : IntKind.i64.wrap ((i : Int) + 1 + 1) = (i : Int) + 1 + 1 := IntWalk.i64_in _ (by omega)
        obtain ⟨c, hc⟩ : ∃ c, X[i]? = some c := ⟨_, List.getElem?_eq_getElem (by rw [hXm.out]; exact hin)⟩
        have hci : (I[i]'(by omega)) = c := by
          rw [byte_chAt, hIXh.out]; unfold chAt; rw [List.getD_eq_getElem?_getD, hc]; rfl
        have hd : X.drop i = c :: X.drop (i + 1) := by
          rw [List.drop_eq_getElem_cons (by rw [hXm.out]; exact hin)]; congr 1; exact (List.getElem?_eq_some_iff.1 hc).2
        have hst := hR.out
        rw [hd] at hst
        clear hc hR
        by_cases c34 : c = 34
        · subst c34
          rw [inR_bad _ (.inl rfl)] at hst
          have l34 : ((UInt8.toNat 34 : Nat) : Int) = 34 := rfl
          have hRn : Hid (R = none) := Lib.hid hst.symm
          clear hst
          go_wp2
          go_ret2
          exact ⟨by rw [hRn.out]; rfl, hb.out⟩
        obtain ⟨c34a, c34b⟩ := u8_int (n := 34) (by decide) c34
        replace c34a : ¬ (c.toNat : Int) = 34 := c34a
        replace c34b : ((c.toNat : Int) == 34) = false := c34b
        by_cases c10 : c = 10
        · subst c10
          rw [inR_bad _ (.inr rfl)] at hst
          have l10 : ((UInt8.toNat 10 : Nat) : Int) = 10 := rfl
          have hRn : Hid (R = none) := Lib.hid hst.symm
          clear hst
          go_wp2
          go_ret2
          exact ⟨by rw [hRn.out]; rfl, hb.out⟩
        obtain ⟨c10a, c10b⟩ := u8_int (n := 10) (by decide) c10
        replace c10a : ¬ (c.toNat : Int) = 10 := c10a
        replace c10b : ((c.toNat : Int) == 10) = false := c10b
        by_cases c92 : c = 92
        · subst c92
          have l92 : ((UInt8.toNat 92 : Nat) : Int) = 92 := rfl
          by_cases hi1 : i + 1 < m
          · have hi1' : (i : Int) + 1 < m := by omega
            have hi1n : ¬ (i : Int) + 1 = m := by omega
            have hi1b : ((i : Int) + 1 == (m : Int)) = false := beq_false_of_ne hi1n
            have hiz : (0 : Int) ≤ (i : Int) + 1 := by omega
            have hit : ((i : Int) + 1).toNat = i + 1 := by omega
            obtain ⟨d, hdd⟩ : ∃ d, X[i + 1]? = some d := ⟨_, List.getElem?_eq_getElem (by rw [hXm.out]; exact hi1)⟩
            have hdi : (I[i + 1]'(by omega)) = d := by
              rw [byte_chAt, hIXh.out]; unfold chAt; rw [List.getD_eq_getElem?_getD, hdd]; rfl
            have hd2 : X.drop (i + 1) = d :: X.drop (i + 2) := by
              rw [List.drop_eq_getElem_cons (by rw [hXm.out]; exact hi1)]; congr 1; exact (List.getElem?_eq_some_iff.1 hdd).2
            rw [hd2] at hst
            clear hdd hd2 hd
            by_cases d34 : d = 34
            · subst d34
              have l34 : ((UInt8.toNat 34 : Nat) : Int) = 34 := rfl
              rw [inR_esc _ (.inl rfl)] at hst
              have hst' : Hid ((inR (X.drop (i + 2))).map (fun x => (Y ++ [34]) ++ x) = R) := Lib.hid (by rw [← hst, ← map_app]; rfl)
              clear hst
              go_wp2_with (at_builtin; first
                | (refine wpList_append1 Eb5 rfl rfl ho.out rfl rfl (news := [.int .u8 34]) (by simp) rfl (by simp [Value.oneCell']) (by have := hlen.out; omega) (by decide) hsB ?_; intro v0 w2 hown0 hg0; have hb0 := bapp hb.out ho.out hg0 hsB; have hs0 := hb0.size))
              go_roundg (m - (i + 2))
              case measure => exact f5.out hi1
              case rel => exact ⟨i + 2, Y ++ [34], rfl, by omega, by simp; omega, Lib.hid (by simpa [byC] using hown0), Lib.hid (by have := hYi.out; rw [List.length_append]; simp; omega), hst', Lib.hid hb0⟩
            obtain ⟨d34a, d34b⟩ := u8_int (n := 34) (by decide) d34
            replace d34a : ¬ (d.toNat : Int) = 34 := d34a
            replace d34b : ((d.toNat : Int) == 34) = false := d34b
            by_cases d92 : d = 92
            · subst d92
              rw [inR_esc _ (.inr rfl)] at hst
              have hst' : Hid ((inR (X.drop (i + 2))).map (fun x => (Y ++ [92]) ++ x) = R) := Lib.hid (by rw [← hst, ← map_app]; rfl)
              clear hst
              go_wp2_with (at_builtin; first
                | (refine wpList_append1 Eb5 rfl rfl ho.out rfl rfl (news := [.int .u8 92]) (by simp) rfl (by simp [Value.oneCell']) (by have := hlen.out; omega) (by decide) hsB ?_; intro v0 w2 hown0 hg0; have hb0 := bapp hb.out ho.out hg0 hsB; have hs0 := hb0.size))
              go_roundg (m - (i + 2))
              case measure => exact f5.out hi1
              case rel => exact ⟨i + 2, Y ++ [92], rfl, by omega, by simp; omega, Lib.hid (by simpa [byC] using hown0), Lib.hid (by have := hYi.out; rw [List.length_append]; simp; omega), hst', Lib.hid hb0⟩
            obtain ⟨d92a, d92b⟩ := u8_int (n := 92) (by decide) d92
            replace d92a : ¬ (d.toNat : Int) = 92 := d92a
            replace d92b : ((d.toNat : Int) == 92) = false := d92b
            by_cases d10 : d = 10
            · subst d10
              rw [inR_nl] at hst
              have l10 : ((UInt8.toNat 10 : Nat) : Int) = 10 := rfl
              have hRn : Hid (R = none) := Lib.hid hst.symm
              clear hst
              go_wp2
              go_ret2
              exact ⟨by rw [hRn.out]; rfl, hb.out⟩
            rw [inR_two _ d34 d92 d10] at hst
            obtain ⟨d10a, d10b⟩ := u8_int (n := 10) (by decide) d10
            replace d10a : ¬ (d.toNat : Int) = 10 := d10a
            replace d10b : ((d.toNat : Int) == 10) = false := d10b
            have hst' : Hid ((inR (X.drop (i + 2))).map (fun x => (Y ++ [92, d]) ++ x) = R) := Lib.hid (by rw [← hst, ← map_app]; rfl)
            clear hst
            replace d34 := Lib.hid d34
            replace d92 := Lib.hid d92
            replace d10 := Lib.hid d10
            go_wp2_with (at_builtin; first
              | (refine wpList_append1 Eb5 rfl rfl ho.out rfl rfl (news := [.int .u8 92]) (by simp) rfl (by simp [Value.oneCell']) (by have := hlen.out; omega) (by decide) hsB ?_; intro v0 w2 hown0 hg0; have hb0 := bapp hb.out ho.out hg0 hsB; have hs0 := hb0.size)
              | (refine wpList_append1 Eb5 rfl rfl hown0 rfl rfl (news := [.int .u8 d.toNat]) (by simp) rfl (by simp [Value.oneCell']) (by rw [List.length_append]; have := hlen.out; simp; omega) (by decide) hs0 ?_; intro v1 w3 hown1 hg1; have hb1 := bapp hb0 hown0 hg1 hs0; have hs1 := hb1.size))
            go_roundg (m - (i + 2))
            case measure => exact f5.out hi1
            case rel => exact ⟨i + 2, Y ++ [92, d], rfl, by omega, by simp; omega, Lib.hid (by simpa [byC] using hown1), Lib.hid (by have := hYi.out; rw [List.length_append]; simp; omega), hst', Lib.hid hb1⟩
          · have hi1n : (i : Int) + 1 = m := by omega
            have hi1b : ((i : Int) + 1 == (m : Int)) = true := by rw [hi1n]; simp
            rw [List.drop_eq_nil_of_le (by rw [hXm.out]; omega), inR_end] at hst
            have hRn : Hid (R = none) := Lib.hid hst.symm
            clear hst
            go_wp2
            go_ret2
            exact ⟨by rw [hRn.out]; rfl, hb.out⟩
        rw [inR_plain _ c34 c10 c92] at hst
        obtain ⟨c92a, c92b⟩ := u8_int (n := 92) (by decide) c92
        replace c92a : ¬ (c.toNat : Int) = 92 := c92a
        replace c92b : ((c.toNat : Int) == 92) = false := c92b
        have hst' : Hid ((inR (X.drop (i + 1))).map (fun x => (Y ++ [c]) ++ x) = R) := Lib.hid (by rw [← hst, ← map_app]; rfl)
        clear hst hd
        replace c34 := Lib.hid c34
        replace c92 := Lib.hid c92
        replace c10 := Lib.hid c10
        go_wp2_with (at_builtin; first
          | (refine wpList_append1 Eb5 rfl rfl ho.out rfl rfl (news := [.int .u8 c.toNat]) (by simp) rfl (by simp [Value.oneCell']) (by have := hlen.out; omega) (by decide) hsB ?_; intro v0 w2 hown0 hg0; have hb0 := bapp hb.out ho.out hg0 hsB; have hs0 := hb0.size))
        go_roundg (m - (i + 1))
        case measure => exact f4.out
        case rel => exact ⟨i + 1, Y ++ [c], rfl, by omega, by simp, Lib.hid (by simpa [byC] using hown0), Lib.hid (by have := hYi.out; rw [List.length_append]; simp; omega), hst', Lib.hid hb0⟩
      · obtain rfl : i = m := by omega
        have hin' : ¬ (i : Int) < (i : Int) := by omega
        have hRY : Hid (R = some Y) := Lib.hid (by
          have := hR.out
          rw [List.drop_eq_nil_of_le (by rw [hXm.out]; exact Nat.le_refl _)] at this
          rw [← this]; simp [inR])
        have hcv := run_str_own (P := Tryz.prog) (l := Y) (by simpa [byC] using ho.out) 58 9 Tryz.underlying58 Tryz.underlying5 Tryz.underlying9
        go_wp2
        go_ret2
        exact ⟨by rw [hRY.out]; rfl, hb.out⟩
end Go.Proofs.YtfaoamdlknlgpaaGreat
