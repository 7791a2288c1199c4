/- Texts of this seat's proofs, laid into one file. -/
import Derived.Test.YtllbbacnakoomaaGreatDoorE14
import Derived.Deep.RegionHeld3
/- convert: how many letters a constant has ahead of its quote, by the document. -/
namespace Go.Proofs.YtllbbacnakoomaaGreatDoor
open Go.RowKit
set_option linter.unusedVariables false

def aheadQV (o : Option Nat) : Int := match o with | some n => n | none => -1
def aheadQB (q : UInt8) (A p : List UInt8) : Bool := decide (p.length + 2 ≤ A.length) && (A.take p.length == p) && decide (chAt A p.length = q) && decide (chAt A (A.length - 1) = q)
theorem ahead_Q (q : UInt8) (A : List UInt8) : aheadQ q A = (prefs.find? (aheadQB q A)).map List.length := rfl

theorem prefsQ_at {i : Nat} {p : ByteArray} (h : prefsB[i]? = some p) : p.size ≤ 2 ∧ prefs.drop i = p.data.toList :: prefs.drop (i + 1) := by
  have hi := (List.getElem?_eq_some_iff.1 h).1
  match i, hi with
  | 0, _ => simp [prefsB] at h; subst h; exact ⟨by decide, rfl⟩
  | 1, _ => simp [prefsB] at h; subst h; exact ⟨by decide, rfl⟩
  | 2, _ => simp [prefsB] at h; subst h; exact ⟨by decide, rfl⟩
  | 3, _ => simp [prefsB] at h; subst h; exact ⟨by decide, rfl⟩
  | 4, _ => simp [prefsB] at h; subst h; exact ⟨by decide, rfl⟩

set_option maxRecDepth 100000 in
set_option maxHeartbeats 4000000 in
theorem rAheadQ_any (q : UInt8) (s : ByteArray) (hs : s.size ≤ 1000000) (w : World) :
    Calls Tryz.prog 185 #[.string s, .int .u8 q.toNat] w fun e w' => e = .returned (.int .i64 (aheadQV (aheadQ q s.data.toList))) ∧ Below w.heap.size w w' := by
  obtain ⟨R, hR⟩ : ∃ R, R = aheadQV (aheadQ q s.data.toList) := ⟨_, rfl⟩
  rw [← hR]
  rw [ahead_Q] at hR
  have hR0 : Hid (aheadQV (((prefs.drop 0).find? (aheadQB q s.data.toList)).map List.length) = R) := Lib.hid hR.symm
  clear hR
  have hrow0 : Hid (Row (w.alloc (.cells #[.string ⟨#[]⟩, .string ⟨#[76]⟩, .string ⟨#[117]⟩, .string ⟨#[85]⟩, .string ⟨#[117, 56]⟩] 9)) 1 (some ⟨w.heap.size, 0, none⟩) (prefsB.map fun p => [.string p])) := Lib.hid (row_new w (css := prefsB.map fun p => [.string p]) (by simp [prefsB]) 9 (by simp [prefsB]) rfl)
  have hb0 : Hid (Below w.heap.size w (w.alloc (.cells #[.string ⟨#[]⟩, .string ⟨#[76]⟩, .string ⟨#[117]⟩, .string ⟨#[85]⟩, .string ⟨#[117, 56]⟩] 9))) := Lib.hid ((Below.refl _ w).alloc (Nat.le_refl _) _)
  go_enter Tryz.func185, Tryz.ntmps185
  go_wp2_with fail
  go_loopg [6, 7] 5 (fun k v6 v7 wx => ∃ i : Nat, k = 5 - i ∧ i ≤ 5 ∧ v6 = .int .i64 i ∧ Hid (aheadQV (((prefs.drop i).find? (aheadQB q s.data.toList)).map List.length) = R) ∧ Hid (Row wx 1 (some ⟨w.heap.size, 0, none⟩) (prefsB.map fun p => [.string p])) ∧ Hid (Below w.heap.size w wx))
  case atStart => exact ⟨0, rfl, Nat.zero_le _, rfl, hR0, hrow0, hb0⟩
  case round =>
    clear hR0 hrow0 hb0
    obtain ⟨i, hq, hi, rfl, hR, hrow, hb⟩ := hrel
    replace hq := hq.symm
    subst hq
    have hsB := hb.out.size
    by_cases hin : i < 5
    · have hin' : (i : Int) < 5 := by omega
      have f4 : Hid (5 - (i + 1) < 5 - i) := Lib.hid (by omega)
      have g1 : IntKind.i64.wrap ((i : Int) + 1) = (i : Int) + 1 := IntWalk.i64_in _ (by omega)
      obtain ⟨p, hp⟩ : ∃ p, prefsB[i]? = some p := ⟨_, List.getElem?_eq_getElem hin⟩
      obtain ⟨hp2, hpd⟩ := prefsQ_at hp
      have x0 : wr.cell? ⟨w.heap.size, i, none⟩ = some (.string p) := by
        obtain ⟨b', o', e, hat⟩ := hrow.out (by simp [prefsB])
        simp only [Option.some.injEq, Addr.mk.injEq, and_true] at e
        obtain ⟨rfl, rfl⟩ := e
        have := hat i [.string p] (by rw [List.getElem?_map, hp]; rfl) 0 _ rfl
        simpa using this
      have hstep := hR.out
      rw [hpd, List.find?_cons] at hstep
      have g2 : IntKind.i64.wrap ((p.size : Int) + 2) = (p.size : Int) + 2 := IntWalk.i64_in _ (by omega)
      have g3 : IntKind.i64.wrap ((s.size : Int) - 1) = (s.size : Int) - 1 := IntWalk.i64_in _ (by omega)
      clear hp hpd
      by_cases h1 : p.size + 2 ≤ s.size
      · have h1b : decide ((p.size : Int) + 2 ≤ (s.size : Int)) = true := decide_eq_true (by omega)
        have h1i : (p.size : Int) ≤ (s.size : Int) := by omega
        have h1l : (p.size : Int) < (s.size : Int) := by omega
        have h1z : (0 : Int) ≤ (s.size : Int) - 1 := by omega
        have h1y : (s.size : Int) - 1 < (s.size : Int) := by omega
        have h1t : ((s.size : Int) - 1).toNat = s.size - 1 := by omega
        have hb1 : ((s.extract 0 p.size).toList == p.toList) = (s.data.toList.take p.data.toList.length == p.data.toList) := by
          rw [beq_list]
          have := ext_list s 0 p.size
          rw [Nat.zero_add] at this
          rw [this, sz_list]; rfl
        have hb2 : (s[p.size]'(by omega)) = chAt s.data.toList p.size := byte_chAt _
        have hb3 : (s[s.size - 1]'(by omega)) = chAt s.data.toList (s.size - 1) := byte_chAt _
        have hab : aheadQB q s.data.toList p.data.toList = ((s.data.toList.take p.data.toList.length == p.data.toList) && decide (chAt s.data.toList p.size = q) && decide (chAt s.data.toList (s.size - 1) = q)) := by
          unfold aheadQB
          rw [sz_list, sz_list, decide_eq_true h1, Bool.true_and]
        rw [hab] at hstep
        generalize (s.data.toList.take p.data.toList.length == p.data.toList) = e1 at hb1 hstep
        generalize chAt s.data.toList p.size = c2 at hb2 hstep
        generalize chAt s.data.toList (s.size - 1) = c3 at hb3 hstep
        clear hab
        replace hstep := Lib.hid hstep
        have h1n : decide (p.size + 2 ≤ s.size) = true := decide_eq_true h1
        cases e1 with
        | false =>
          go_wp2_with fail
          go_quiet (fail)
          have hbn := Lib.hid (hb.out.trans ((below_drN (Below.refl _ wr) nq).mono hsB))
          have hrn := Lib.hid (hrow.out.below (below_drN (Below.refl _ wr) nq))
          go_wp2_with fail
          go_roundg (5 - (i + 1))
          case measure => exact f4.out
          case rel => exact ⟨i + 1, rfl, by omega, by simp, Lib.hid (by have := hstep.out; simpa using this), hrn, hbn⟩
        | true =>
          by_cases hc2 : c2 = q
          · subst hc2
            by_cases hc3 : c3 = c2
            · subst hc3
              go_wp2_with fail
              go_quiet (fail)
              have hbn := Lib.hid (hb.out.trans ((below_drN (Below.refl _ wr) nq).mono hsB))
              have hR2 : Hid ((p.size : Int) = R) := Lib.hid (by have := hstep.out; simpa [aheadQV, sz_list] using this)
              go_wp2
              go_ret
              exact ⟨by rw [← hR2.out]; rfl, hbn.out⟩
            · obtain ⟨n1, n2⟩ := u8_nb hc3
              replace hc3 := Lib.hid hc3
              go_wp2_with fail
              go_quiet (fail)
              have hbn := Lib.hid (hb.out.trans ((below_drN (Below.refl _ wr) nq).mono hsB))
              have hrn := Lib.hid (hrow.out.below (below_drN (Below.refl _ wr) nq))
              go_wp2_with fail
              go_roundg (5 - (i + 1))
              case measure => exact f4.out
              case rel => exact ⟨i + 1, rfl, by omega, by simp, Lib.hid (by have := hstep.out; simpa [hc3.out] using this), hrn, hbn⟩
          · obtain ⟨n1, n2⟩ := u8_nb hc2
            replace hc2 := Lib.hid hc2
            go_wp2_with fail
            go_quiet (fail)
            have hbn := Lib.hid (hb.out.trans ((below_drN (Below.refl _ wr) nq).mono hsB))
            have hrn := Lib.hid (hrow.out.below (below_drN (Below.refl _ wr) nq))
            go_wp2_with fail
            go_roundg (5 - (i + 1))
            case measure => exact f4.out
            case rel => exact ⟨i + 1, rfl, by omega, by simp, Lib.hid (by have := hstep.out; simpa [hc2.out] using this), hrn, hbn⟩
      · have h1b : decide ((p.size : Int) + 2 ≤ (s.size : Int)) = false := decide_eq_false (by omega)
        have h1n : decide (p.size + 2 ≤ s.size) = false := decide_eq_false h1
        have hab : aheadQB q s.data.toList p.data.toList = false := by
          unfold aheadQB
          rw [sz_list, sz_list, h1n]
          simp
        rw [hab] at hstep
        replace hstep := Lib.hid hstep
        clear hab h1
        go_wp2_with fail
        go_quiet (fail)
        have hbn := Lib.hid (hb.out.trans ((below_drN (Below.refl _ wr) nq).mono hsB))
        have hrn := Lib.hid (hrow.out.below (below_drN (Below.refl _ wr) nq))
        go_wp2_with fail
        go_roundg (5 - (i + 1))
        case measure => exact f4.out
        case rel => exact ⟨i + 1, rfl, by omega, by simp, Lib.hid (by have := hstep.out; simpa using this), hrn, hbn⟩
    · obtain rfl : i = 5 := by omega
      have hR2 : Hid ((-1 : Int) = R) := Lib.hid hR.out
      clear hin hi
      go_wp2
      go_ret
      exact ⟨by rw [← hR2.out]; rfl, hb.out⟩
end Go.Proofs.YtllbbacnakoomaaGreatDoor

/- convert: a constant's letters and quote, by the document. -/
namespace Go.Proofs.YtllbbacnakoomaaGreatDoor
open Go.RowKit
set_option linter.unusedVariables false

theorem aheadQ_le {q : UInt8} {A : List UInt8} {n : Nat} (h : aheadQ q A = some n) : n + 2 ≤ A.length ∧ n ≤ 2 := by
  rw [ahead_Q] at h
  obtain ⟨p, hp, rfl⟩ := Option.map_eq_some_iff.1 h
  have hm := List.mem_of_find?_eq_some hp
  have hb := List.find?_some hp
  unfold aheadQB at hb
  simp only [Bool.and_eq_true, decide_eq_true_eq] at hb
  refine ⟨hb.1.1.1, ?_⟩
  simp only [prefs, List.mem_cons, List.not_mem_nil, or_false] at hm
  rcases hm with rfl | rfl | rfl | rfl | rfl <;> decide

def letV (s : ByteArray) (o : Option (Nat × UInt8)) : Value := match o with
  | none => .tuple #[.string ⟨#[]⟩, .int .u8 0, .bool false]
  | some p => .tuple #[.string (s.extract 0 p.1), .int .u8 p.2.toNat, .bool true]

theorem letQ_of {A : List UInt8} : lettersQ A = match aheadQ 39 A with | some n => some (n, 39) | none => match aheadQ 34 A with | some n => some (n, 34) | none => none := by
  unfold lettersQ
  cases aheadQ 39 A with
  | some n => rfl
  | none => cases aheadQ 34 A <;> rfl

set_option maxRecDepth 100000 in
set_option maxHeartbeats 4000000 in
theorem rLetters_any (s : ByteArray) (hs : s.size ≤ 1000000) (w : World) :
    Calls Tryz.prog 153 #[.string s] w fun e w' => e = .returned (letV s (lettersQ s.data.toList)) ∧ Below w.heap.size w w' := by
  obtain ⟨Q, hQ⟩ : ∃ Q, Q = lettersQ s.data.toList := ⟨_, rfl⟩
  rw [← hQ]
  rw [letQ_of] at hQ
  obtain ⟨W, hW⟩ : ∃ W, W = w.alloc (.cells #[.int .u8 39, .int .u8 34] 5) := ⟨_, rfl⟩
  have hbW : Below w.heap.size w W := by rw [hW]; exact (Below.refl _ w).alloc (Nat.le_refl _) _
  have hgW : W.heap[w.heap.size]? = some (.cells #[.int .u8 39, .int .u8 34] 5 (0, 0)) := by rw [hW]; exact heap_alloc_new w _
  have HF : Hid (∀ x, Below W.heap.size W x → x.cell? ⟨w.heap.size, 0, none⟩ = some (.int .u8 39) ∧ x.cell? ⟨w.heap.size, 1, none⟩ = some (.int .u8 34)) := Lib.hid fun x hx => by
    have h := (hx.block _ (lt_of_block hgW)).trans hgW
    constructor <;> rw [Lib.cell_of_heap h] <;> rfl
  have hb0 : Hid (Below W.heap.size W W) := Lib.hid (Below.refl _ _)
  replace hbW := Lib.hid hbW
  replace hQ := Lib.hid hQ
  clear hgW
  go_enter Tryz.func153, Tryz.ntmps153
  go_upto_region 2 with fail
  rw [← hW]
  replace hW := Lib.hid hW
  go_wp2_with fail
  go_loopg [6, 7] 2 (fun k v6 v7 wx => ∃ i : Nat, k = 2 - i ∧ i ≤ 2 ∧ v6 = .int .i64 i ∧ Hid ((1 ≤ i → aheadQ 39 s.data.toList = none) ∧ (2 ≤ i → aheadQ 34 s.data.toList = none)) ∧ Hid (Below W.heap.size W wx))
  case atStart => exact ⟨0, rfl, Nat.zero_le _, rfl, Lib.hid ⟨fun h => by omega, fun h => by omega⟩, hb0⟩
  case round =>
    clear hb0
    obtain ⟨i, hk, hi, rfl, hno, hb⟩ := hrel
    replace hk := hk.symm
    subst hk
    have hsB := hb.out.size
    by_cases hin : i < 2
    · obtain ⟨q, hq⟩ : ∃ q : UInt8, q = if i = 0 then 39 else 34 := ⟨_, rfl⟩
      have hin' : (i : Int) < 2 := by omega
      have f4 : Hid (2 - (i + 1) < 2 - i) := Lib.hid (by omega)
      have g1 : IntKind.i64.wrap ((i : Int) + 1) = (i : Int) + 1 := IntWalk.i64_in _ (by omega)
      have hcell : ∀ x, Below W.heap.size W x → x.cell? ⟨w.heap.size, i, none⟩ = some (.int .u8 q.toNat) := fun x hx => by
        rw [hq]
        by_cases h0 : i = 0
        · subst h0; exact (HF.out x hx).1
        · obtain rfl : i = 1 := by omega
          exact (HF.out x hx).2
      have x0 := hcell _ hb.out
      replace hcell := Lib.hid hcell
      have HA := rAheadQ_any q s hs wr
      cases ha : aheadQ q s.data.toList with
      | none =>
        rw [ha] at HA
        replace HA : Calls Tryz.prog 185 #[.string s, .int .u8 q.toNat] wr fun e w' => e = .returned (.int .i64 (-1)) ∧ Below wr.heap.size wr w' := HA
        replace HA := Lib.hid HA
        have hno2 : Hid ((1 ≤ i + 1 → aheadQ 39 s.data.toList = none) ∧ (2 ≤ i + 1 → aheadQ 34 s.data.toList = none)) := Lib.hid (by
          rw [hq] at ha
          by_cases h0 : i = 0
          · rw [if_pos h0] at ha; exact ⟨fun _ => ha, fun h => by omega⟩
          · rw [if_neg h0] at ha; exact ⟨fun _ => hno.out.1 (by omega), fun _ => ha⟩)
        clear ha hq hno
        go_wp2_with fail
        refine HA.out.mono ?_
        rintro e w1 ⟨rfl, hb1⟩
        have hbn := Lib.hid (hb.out.trans (hb1.mono hsB))
        go_wp2_with fail
        go_roundg (2 - (i + 1))
        case measure => exact f4.out
        case rel => exact ⟨i + 1, rfl, by omega, by simp, hno2, hbn⟩
      | some n =>
        have hle := aheadQ_le ha
        rw [sz_list] at hle
        rw [ha] at HA
        replace HA : Calls Tryz.prog 185 #[.string s, .int .u8 q.toNat] wr fun e w' => e = .returned (.int .i64 (n : Nat)) ∧ Below wr.heap.size wr w' := HA
        replace HA := Lib.hid HA
        have hQ2 : Hid (Q = some (n, q)) := Lib.hid (by
          rw [hQ.out]
          by_cases h0 : i = 0
          · rw [if_pos h0] at hq; subst hq; rw [ha]
          · rw [if_neg h0] at hq; subst hq; rw [hno.out.1 (by omega), ha])
        clear ha hq hno hQ
        have hn0 : (0 : Int) ≤ n := by omega
        have hns : (n : Int) ≤ s.size := by omega
        have hns2 : n ≤ s.size := by omega
        have hi0 : (0 : Int) ≤ i := by omega
        go_wp2_with fail
        refine HA.out.mono ?_
        rintro e w1 ⟨rfl, hb1⟩
        have hbn := hb.out.trans (hb1.mono hsB)
        have x1 := hcell.out _ hbn
        have hbn2 := Lib.hid ((hbW.out.trans (hbn.mono hbW.out.size)))
        clear hbn hb1
        go_upto_region 7 with fail
        go_region
        all_goals
          go_wp2
          go_ret3
          exact ⟨by rw [hQ2.out]; rfl, hbn2.out.drew⟩
    · obtain rfl : i = 2 := by omega
      have hQ2 : Hid (Q = none) := Lib.hid (by rw [hQ.out, hno.out.1 (by omega), hno.out.2 (by omega)])
      have hbn2 := Lib.hid (hbW.out.trans (hb.out.mono hbW.out.size))
      go_wp2
      go_ret3
      exact ⟨by rw [hQ2.out]; rfl, hbn2.out⟩
end Go.Proofs.YtllbbacnakoomaaGreatDoor

/- convert: a constant's bytes, by the document. -/
namespace Go.Proofs.YtllbbacnakoomaaGreatDoor
open Go.RowKit
set_option linter.unusedVariables false

def bytV (o : Option (List UInt8)) : Value := match o with
  | none => .tuple #[.string ⟨#[]⟩, .bool false]
  | some b => .tuple #[.string ⟨b.toArray⟩, .bool true]

theorem letQ_le {A : List UInt8} {n : Nat} {q : UInt8} (h : lettersQ A = some (n, q)) : n + 2 ≤ A.length ∧ n ≤ 2 ∧ (q = 39 ∨ q = 34) := by
  rw [letQ_of] at h
  cases h1 : aheadQ 39 A with
  | some m =>
    rw [h1] at h
    simp only [Option.some.injEq, Prod.mk.injEq] at h
    obtain ⟨rfl, rfl⟩ := h
    exact ⟨(aheadQ_le h1).1, (aheadQ_le h1).2, .inl rfl⟩
  | none =>
    rw [h1] at h
    cases h2 : aheadQ 34 A with
    | some m =>
      rw [h2] at h
      simp only [Option.some.injEq, Prod.mk.injEq] at h
      obtain ⟨rfl, rfl⟩ := h
      exact ⟨(aheadQ_le h2).1, (aheadQ_le h2).2, .inr rfl⟩
    | none => rw [h2] at h; cases h

theorem escV_le (s : List UInt8) : (escV s).2 ≤ s.length := by
  rw [esc_R]
  by_cases h0 : s = []
  · rw [if_pos h0]; exact Nat.zero_le _
  rw [if_neg h0]
  have hl : 0 < s.length := by
    rcases Nat.eq_zero_or_pos s.length with h | h
    · exact absurd (List.eq_nil_of_length_eq_zero h) h0
    · exact h
  cases escZ.find? (fun p => p.1 = chAt s 0) with
  | some p => simp only; omega
  | none =>
    simp only
    unfold escR
    have h1 := digL_le 16 (s.drop 1)
    have h2 := digL_le 8 s
    rw [List.length_drop] at h1
    split
    · split
      · exact Nat.zero_le _
      · simp only; omega
    · split
      · exact Nat.zero_le _
      · simp only; omega

/-- so many rounds are enough -/
theorem bytesIn_more {q : UInt8} : ∀ (k : Nat) (l : List UInt8), l.length < k → ∀ m, l.length < m → bytesIn q k l = bytesIn q m l
  | 0, l, h, m, hm => by omega
  | k + 1, [], h, m, hm => by cases m <;> simp [bytesIn]
  | k + 1, c :: r, h, 0, hm => by omega
  | k + 1, c :: r, h, m + 1, hm => by
    simp only [List.length_cons] at h hm
    simp only [bytesIn]
    split
    · rfl
    split
    · split
      · rfl
      · have := escV_le r
        rw [bytesIn_more k (r.drop (escV r).2) (by rw [List.length_drop]; omega) m (by rw [List.length_drop]; omega)]
    · rw [bytesIn_more k r (by omega) m (by omega)]

def bIn (q : UInt8) (l : List UInt8) : Option (List UInt8) := bytesIn q (l.length + 1) l
theorem bIn_nil (q : UInt8) : bIn q [] = some [] := rfl
theorem bIn_cons (q c : UInt8) (r : List UInt8) : bIn q (c :: r) = if c = q then none else if c = 92 then (if (escV r).2 = 0 then none else (bIn q (r.drop (escV r).2)).map ((escV r).1 :: ·)) else (bIn q r).map (c :: ·) := by
  unfold bIn
  simp only [bytesIn]
  split
  · rfl
  split
  · split
    · rfl
    · rw [bytesIn_more (List.length (c :: r)) (r.drop (escV r).2) (by rw [List.length_drop, List.length_cons]; omega) ((r.drop (escV r).2).length + 1) (by omega)]
  · rw [bytesIn_more (List.length (c :: r)) r (by simp) (r.length + 1) (by omega)]
theorem bytesV_eq (A : List UInt8) : bytesV A = (lettersQ A).bind fun p => bIn p.2 ((A.drop (p.1 + 1)).take (A.length - 1 - (p.1 + 1))) := by
  unfold bytesV
  cases lettersQ A with
  | none => rfl
  | some p =>
    simp only [Option.bind_some]
    unfold bIn
    exact bytesIn_more _ _ (by rw [List.length_take, List.length_drop]; omega) _ (by omega)

set_option maxRecDepth 100000 in
set_option maxHeartbeats 4000000 in
theorem rBytes_any (s : ByteArray) (hs : s.size ≤ 1000000) (w : World) :
    Calls Tryz.prog 96 #[.string s] w fun e w' => e = .returned (bytV (bytesV s.data.toList)) ∧ Below w.heap.size w w' := by
  rw [bytesV_eq]
  have HL := Lib.hid (rLetters_any s hs w)
  cases hl : lettersQ s.data.toList with
  | none =>
    rw [hl] at HL
    replace HL : Hid (Calls Tryz.prog 153 #[.string s] w fun e w' => e = .returned (.tuple #[.string ⟨#[]⟩, .int .u8 0, .bool false]) ∧ Below w.heap.size w w') := HL
    clear hl
    go_enter Tryz.func96, Tryz.ntmps96
    go_wp2_with fail
    refine HL.out.mono ?_
    rintro e w1 ⟨rfl, hb1⟩
    replace hb1 := Lib.hid hb1
    go_wp2
    go_ret2
    exact ⟨rfl, hb1.out⟩
  | some nq =>
    obtain ⟨n, q⟩ := nq
    obtain ⟨hn2, hnn, hq⟩ := letQ_le hl
    rw [sz_list] at hn2
    rw [hl] at HL
    replace HL : Hid (Calls Tryz.prog 153 #[.string s] w fun e w' => e = .returned (.tuple #[.string (s.extract 0 n), .int .u8 q.toNat, .bool true]) ∧ Below w.heap.size w w') := HL
    simp only [Option.bind_some]
    obtain ⟨X, hX⟩ : ∃ X, X = (s.data.toList.drop (n + 1)).take (s.data.toList.length - 1 - (n + 1)) := ⟨_, rfl⟩
    obtain ⟨R, hR⟩ : ∃ R, R = bIn q X := ⟨_, rfl⟩
    rw [← hX, ← hR]
    obtain ⟨P, hP⟩ : ∃ P, P = s.extract 0 n := ⟨_, rfl⟩
    have hPs : P.size = n := by rw [hP, ByteArray.size_extract]; omega
    rw [← hP] at HL
    obtain ⟨I, hI⟩ : ∃ I, I = s.extract (n + 1) (s.size - 1) := ⟨_, rfl⟩
    have hIX : I.data.toList = X := by
      rw [hI, show s.size - 1 = (n + 1) + (s.size - 1 - (n + 1)) by omega, ext_list, hX, sz_list]
    obtain ⟨m, hm⟩ : ∃ m, m = X.length := ⟨_, rfl⟩
    have hIm : I.size = m := by rw [← sz_list, hIX]; exact hm.symm
    have hm6 : m ≤ 1000000 := by rw [← hIm, hI, ByteArray.size_extract]; omega
    have g1 : IntKind.i64.wrap ((n : Int) + 1) = (n : Int) + 1 := IntWalk.i64_in _ (by omega)
    have g2 : IntKind.i64.wrap ((s.size : Int) - 1) = (s.size : Int) - 1 := IntWalk.i64_in _ (by omega)
    have g3 : ((s.size : Int) - 1).toNat = s.size - 1 := by omega
    have g4 : (n : Int) + 1 ≤ (s.size : Int) - 1 := by omega
    have g5 : (s.size : Int) - 1 ≤ (s.size : Int) := by omega
    have g6 : ((n : Int) + 1).toNat = n + 1 := by omega
    have g7 : ¬ (n : Int) + 1 < 0 := by omega
    have hXm := Lib.hid hm.symm
    have hIXh := Lib.hid hIX
    have hR0 : Hid ((bIn q (X.drop 0)).map (fun x => ([] : List UInt8) ++ x) = R) := Lib.hid (by rw [hR, List.drop_zero]; cases bIn q X <;> rfl)
    replace hI := hI.symm
    have hq92 : Hid (q ≠ 92) := Lib.hid (by rcases hq with rfl | rfl <;> decide)
    clear hR hX hP hm hIX hl hq
    go_enter Tryz.func96, Tryz.ntmps96
    go_wp2_with fail
    refine HL.out.mono ?_
    rintro e w1 ⟨rfl, b1⟩
    replace b1 := Lib.hid b1
    go_wp2_with fail
    clear HL g1 g2 g3 g4 g5 g6 g7
    go_loopg [8, 9, 10, 11, 36, 43, 46] (m + 1) (fun k v8 v9 v10 v11 v36 v43 v46 wx => ∃ (i : Nat) (Y : List UInt8), k = m + 1 - i ∧ i ≤ m ∧ v9 = .int .i64 i ∧ Hid (Own wx w.heap.size 5 1 v8 (byC Y)) ∧ Hid (Y.length ≤ i) ∧ Hid ((bIn q (X.drop i)).map (fun x => Y ++ x) = R) ∧ Hid (Below w.heap.size w wx))
    case atStart => exact ⟨0, [], rfl, Nat.zero_le _, rfl, Lib.hid (Own.nil _ _ _ _), Lib.hid (Nat.zero_le _), hR0, b1⟩
    case round =>
      clear hR0 b1
      obtain ⟨i, Y, hk, hi, rfl, ho, hYi, hR, hb⟩ := hrel
      replace hk := hk.symm
      subst hk
      have hsB := hb.out.size
      have hlen : Hid ((byC Y).length + 3 ≤ 1000000000) := Lib.hid (by rw [byC_len]; have := hYi.out; omega)
      by_cases hin : i < m
      · have hin' : (i : Int) < m := by omega
        have f4 : Hid (m + 1 - (i + 1) < m + 1 - i) := Lib.hid (by omega)
        have g1 : IntKind.i64.wrap ((i : Int) + 1) = (i : Int) + 1 := IntWalk.i64_in _ (by omega)
        obtain ⟨c, hc⟩ : ∃ c, X[i]? = some c := ⟨_, List.getElem?_eq_getElem (by rw [hXm.out]; exact hin)⟩
        have hci : (I[i]'(by omega)) = c := by
          rw [byte_chAt, hIXh.out]; unfold chAt; rw [List.getD_eq_getElem?_getD, hc]; rfl
        have hd : X.drop i = c :: X.drop (i + 1) := by
          rw [List.drop_eq_getElem_cons (by rw [hXm.out]; exact hin)]; congr 1; exact (List.getElem?_eq_some_iff.1 hc).2
        have hst := hR.out
        rw [hd, bIn_cons] at hst
        clear hc hR hd
        by_cases cq : c = q
        · subst cq
          rw [if_pos rfl] at hst
          have hRn : Hid (R = none) := Lib.hid hst.symm
          clear hst
          go_wp2
          go_ret2
          exact ⟨by rw [hRn.out]; rfl, hb.out⟩
        rw [if_neg cq] at hst
        obtain ⟨cqa, cqb⟩ := u8_nb cq
        replace cq := Lib.hid cq
        by_cases c92 : c = 92
        · subst c92
          have l92 : ((UInt8.toNat 92 : Nat) : Int) = 92 := rfl
          rw [if_pos rfl] at hst
          obtain ⟨Z, hZ⟩ : ∃ Z, Z = I.extract (i + 1) m := ⟨_, rfl⟩
          have hZl : Z.data.toList = X.drop (i + 1) := by
            rw [hZ, show m = (i + 1) + (m - (i + 1)) by omega, ext_list, hIXh.out, List.take_of_length_le (by rw [List.length_drop, hXm.out]; omega)]
          have hZs : Z.size ≤ 1000000 := by rw [← sz_list, hZl, List.length_drop, hXm.out]; omega
          have HE := Lib.hid (rescape_any Z hZs wr)
          have hel := escV_le (X.drop (i + 1))
          rw [List.length_drop, hXm.out] at hel
          rw [hZl] at HE
          obtain ⟨e, x, hex⟩ : ∃ e x, escV (X.drop (i + 1)) = (e, x) := ⟨_, _, rfl⟩
          rw [hex] at HE hst hel
          simp only at HE hst hel
          replace hZ := hZ.symm
          have hii : (0 : Int) ≤ (i : Int) + 1 := by omega
          have hit : ((i : Int) + 1).toNat = i + 1 := by omega
          have his2 : (i : Int) + 1 ≤ m := by omega
          clear hZl hex
          go_wp2_with fail
          refine HE.out.mono ?_
          rintro en w2 ⟨rfl, hb2⟩
          clear HE
          have hbn := hb.out.trans (hb2.mono hsB)
          have ho2 := ho.out.below hb2
          have hsn := hbn.size
          by_cases x0 : x = 0
          · subst x0
            rw [if_pos rfl] at hst
            have hRn : Hid (R = none) := Lib.hid hst.symm
            replace hbn := Lib.hid hbn
            clear hst
            go_wp2
            go_ret2
            exact ⟨by rw [hRn.out]; rfl, hbn.out⟩
          · rw [if_neg x0] at hst
            have x0' : ¬ (x : Int) = 0 := by omega
            have x0b : ((x : Int) == 0) = false := beq_false_of_ne x0'
            obtain ⟨j, hj⟩ : ∃ j, j = i + x := ⟨_, rfl⟩
            have g3 : IntKind.i64.wrap ((i : Int) + x) = (j : Int) := by rw [IntWalk.i64_in _ (by omega)]; omega
            have g4 : IntKind.i64.wrap ((j : Int) + 1) = (j : Int) + 1 := IntWalk.i64_in _ (by omega)
            have hjm : j + 1 ≤ m := by omega
            have f5 : Hid (m + 1 - (j + 1) < m + 1 - i) := Lib.hid (by omega)
            have hst' : Hid ((bIn q (X.drop (j + 1))).map (fun x => (Y ++ [e]) ++ x) = R) := Lib.hid (by rw [← hst, map_app2, List.drop_drop, hj, show i + 1 + x = i + x + 1 by omega])
            have hYj : Hid ((Y ++ [e]).length ≤ j + 1) := Lib.hid (by rw [List.length_append]; have := hYi.out; simp; omega)
            clear hst hj hel
            go_wp2_with (at_builtin; first
              | (refine wpList_append1 Eb5 rfl rfl ho2 rfl rfl (news := [.int .u8 e.toNat]) (by simp) rfl (by simp [Value.oneCell']) (by have := hlen.out; omega) (by decide) hsn ?_; intro v0 w3 hown0 hg0; have hb0 := bapp hbn ho2 hg0 hsn; have hs0 := hb0.size))
            go_roundg (m + 1 - (j + 1))
            case measure => exact f5.out
            case rel => exact ⟨j + 1, Y ++ [e], rfl, hjm, by simp, Lib.hid (by simpa [byC] using hown0), hYj, hst', Lib.hid hb0⟩
        rw [if_neg c92] at hst
        obtain ⟨ca92, cb92⟩ := u8_int (n := 92) (by decide) c92
        replace ca92 : ¬ (c.toNat : Int) = 92 := ca92
        replace cb92 : ((c.toNat : Int) == 92) = false := cb92
        have hst' : Hid ((bIn q (X.drop (i + 1))).map (fun x => (Y ++ [c]) ++ x) = R) := Lib.hid (by rw [← hst, map_app2])
        have hYj : Hid ((Y ++ [c]).length ≤ i + 1) := Lib.hid (by rw [List.length_append]; have := hYi.out; simp; omega)
        clear hst
        replace c92 := Lib.hid c92
        go_wp2_with (at_builtin; first
          | (refine wpList_append1 Eb5 rfl rfl ho.out rfl rfl (news := [.int .u8 c.toNat]) (by simp) rfl (by simp [Value.oneCell']) (by have := hlen.out; omega) (by decide) hsB ?_; intro v0 w2 hown0 hg0; have hb0 := bapp hb.out ho.out hg0 hsB; have hs0 := hb0.size))
        go_roundg (m + 1 - (i + 1))
        case measure => exact f4.out
        case rel => exact ⟨i + 1, Y ++ [c], rfl, by omega, by simp, Lib.hid (by simpa [byC] using hown0), hYj, hst', Lib.hid hb0⟩
      · obtain rfl : i = m := by omega
        have hin' : ¬ (i : Int) < (i : Int) := by omega
        have hRY : Hid (R = some Y) := Lib.hid (by
          have := hR.out
          rw [List.drop_eq_nil_of_le (by rw [hXm.out]; exact Nat.le_refl _), bIn_nil] at this
          rw [← this]; simp)
        have hcv := run_str_own (P := Tryz.prog) (l := Y) (by simpa [byC] using ho.out) 115 9 Tryz.underlying115 Tryz.underlying5 Tryz.underlying9
        go_wp2
        go_ret2
        exact ⟨by rw [hRY.out]; rfl, hb.out⟩
end Go.Proofs.YtllbbacnakoomaaGreatDoor

/- convert: whether a constant is a character, by the document. -/
namespace Go.Proofs.YtllbbacnakoomaaGreatDoor
open Go.RowKit
set_option linter.unusedVariables false

theorem eqb_nl {a : ByteArray} (l : List UInt8) (h : a ≠ ⟨l.toArray⟩) : (a.toList == l) = false := by
  apply beq_false_of_ne
  intro e
  rw [Lib.toList_data] at e
  exact h (by apply ByteArray.ext; simp [← e])

theorem char_eq {A : List UInt8} {n : Nat} {q : UInt8} {b : List UInt8} (h1 : lettersQ A = some (n, q)) (h2 : bytesV A = some b) : charB A = (decide (q = 39) && !(A.take n == [117, 56]) && decide (1 ≤ b.length) && decide (b.length ≤ 8)) := by
  unfold charB; rw [h1, h2]

set_option maxRecDepth 100000 in
set_option maxHeartbeats 4000000 in
theorem rChar_any (s : ByteArray) (hs : s.size ≤ 1000000) (w : World) :
    Calls Tryz.prog 94 #[.string s] w fun e w' => IntPost (charB s.data.toList) e ∧ Below w.heap.size w w' := by
  obtain ⟨W, hW⟩ : ∃ W, W = w.alloc inZ := ⟨_, rfl⟩
  have hbW : Below w.heap.size w W := by rw [hW]; exact (Below.refl _ w).alloc (Nat.le_refl _) _
  have hgW : W.heap[w.heap.size]? = some inZ := by rw [hW]; exact heap_alloc_new w _
  have HF : Hid (∀ x, Below W.heap.size W x → Hid (Below w.heap.size w x) ∧ x.heap[w.heap.size]? = some inZ) := Lib.hid fun x hx => ⟨Lib.hid (hbW.trans (hx.mono hbW.size)), (hx.block _ (lt_of_block hgW)).trans hgW⟩
  clear hbW hgW
  obtain ⟨nb, hnb⟩ : ∃ nb, nb = charB s.data.toList := ⟨_, rfl⟩
  rw [← hnb]
  have HL := Lib.hid (rLetters_any s hs W)
  have HB := Lib.hid (fun x => rBytes_any s hs x)
  go_enter Tryz.func94, Tryz.ntmps94
  go_upto_region 1 with fail
  rw [← hW]
  replace hW := Lib.hid hW
  cases hl : lettersQ s.data.toList with
  | none =>
    rw [hl] at HL
    replace HL : Hid (Calls Tryz.prog 153 #[.string s] W fun e w' => e = .returned (.tuple #[.string ⟨#[]⟩, .int .u8 0, .bool false]) ∧ Below W.heap.size W w') := HL
    have hbn : bytesV s.data.toList = none := by unfold bytesV; rw [hl]; rfl
    have hF : Hid (nb = false) := Lib.hid (by rw [hnb]; unfold charB; rw [hl])
    rw [hbn] at HB
    replace HB : Hid (∀ x, Calls Tryz.prog 96 #[.string s] x fun e w' => e = .returned (.tuple #[.string ⟨#[]⟩, .bool false]) ∧ Below x.heap.size x w') := HB
    clear hl hbn hnb
    go_wp2_with fail
    refine HL.out.mono ?_
    rintro e w1 ⟨rfl, hb1⟩
    go_wp2_with fail
    refine (HB.out _).mono ?_
    rintro e w2 ⟨rfl, hb2⟩
    obtain ⟨hbW, hcc⟩ := HF.out _ (hb1.trans (hb2.mono hb1.size))
    clear HL HB HF hb1 hb2
    go_wp2_with (refine wpList_store_row rfl 163 _ _ rfl w.heap.size _ rfl rfl 163 _ hcc (by kernel_rfl) rfl (by simp [Value.oneCell']) ?_)
    refine bodyPost_ret (results_row_tmp rfl _ _ w.heap.size 163 _ (0, 0) _ rfl (setRow_heap _ _ _ _ _ _ hcc) Tryz.underlying163 rfl (by kernel_rfl)) rfl ?_
    exact ⟨⟨_, _, by rw [hF.out]; rfl⟩, Below.row hbW.out (Nat.le_refl _) _⟩
  | some nq =>
    obtain ⟨n, q⟩ := nq
    rw [hl] at HL
    replace HL : Hid (Calls Tryz.prog 153 #[.string s] W fun e w' => e = .returned (.tuple #[.string (s.extract 0 n), .int .u8 q.toNat, .bool true]) ∧ Below W.heap.size W w') := HL
    obtain ⟨P, hP⟩ : ∃ P, P = s.extract 0 n := ⟨_, rfl⟩
    have hPl : P.data.toList = s.data.toList.take n := by
      have := ext_list s 0 n
      rw [Nat.zero_add, List.drop_zero] at this
      rw [hP, this]
    rw [← hP] at HL
    clear hP
    cases hb : bytesV s.data.toList with
    | none =>
      rw [hb] at HB
      replace HB : Hid (∀ x, Calls Tryz.prog 96 #[.string s] x fun e w' => e = .returned (.tuple #[.string ⟨#[]⟩, .bool false]) ∧ Below x.heap.size x w') := HB
      have hF : Hid (nb = false) := Lib.hid (by rw [hnb]; unfold charB; rw [hl, hb])
      clear hl hb hnb hPl
      go_wp2_with fail
      refine HL.out.mono ?_
      rintro e w1 ⟨rfl, hb1⟩
      go_wp2_with fail
      refine (HB.out _).mono ?_
      rintro e w2 ⟨rfl, hb2⟩
      obtain ⟨hbW, hcc⟩ := HF.out _ (hb1.trans (hb2.mono hb1.size))
      clear HL HB HF hb1 hb2
      go_wp2_with (refine wpList_store_row rfl 163 _ _ rfl w.heap.size _ rfl rfl 163 _ hcc (by kernel_rfl) rfl (by simp [Value.oneCell']) ?_)
      refine bodyPost_ret (results_row_tmp rfl _ _ w.heap.size 163 _ (0, 0) _ rfl (setRow_heap _ _ _ _ _ _ hcc) Tryz.underlying163 rfl (by kernel_rfl)) rfl ?_
      exact ⟨⟨_, _, by rw [hF.out]; rfl⟩, Below.row hbW.out (Nat.le_refl _) _⟩
    | some b =>
      rw [hb] at HB
      replace HB : Hid (∀ x, Calls Tryz.prog 96 #[.string s] x fun e w' => e = .returned (.tuple #[.string ⟨b.toArray⟩, .bool true]) ∧ Below x.heap.size x w') := HB
      rw [char_eq hl hb, ← hPl] at hnb
      obtain ⟨D, hD⟩ : ∃ D : ByteArray, D = ⟨b.toArray⟩ := ⟨_, rfl⟩
      have hDs : b.length = D.size := by rw [hD]; rfl
      rw [← hD] at HB
      rw [hDs] at hnb
      clear hl hb hPl hD hDs
      go_wp2_with fail
      refine HL.out.mono ?_
      rintro e w1 ⟨rfl, hb1⟩
      go_wp2_with fail
      refine (HB.out _).mono ?_
      rintro e w2 ⟨rfl, hb2⟩
      obtain ⟨hbW, hcc⟩ := HF.out _ (hb1.trans (hb2.mono hb1.size))
      clear HL HB HF hb1 hb2
      by_cases q39 : q = 39
      · subst q39
        have l39 : ((UInt8.toNat 39 : Nat) : Int) = 39 := rfl
        rw [decide_eq_true rfl, Bool.true_and] at hnb
        by_cases hP8 : P = (⟨#[117, 56]⟩ : ByteArray)
        · subst hP8
          have hF : Hid (nb = false) := Lib.hid (by rw [hnb]; rfl)
          clear hnb
          go_wp2_with (refine wpList_store_row rfl 163 _ _ rfl w.heap.size _ rfl rfl 163 _ hcc (by kernel_rfl) rfl (by simp [Value.oneCell']) ?_)
          refine bodyPost_ret (results_row_tmp rfl _ _ w.heap.size 163 _ (0, 0) _ rfl (setRow_heap _ _ _ _ _ _ hcc) Tryz.underlying163 rfl (by kernel_rfl)) rfl ?_
          exact ⟨⟨_, _, by rw [hF.out]; rfl⟩, Below.row hbW.out (Nat.le_refl _) _⟩
        · have hP8b := eqb_nl ([117, 56] : List UInt8) hP8
          have hnb2 : nb = (decide (1 ≤ D.size) && decide (D.size ≤ 8)) := by
            rw [hnb]
            have : (P.data.toList == [117, 56]) = false := by rw [← Lib.toList_data]; exact hP8b
            rw [this]; rfl
          clear hnb
          replace hP8 := Lib.hid hP8
          by_cases h1 : D.size < 1
          · have h1' : (D.size : Int) < 1 := by omega
            have hF : Hid (nb = false) := Lib.hid (by rw [hnb2, decide_eq_false (by omega : ¬ 1 ≤ D.size)]; rfl)
            clear hnb2
            go_wp2_with (refine wpList_store_row rfl 163 _ _ rfl w.heap.size _ rfl rfl 163 _ hcc (by kernel_rfl) rfl (by simp [Value.oneCell']) ?_)
            refine bodyPost_ret (results_row_tmp rfl _ _ w.heap.size 163 _ (0, 0) _ rfl (setRow_heap _ _ _ _ _ _ hcc) Tryz.underlying163 rfl (by kernel_rfl)) rfl ?_
            exact ⟨⟨_, _, by rw [hF.out]; rfl⟩, Below.row hbW.out (Nat.le_refl _) _⟩
          · have h1' : ¬ (D.size : Int) < 1 := by omega
            by_cases h8 : 8 < D.size
            · have h8' : (8 : Int) < D.size := by omega
              have hF : Hid (nb = false) := Lib.hid (by rw [hnb2, decide_eq_false (by omega : ¬ D.size ≤ 8)]; simp)
              clear hnb2
              go_wp2_with (refine wpList_store_row rfl 163 _ _ rfl w.heap.size _ rfl rfl 163 _ hcc (by kernel_rfl) rfl (by simp [Value.oneCell']) ?_)
              refine bodyPost_ret (results_row_tmp rfl _ _ w.heap.size 163 _ (0, 0) _ rfl (setRow_heap _ _ _ _ _ _ hcc) Tryz.underlying163 rfl (by kernel_rfl)) rfl ?_
              exact ⟨⟨_, _, by rw [hF.out]; rfl⟩, Below.row hbW.out (Nat.le_refl _) _⟩
            · have h8' : ¬ (8 : Int) < D.size := by omega
              have hF : Hid (nb = true) := Lib.hid (by rw [hnb2, decide_eq_true (by omega : 1 ≤ D.size), decide_eq_true (by omega : D.size ≤ 8)]; rfl)
              clear hnb2
              have hd1 : decide ((D.size : Int) < 1) = false := decide_eq_false (by omega)
              have hd8 : decide ((8 : Int) < D.size) = false := decide_eq_false (by omega)
              by_cases hone : D.size = 1
              · have hone' : (D.size : Int) = 1 := by omega
                have honeb : ((D.size : Int) == 1) = true := by rw [hone']; rfl
                have hpos : (0 : Int) < D.size := by omega
                have hpos2 : 0 < D.size := by omega
                obtain ⟨c, hc⟩ : ∃ c, (D[0]'hpos2) = c := ⟨_, rfl⟩
                have hc256 := c.toNat_lt
                have g1 : IntKind.i64.wrap (c.toNat : Int) = c.toNat := IntWalk.i64_in _ (by omega)
                by_cases h127 : 127 < c.toNat
                · have h127' : (127 : Int) < c.toNat := by omega
                  have g2 : IntKind.i64.wrap ((c.toNat : Int) - 256) = (c.toNat : Int) - 256 := IntWalk.i64_in _ (by omega)
                  clear hone hone'
                  by_cases hu : P = (⟨#[117]⟩ : ByteArray)
                  · subst hu
                    go_wp2_with (refine wpList_store_row rfl 163 _ _ rfl w.heap.size _ rfl rfl 163 _ hcc (by kernel_rfl) rfl (by simp [Value.oneCell']) ?_)
                    refine bodyPost_ret (results_row_tmp rfl _ _ w.heap.size 163 _ (0, 0) _ rfl (setRow_heap _ _ _ _ _ _ hcc) Tryz.underlying163 rfl (by kernel_rfl)) rfl ?_
                    exact ⟨⟨_, _, by rw [hF.out]; rfl⟩, Below.row hbW.out (Nat.le_refl _) _⟩
                  · have hub := eqb_nl ([117] : List UInt8) hu
                    replace hu := Lib.hid hu
                    by_cases hU : P = (⟨#[85]⟩ : ByteArray)
                    · subst hU
                      go_wp2_with (refine wpList_store_row rfl 163 _ _ rfl w.heap.size _ rfl rfl 163 _ hcc (by kernel_rfl) rfl (by simp [Value.oneCell']) ?_)
                      refine bodyPost_ret (results_row_tmp rfl _ _ w.heap.size 163 _ (0, 0) _ rfl (setRow_heap _ _ _ _ _ _ hcc) Tryz.underlying163 rfl (by kernel_rfl)) rfl ?_
                      exact ⟨⟨_, _, by rw [hF.out]; rfl⟩, Below.row hbW.out (Nat.le_refl _) _⟩
                    · have hUb := eqb_nl ([85] : List UInt8) hU
                      replace hU := Lib.hid hU
                      go_wp2_with (refine wpList_store_row rfl 163 _ _ rfl w.heap.size _ rfl rfl 163 _ hcc (by kernel_rfl) rfl (by simp [Value.oneCell']) ?_)
                      refine bodyPost_ret (results_row_tmp rfl _ _ w.heap.size 163 _ (0, 0) _ rfl (setRow_heap _ _ _ _ _ _ hcc) Tryz.underlying163 rfl (by kernel_rfl)) rfl ?_
                      exact ⟨⟨_, _, by rw [hF.out]; rfl⟩, Below.row hbW.out (Nat.le_refl _) _⟩
                · have h127' : ¬ (127 : Int) < c.toNat := by omega
                  clear hone hone'
                  by_cases hu : P = (⟨#[117]⟩ : ByteArray)
                  · subst hu
                    go_wp2_with (refine wpList_store_row rfl 163 _ _ rfl w.heap.size _ rfl rfl 163 _ hcc (by kernel_rfl) rfl (by simp [Value.oneCell']) ?_)
                    refine bodyPost_ret (results_row_tmp rfl _ _ w.heap.size 163 _ (0, 0) _ rfl (setRow_heap _ _ _ _ _ _ hcc) Tryz.underlying163 rfl (by kernel_rfl)) rfl ?_
                    exact ⟨⟨_, _, by rw [hF.out]; rfl⟩, Below.row hbW.out (Nat.le_refl _) _⟩
                  · have hub := eqb_nl ([117] : List UInt8) hu
                    replace hu := Lib.hid hu
                    by_cases hU : P = (⟨#[85]⟩ : ByteArray)
                    · subst hU
                      go_wp2_with (refine wpList_store_row rfl 163 _ _ rfl w.heap.size _ rfl rfl 163 _ hcc (by kernel_rfl) rfl (by simp [Value.oneCell']) ?_)
                      refine bodyPost_ret (results_row_tmp rfl _ _ w.heap.size 163 _ (0, 0) _ rfl (setRow_heap _ _ _ _ _ _ hcc) Tryz.underlying163 rfl (by kernel_rfl)) rfl ?_
                      exact ⟨⟨_, _, by rw [hF.out]; rfl⟩, Below.row hbW.out (Nat.le_refl _) _⟩
                    · have hUb := eqb_nl ([85] : List UInt8) hU
                      replace hU := Lib.hid hU
                      go_wp2_with (refine wpList_store_row rfl 163 _ _ rfl w.heap.size _ rfl rfl 163 _ hcc (by kernel_rfl) rfl (by simp [Value.oneCell']) ?_)
                      refine bodyPost_ret (results_row_tmp rfl _ _ w.heap.size 163 _ (0, 0) _ rfl (setRow_heap _ _ _ _ _ _ hcc) Tryz.underlying163 rfl (by kernel_rfl)) rfl ?_
                      exact ⟨⟨_, _, by rw [hF.out]; rfl⟩, Below.row hbW.out (Nat.le_refl _) _⟩
              · have hone' : ¬ (D.size : Int) = 1 := by omega
                have honeb : ((D.size : Int) == 1) = false := beq_false_of_ne hone'
                have hD8 : D.size ≤ 8 := by omega
                clear hone hone'
                go_wp2_with fail
                go_loopg [9, 10] D.size (fun k v9 v10 wx => ∃ i v : Nat, k = D.size - i ∧ i ≤ D.size ∧ v9 = .int .i64 v ∧ v10 = .int .i64 i ∧ wx = w2 ∧ v < 4294967296)
                case atStart => exact ⟨0, 0, rfl, Nat.zero_le _, rfl, rfl, rfl, by omega⟩
                case round =>
                  obtain ⟨i, v, hk, hi, rfl, rfl, rfl, hv⟩ := hrel
                  replace hk := hk.symm
                  subst hk
                  by_cases hin : i < D.size
                  · have hin' : (i : Int) < D.size := by omega
                    have f4 : Hid (D.size - (i + 1) < D.size - i) := Lib.hid (by omega)
                    have g1 : IntKind.i64.wrap ((i : Int) + 1) = (i : Int) + 1 := IntWalk.i64_in _ (by omega)
                    obtain ⟨c, hc⟩ : ∃ c, (D[i]'hin) = c := ⟨_, rfl⟩
                    have hc256 := c.toNat_lt
                    have g0 : IntKind.i64.wrap (c.toNat : Int) = c.toNat := IntWalk.i64_in _ (by omega)
                    obtain ⟨x, hx⟩ : ∃ x, x = v * 256 := ⟨_, rfl⟩
                    obtain ⟨y, hy⟩ : ∃ y, y = x + c.toNat := ⟨_, rfl⟩
                    obtain ⟨z, hz⟩ : ∃ z, z = y % 4294967296 := ⟨_, rfl⟩
                    have g7 : IntKind.i64.wrap ((v : Int) * 256) = (x : Int) := by rw [IntWalk.i64_in _ (by omega)]; omega
                    have g8 : IntKind.i64.wrap ((x : Int) + c.toNat) = (y : Int) := by rw [IntWalk.i64_in _ (by omega)]; omega
                    have g9 : Int.tmod (y : Int) 4294967296 = (z : Int) := by rw [hz]; rfl
                    have hz256 : z < 4294967296 := by rw [hz]; exact Nat.mod_lt _ (by decide)
                    have g10 : IntKind.i64.wrap (z : Int) = (z : Int) := IntWalk.i64_in _ (by omega)
                    clear hx hy hz
                    go_wp2_with fail
                    go_roundg (D.size - (i + 1))
                    case measure => exact f4.out
                    case rel => exact ⟨i + 1, z, rfl, by omega, rfl, by simp, rfl, hz256⟩
                  · obtain rfl : i = D.size := by omega
                    have hin' : ¬ (D.size : Int) < (D.size : Int) := by omega
                    by_cases h31 : 2147483648 ≤ v
                    · have h31' : (2147483648 : Int) ≤ v := by omega
                      have g2 : IntKind.i64.wrap ((v : Int) - 4294967296) = (v : Int) - 4294967296 := IntWalk.i64_in _ (by omega)
                      by_cases hu : P = (⟨#[117]⟩ : ByteArray)
                      · subst hu
                        go_wp2_with (refine wpList_store_row rfl 163 _ _ rfl w.heap.size _ rfl rfl 163 _ hcc (by kernel_rfl) rfl (by simp [Value.oneCell']) ?_)
                        refine bodyPost_ret (results_row_tmp rfl _ _ w.heap.size 163 _ (0, 0) _ rfl (setRow_heap _ _ _ _ _ _ hcc) Tryz.underlying163 rfl (by kernel_rfl)) rfl ?_
                        exact ⟨⟨_, _, by rw [hF.out]; rfl⟩, Below.row hbW.out (Nat.le_refl _) _⟩
                      · have hub := eqb_nl ([117] : List UInt8) hu
                        replace hu := Lib.hid hu
                        by_cases hU : P = (⟨#[85]⟩ : ByteArray)
                        · subst hU
                          go_wp2_with (refine wpList_store_row rfl 163 _ _ rfl w.heap.size _ rfl rfl 163 _ hcc (by kernel_rfl) rfl (by simp [Value.oneCell']) ?_)
                          refine bodyPost_ret (results_row_tmp rfl _ _ w.heap.size 163 _ (0, 0) _ rfl (setRow_heap _ _ _ _ _ _ hcc) Tryz.underlying163 rfl (by kernel_rfl)) rfl ?_
                          exact ⟨⟨_, _, by rw [hF.out]; rfl⟩, Below.row hbW.out (Nat.le_refl _) _⟩
                        · have hUb := eqb_nl ([85] : List UInt8) hU
                          replace hU := Lib.hid hU
                          go_wp2_with (refine wpList_store_row rfl 163 _ _ rfl w.heap.size _ rfl rfl 163 _ hcc (by kernel_rfl) rfl (by simp [Value.oneCell']) ?_)
                          refine bodyPost_ret (results_row_tmp rfl _ _ w.heap.size 163 _ (0, 0) _ rfl (setRow_heap _ _ _ _ _ _ hcc) Tryz.underlying163 rfl (by kernel_rfl)) rfl ?_
                          exact ⟨⟨_, _, by rw [hF.out]; rfl⟩, Below.row hbW.out (Nat.le_refl _) _⟩
                    · have h31' : ¬ (2147483648 : Int) ≤ v := by omega
                      by_cases hu : P = (⟨#[117]⟩ : ByteArray)
                      · subst hu
                        go_wp2_with (refine wpList_store_row rfl 163 _ _ rfl w.heap.size _ rfl rfl 163 _ hcc (by kernel_rfl) rfl (by simp [Value.oneCell']) ?_)
                        refine bodyPost_ret (results_row_tmp rfl _ _ w.heap.size 163 _ (0, 0) _ rfl (setRow_heap _ _ _ _ _ _ hcc) Tryz.underlying163 rfl (by kernel_rfl)) rfl ?_
                        exact ⟨⟨_, _, by rw [hF.out]; rfl⟩, Below.row hbW.out (Nat.le_refl _) _⟩
                      · have hub := eqb_nl ([117] : List UInt8) hu
                        replace hu := Lib.hid hu
                        by_cases hU : P = (⟨#[85]⟩ : ByteArray)
                        · subst hU
                          go_wp2_with (refine wpList_store_row rfl 163 _ _ rfl w.heap.size _ rfl rfl 163 _ hcc (by kernel_rfl) rfl (by simp [Value.oneCell']) ?_)
                          refine bodyPost_ret (results_row_tmp rfl _ _ w.heap.size 163 _ (0, 0) _ rfl (setRow_heap _ _ _ _ _ _ hcc) Tryz.underlying163 rfl (by kernel_rfl)) rfl ?_
                          exact ⟨⟨_, _, by rw [hF.out]; rfl⟩, Below.row hbW.out (Nat.le_refl _) _⟩
                        · have hUb := eqb_nl ([85] : List UInt8) hU
                          replace hU := Lib.hid hU
                          go_wp2_with (refine wpList_store_row rfl 163 _ _ rfl w.heap.size _ rfl rfl 163 _ hcc (by kernel_rfl) rfl (by simp [Value.oneCell']) ?_)
                          refine bodyPost_ret (results_row_tmp rfl _ _ w.heap.size 163 _ (0, 0) _ rfl (setRow_heap _ _ _ _ _ _ hcc) Tryz.underlying163 rfl (by kernel_rfl)) rfl ?_
                          exact ⟨⟨_, _, by rw [hF.out]; rfl⟩, Below.row hbW.out (Nat.le_refl _) _⟩
      · skip
        obtain ⟨qa39, qb39⟩ := u8_int (n := 39) (by decide) q39
        replace qa39 : ¬ (q.toNat : Int) = 39 := qa39
        replace qb39 : ((q.toNat : Int) == 39) = false := qb39
        have hF : Hid (nb = false) := Lib.hid (by rw [hnb, decide_eq_false q39]; rfl)
        clear hnb q39
        go_wp2_with (refine wpList_store_row rfl 163 _ _ rfl w.heap.size _ rfl rfl 163 _ hcc (by kernel_rfl) rfl (by simp [Value.oneCell']) ?_)
        refine bodyPost_ret (results_row_tmp rfl _ _ w.heap.size 163 _ (0, 0) _ rfl (setRow_heap _ _ _ _ _ _ hcc) Tryz.underlying163 rfl (by kernel_rfl)) rfl ?_
        exact ⟨⟨_, _, by rw [hF.out]; rfl⟩, Below.row hbW.out (Nat.le_refl _) _⟩
end Go.Proofs.YtllbbacnakoomaaGreatDoor

/- convert: keywords, punctuators, a string's letters, by the document. -/
namespace Go.Proofs.YtllbbacnakoomaaGreatDoor
open Go.RowKit
set_option linter.unusedVariables false

theorem beq_dec (a b : ByteArray) : (a.toList == b.toList) = decide (a = b) := by
  by_cases h : a = b
  · subst h; simp
  · rw [decide_eq_false h]
    exact beq_false_of_ne (fun e => h (by rw [Lib.toList_data, Lib.toList_data] at e; exact ByteArray.ext (Array.toList_inj.1 e)))

set_option maxRecDepth 100000 in
set_option maxHeartbeats 2000000 in
theorem rIn_any (l : List ByteArray) (ao : Option Addr) (cap n : Nat) (hn : l.length = n) (hn1 : n ≤ 1000) (x : ByteArray) (w : World) (hrow : Row w 1 ao (l.map fun p => [.string p])) :
    Calls Tryz.prog 103 #[.slice ao n cap, .string x] w fun e w' => e = .returned (.bool (l.any fun y => decide (y = x))) ∧ w' = w := by
  obtain ⟨R, hR⟩ : ∃ R, R = l.any fun y => decide (y = x) := ⟨_, rfl⟩
  rw [← hR]
  have hR0 : Hid (((l.drop 0).any fun y => decide (y = x)) = R) := Lib.hid hR.symm
  clear hR
  replace hn := Lib.hid hn
  replace hrow := Lib.hid hrow
  go_enter Tryz.func103, Tryz.ntmps103
  go_wp2_with fail
  go_loopg [5] n (fun k v5 wx => ∃ i : Nat, k = n - i ∧ i ≤ n ∧ v5 = .int .i64 i ∧ wx = w ∧ Hid (((l.drop i).any fun y => decide (y = x)) = R))
  case atStart => exact ⟨0, rfl, Nat.zero_le _, rfl, rfl, hR0⟩
  case round =>
    clear hR0
    obtain ⟨i, hk, hi, rfl, rfl, hR⟩ := hrel
    replace hk := hk.symm
    subst hk
    by_cases hin : i < n
    · have hin' : (i : Int) < n := by omega
      have f4 : Hid (n - (i + 1) < n - i) := Lib.hid (by omega)
      have g1 : IntKind.i64.wrap ((i : Int) + 1) = (i : Int) + 1 := IntWalk.i64_in _ (by omega)
      have hl : i < l.length := by rw [hn.out]; exact hin
      obtain ⟨p, hp⟩ : ∃ p, l[i]? = some p := ⟨_, List.getElem?_eq_getElem hl⟩
      have hst := hR.out
      rw [List.drop_eq_getElem_cons hl, show l[i] = p from (List.getElem?_eq_some_iff.1 hp).2, List.any_cons] at hst
      obtain ⟨b, o, rfl, hat⟩ := hrow.out (by simp; intro h; subst h; simp at hl)
      have x0 : wr.cell? ⟨b, o + i, none⟩ = some (.string p) := by
        have := hat i [.string p] (by rw [List.getElem?_map, hp]; rfl) 0 _ rfl
        simpa using this
      have hbq := beq_dec p x
      generalize decide (p = x) = d at hst hbq
      clear hp hl hR hat
      cases d with
      | true =>
        have hT : Hid (R = true) := Lib.hid (by rw [← hst]; rfl)
        clear hst
        go_wp2
        go_ret
        exact ⟨by rw [hT.out]; rfl, rfl⟩
      | false =>
        have hst' : Hid (((l.drop (i + 1)).any fun y => decide (y = x)) = R) := Lib.hid (by rw [← hst]; rfl)
        clear hst
        go_wp2_with fail
        go_roundg (n - (i + 1))
        case measure => exact f4.out
        case rel => exact ⟨i + 1, rfl, by omega, by simp, rfl, hst'⟩
    · obtain rfl : i = n := by omega
      have hF : Hid (R = false) := Lib.hid (by have := hR.out; rw [List.drop_eq_nil_of_le (by rw [hn.out]; exact Nat.le_refl _)] at this; rw [← this]; rfl)
      have hin' : ¬ (i : Int) < (i : Int) := by omega
      go_wp2
      go_ret
      exact ⟨by rw [hF.out]; rfl, rfl⟩

abbrev keyO : Obj := .cells (keysL.map fun p => Value.string p).toArray 9

set_option maxRecDepth 100000 in
theorem rkeywords_any (w : World) : Calls Tryz.prog 148 #[] w fun e w' => e = .returned (.slice (some ⟨w.heap.size, 0, none⟩) 44 44) ∧ w' = w.alloc keyO := by
  go_enter Tryz.func148, Tryz.ntmps148
  go_wp2
  go_ret
  exact ⟨rfl, rfl⟩

set_option maxRecDepth 100000 in
theorem rIsKeyword_any (x : ByteArray) (w : World) : Calls Tryz.prog 91 #[.string x] w fun e w' => e = .returned (.bool (isKey x)) ∧ Below w.heap.size w w' := by
  have hb : Hid (Below w.heap.size w (w.alloc keyO)) := Lib.hid ((Below.refl _ w).alloc (Nat.le_refl _) _)
  have HI := Lib.hid (rIn_any keysL (some ⟨w.heap.size, 0, none⟩) 44 44 (by decide) (by decide) x (w.alloc keyO) (row_new w (css := keysL.map fun p => [.string p]) (by intro c hc; obtain ⟨p, _, rfl⟩ := List.mem_map.1 hc; rfl) 9 (by kernel_rfl) rfl))
  unfold isKey
  go_enter Tryz.func91, Tryz.ntmps91
  go_wp2_with fail
  refine (rkeywords_any w).mono ?_
  rintro e w1 ⟨rfl, rfl⟩
  go_wp2_with fail
  refine HI.out.mono ?_
  rintro e w1 ⟨rfl, rfl⟩
  go_wp2
  go_ret
  exact ⟨rfl, hb.out⟩

def usuV (p : ByteArray × Bool) : Value := .tuple #[.string p.1, .bool p.2]

set_option maxRecDepth 100000 in
set_option maxHeartbeats 2000000 in
theorem rusual_any (x : ByteArray) (w : World) : Calls Tryz.prog 95 #[.string x] w fun e w' => e = .returned (usuV (usualP x)) ∧ w' = w := by
  go_enter Tryz.func95, Tryz.ntmps95
  by_cases h1 : x = (⟨#[35]⟩ : ByteArray)
  · subst h1; go_wp2; go_ret2; exact ⟨rfl, rfl⟩
  have n1 := eqb_nl ([35] : List UInt8) h1
  by_cases h2 : x = (⟨#[35, 35]⟩ : ByteArray)
  · subst h2; go_wp2; go_ret2; exact ⟨rfl, rfl⟩
  have n2 := eqb_nl ([35, 35] : List UInt8) h2
  by_cases h3 : x = (⟨#[37, 58]⟩ : ByteArray)
  · subst h3; go_wp2; go_ret2; exact ⟨rfl, rfl⟩
  have n3 := eqb_nl ([37, 58] : List UInt8) h3
  by_cases h4 : x = (⟨#[37, 58, 37, 58]⟩ : ByteArray)
  · subst h4; go_wp2; go_ret2; exact ⟨rfl, rfl⟩
  have n4 := eqb_nl ([37, 58, 37, 58] : List UInt8) h4
  by_cases h5 : x = (⟨#[60, 58]⟩ : ByteArray)
  · subst h5; go_wp2; go_ret2; exact ⟨rfl, rfl⟩
  have n5 := eqb_nl ([60, 58] : List UInt8) h5
  by_cases h6 : x = (⟨#[58, 62]⟩ : ByteArray)
  · subst h6; go_wp2; go_ret2; exact ⟨rfl, rfl⟩
  have n6 := eqb_nl ([58, 62] : List UInt8) h6
  by_cases h7 : x = (⟨#[60, 37]⟩ : ByteArray)
  · subst h7; go_wp2; go_ret2; exact ⟨rfl, rfl⟩
  have n7 := eqb_nl ([60, 37] : List UInt8) h7
  by_cases h8 : x = (⟨#[37, 62]⟩ : ByteArray)
  · subst h8; go_wp2; go_ret2; exact ⟨rfl, rfl⟩
  have n8 := eqb_nl ([37, 62] : List UInt8) h8
  have hx : Hid (usualP x = (x, true)) := Lib.hid (by
    unfold usualP
    rw [if_neg (by rintro (h | h | h | h); exact h1 h; exact h2 h; exact h3 h; exact h4 h), if_neg h5, if_neg h6, if_neg h7, if_neg h8])
  clear h1 h2 h3 h4 h5 h6 h7 h8
  go_wp2
  go_ret2
  exact ⟨by rw [hx.out]; rfl, rfl⟩

theorem preQ_nil {A : List UInt8} (h : ∀ c ∈ A, ¬ (c = 34 ∨ c = 39)) : preQ A = [] := by
  unfold preQ
  rw [if_neg]
  simp only [List.any_eq_true, decide_eq_true_eq, not_exists, not_and]
  exact h
theorem preQ_at {A : List UInt8} {i : Nat} (hi : i < A.length) (hc : chAt A i = 34 ∨ chAt A i = 39) (h : ∀ j, j < i → ¬ (chAt A j = 34 ∨ chAt A j = 39)) : preQ A = A.take i := by
  unfold preQ
  have hA : A = A.take i ++ chAt A i :: A.drop (i + 1) := by rw [← drop_at hi, List.take_append_drop]
  rw [if_pos (by rw [List.any_eq_true]; exact ⟨chAt A i, by unfold chAt; rw [List.getD_eq_getElem?_getD, List.getElem?_eq_getElem hi]; exact List.getElem_mem hi, by simpa using hc⟩)]
  have hall : ∀ c ∈ A.take i, (!decide (c = 34 ∨ c = 39)) = true := by
    intro c hcm
    obtain ⟨j, hj, rfl⟩ := List.getElem_of_mem hcm
    rw [List.length_take] at hj
    have := h j (by omega)
    unfold chAt at this
    rw [List.getD_eq_getElem?_getD, List.getElem?_eq_getElem (by omega)] at this
    simp at this ⊢
    exact this
  conv => lhs; rw [hA]
  rw [List.takeWhile_append_of_pos hall, List.takeWhile_cons]
  rw [if_neg (by rw [decide_eq_true hc]; simp)]
  simp

set_option maxRecDepth 100000 in
set_option maxHeartbeats 2000000 in
theorem rprefix_any (s : ByteArray) (hs : s.size ≤ 1000000) (w : World) :
    Calls Tryz.prog 97 #[.string s] w fun e w' => e = .returned (.string ⟨(preQ s.data.toList).toArray⟩) ∧ w' = w := by
  obtain ⟨Q, hQ⟩ : ∃ Q, Q = preQ s.data.toList := ⟨_, rfl⟩
  rw [← hQ]
  replace hQ := Lib.hid hQ
  go_enter Tryz.func97, Tryz.ntmps97
  go_wp2_with fail
  go_loopg [3] s.size (fun k v3 wx => ∃ i : Nat, k = s.size - i ∧ i ≤ s.size ∧ v3 = .int .i64 i ∧ wx = w ∧ Hid (∀ j, j < i → ¬ (chAt s.data.toList j = 34 ∨ chAt s.data.toList j = 39)))
  case atStart => exact ⟨0, rfl, Nat.zero_le _, rfl, rfl, Lib.hid (fun j h => by omega)⟩
  case round =>
    obtain ⟨i, hk, hi, rfl, rfl, hno⟩ := hrel
    replace hk := hk.symm
    subst hk
    by_cases hin : i < s.size
    · have hin' : (i : Int) < s.size := by omega
      have f4 : Hid (s.size - (i + 1) < s.size - i) := Lib.hid (by omega)
      have g1 : IntKind.i64.wrap ((i : Int) + 1) = (i : Int) + 1 := IntWalk.i64_in _ (by omega)
      obtain ⟨c, hc⟩ : ∃ c, c = chAt s.data.toList i := ⟨_, rfl⟩
      have hci : (s[i]'(by omega)) = c := by rw [hc]; exact byte_chAt _
      have hyes : Hid (c = 34 ∨ c = 39 → (⟨Q.toArray⟩ : ByteArray) = s.extract 0 i) := Lib.hid (fun h => by
        rw [hQ.out, preQ_at (by rw [sz_list]; exact hin) (by rw [← hc]; exact h) hno.out]
        apply ByteArray.ext
        have := ext_list s 0 i
        rw [Nat.zero_add, List.drop_zero] at this
        rw [← this])
      have hno2 : Hid (¬ (c = 34 ∨ c = 39) → ∀ j, j < i + 1 → ¬ (chAt s.data.toList j = 34 ∨ chAt s.data.toList j = 39)) := Lib.hid (fun h j hj => by
        by_cases hji : j = i
        · subst hji; rw [← hc]; exact h
        · exact hno.out j (by omega))
      clear hc hno
      have hi0 : (0 : Int) ≤ i := by omega
      have his : (i : Int) ≤ s.size := by omega
      by_cases c34 : c = 34
      · subst c34
        have l34 : ((UInt8.toNat 34 : Nat) : Int) = 34 := rfl
        have hy := Lib.hid (hyes.out (.inl rfl))
        clear hyes hno2
        go_wp2
        go_ret
        exact ⟨by rw [hy.out]; rfl, rfl⟩
      · skip
        obtain ⟨ca34, cb34⟩ := u8_int (n := 34) (by decide) c34
        replace ca34 : ¬ (c.toNat : Int) = 34 := ca34
        replace cb34 : ((c.toNat : Int) == 34) = false := cb34
        by_cases c39 : c = 39
        · subst c39
          have l39 : ((UInt8.toNat 39 : Nat) : Int) = 39 := rfl
          have hy := Lib.hid (hyes.out (.inr rfl))
          clear hyes hno2 c34
          go_wp2
          go_ret
          exact ⟨by rw [hy.out]; rfl, rfl⟩
        · skip
          obtain ⟨ca39, cb39⟩ := u8_int (n := 39) (by decide) c39
          replace ca39 : ¬ (c.toNat : Int) = 39 := ca39
          replace cb39 : ((c.toNat : Int) == 39) = false := cb39
          have hn3 := Lib.hid (hno2.out (by rintro (h | h); exact c34 h; exact c39 h))
          clear hyes hno2 c34 c39
          go_wp2_with fail
          go_roundg (s.size - (i + 1))
          case measure => exact f4.out
          case rel => exact ⟨i + 1, rfl, by omega, by simp, rfl, hn3⟩
    · obtain rfl : i = s.size := by omega
      have hin' : ¬ (s.size : Int) < (s.size : Int) := by omega
      have hQn : Hid (Q = []) := Lib.hid (by
        rw [hQ.out]
        refine preQ_nil fun c hc => ?_
        obtain ⟨j, hj, rfl⟩ := List.getElem_of_mem hc
        have := hno.out j (by rw [← sz_list]; exact hj)
        unfold chAt at this
        rw [List.getD_eq_getElem?_getD, List.getElem?_eq_getElem hj] at this
        exact this)
      go_wp2
      go_ret
      exact ⟨by rw [hQn.out]; rfl, rfl⟩
end Go.Proofs.YtllbbacnakoomaaGreatDoor
