/- lex's prefix. -/
import Derived.Test.YthbicbfdldpemaaLw5
import Derived.Test.YthbicbfdldpemaaMcSpec
namespace Go.Proofs.Ythbicbfdldpemaa
open Go.RowKit
set_option linter.unusedVariables false

def pw : List (List UInt8) := [[], [76], [117], [85], [117, 56]]
def pHit (A : List UInt8) (i : Nat) (s : List UInt8) : Bool := hasL A i s && (chAt A (i + s.length) == 34 || (chAt A (i + s.length) == 39 && decide (s ≠ [117, 56])))
def prefFrom (A : List UInt8) (i k : Nat) : Int := match (pw.drop k).find? (pHit A i) with | some s => s.length | none => -1

theorem hasL1 {A : List UInt8} {i : Nat} {c : UInt8} (hc : c ≠ 0) : hasL A i [c] = decide (chAt A i = c) := by
  unfold hasL
  rw [Bool.eq_iff_iff]
  simp only [List.length_cons, List.length_nil, Bool.and_eq_true, decide_eq_true_eq, List.all_eq_true, List.mem_range, beq_iff_eq]
  constructor
  · rintro ⟨_, h⟩
    exact h 0 (by omega)
  · intro h0
    refine ⟨?_, fun j hj => ?_⟩
    · by_cases h : i < A.length
      · omega
      · rw [chAt_ge (by omega)] at h0
        exact absurd h0.symm hc
    · match j, hj with
      | 0, _ => exact h0

theorem hasL2' {A : List UInt8} {i : Nat} {c d : UInt8} (hd : d ≠ 0) : hasL A i [c, d] = decide (chAt A i = c ∧ chAt A (i + 1) = d) := by
  unfold hasL
  rw [Bool.eq_iff_iff]
  simp only [List.length_cons, List.length_nil, Bool.and_eq_true, decide_eq_true_eq, List.all_eq_true, List.mem_range, beq_iff_eq]
  constructor
  · rintro ⟨_, h⟩
    exact ⟨h 0 (by omega), h 1 (by omega)⟩
  · rintro ⟨h0, h1⟩
    refine ⟨?_, fun j hj => ?_⟩
    · by_cases h : i + 1 < A.length
      · omega
      · rw [chAt_ge (by omega)] at h1
        exact absurd h1.symm hd
    · match j, hj with
      | 0, _ => exact h0
      | 1, _ => exact h1

theorem pref_all {A : List UInt8} {i : Nat} (hi : i ≤ A.length) : prefFrom A i 0 = lettersL A i := by
  have h0 : hasL A i [] = true := by simp [hasL, hi]
  unfold prefFrom lettersL pw
  simp only [List.drop_zero, List.find?_cons, pHit, h0, hasL1 (show (76 : UInt8) ≠ 0 by decide), hasL1 (show (117 : UInt8) ≠ 0 by decide), hasL1 (show (85 : UInt8) ≠ 0 by decide), hasL2' (show (56 : UInt8) ≠ 0 by decide), List.length_nil, List.length_cons, Nat.add_zero, Nat.zero_add]
  generalize chAt A i = c
  generalize chAt A (i + 1) = d
  generalize chAt A (i + 2) = e
  by_cases h1 : c = 34
  · simp [h1]
  · by_cases h2 : c = 39
    · simp [h2]
    · by_cases h3 : c = 76
      · subst h3
        by_cases d1 : d = 34
        · simp [d1]
        · by_cases d2 : d = 39
          · simp [d2]
          · simp [d1, d2, beq_false_of_ne d1, beq_false_of_ne d2]
      · by_cases h4 : c = 117
        · subst h4
          by_cases d1 : d = 34
          · simp [d1]
          · by_cases d2 : d = 39
            · simp [d2]
            · by_cases d3 : d = 56
              · by_cases e1 : e = 34
                · simp [d3, e1]
                · simp [d3, e1, beq_false_of_ne e1]
              · simp [d1, d2, d3, beq_false_of_ne d1, beq_false_of_ne d2]
        · by_cases h5 : c = 85
          · subst h5
            by_cases d1 : d = 34
            · simp [d1]
            · by_cases d2 : d = 39
              · simp [d2]
              · simp [d1, d2, beq_false_of_ne d1, beq_false_of_ne d2]
          · simp [h1, h2, h3, h4, h5, beq_false_of_ne h1, beq_false_of_ne h2]

def PrefPost (A : List UInt8) (at_ : Nat) (w : World) (e : Ending) (w' : World) : Prop := e = .returned (.int .i64 (lettersL A at_)) ∧ Below w.heap.size w w'

theorem pref_step {A : List UInt8} {i k : Nat} {s : List UInt8} (h : pw[k]? = some s) : prefFrom A i k = if pHit A i s then (s.length : Int) else prefFrom A i (k + 1) := by
  unfold prefFrom
  rw [List.drop_eq_getElem_cons (List.getElem?_eq_some_iff.1 h).1, (List.getElem?_eq_some_iff.1 h).2, List.find?_cons]
  cases pHit A i s <;> rfl

set_option maxHeartbeats 2000000 in
set_option maxRecDepth 100000 in
theorem prefix_any (b : Nat) (R : List Rn) (lo : Option Addr) (cap at_ : Nat) (hl : R.length ≤ 1000001) (ha : at_ ≤ R.length) (w : World) (h : WkAt w b R lo cap at_) :
    Calls Try.prog 110 #[.pointer (some ⟨b, 0, none⟩)] w fun e w' => PrefPost (cs R) at_ w e w' := by
  have HP := fun (k : Nat) (hk : k ≤ 10) (w' : World) (hb : Below w.heap.size w w') => peek_any b R lo cap at_ k (by omega) w' (h.below hb)
  have HH := fun (s : ByteArray) (hs : s.size ≤ 10) (w' : World) (hb : Below w.heap.size w w') => has_any b R lo cap at_ s hs w' (h.below hb)
  have HE : Hid (lettersL (cs R) at_ = prefFrom (cs R) at_ 0) := Lib.hid (pref_all (by rw [cs_len]; exact ha)).symm
  replace HP := Lib.hid HP
  replace HH := Lib.hid HH
  clear h
  go_enter Try.func110, Try.ntmps110
  go_wp2_with fail
  obtain ⟨W1, hW1⟩ : ∃ W1, W1 = w.alloc (.cells #[.string (bs []), .string (bs [76]), .string (bs [117]), .string (bs [85]), .string (bs [117, 56])] 9) := ⟨_, rfl⟩
  have hB1 : Below w.heap.size w W1 := by rw [hW1]; exact (Below.refl _ w).alloc (Nat.le_refl _) _
  have hg : W1.heap[w.heap.size]? = some (.cells #[.string (bs []), .string (bs [76]), .string (bs [117]), .string (bs [85]), .string (bs [117, 56])] 9 (0, 0)) := by rw [hW1]; exact heap_alloc_new w _
  have HC : Hid (∀ k s, pw[k]? = some s → ∀ w', Below W1.heap.size W1 w' → w'.cell? ⟨w.heap.size, k, none⟩ = some (.string (bs s))) := Lib.hid (by
    intro k s hk w' hb
    refine kept_cell hb ?_
    match k, hk with
    | 0, hk => simp only [pw, List.getElem?_cons_zero, Option.some.injEq] at hk; subst hk; exact Lib.cell_of_heap hg 0
    | 1, hk => simp only [pw, List.getElem?_cons_succ, List.getElem?_cons_zero, Option.some.injEq] at hk; subst hk; exact Lib.cell_of_heap hg 1
    | 2, hk => simp only [pw, List.getElem?_cons_succ, List.getElem?_cons_zero, Option.some.injEq] at hk; subst hk; exact Lib.cell_of_heap hg 2
    | 3, hk => simp only [pw, List.getElem?_cons_succ, List.getElem?_cons_zero, Option.some.injEq] at hk; subst hk; exact Lib.cell_of_heap hg 3
    | 4, hk => simp only [pw, List.getElem?_cons_succ, List.getElem?_cons_zero, Option.some.injEq] at hk; subst hk; exact Lib.cell_of_heap hg 4
    | k + 5, hk => simp [pw] at hk)
  go_loopg [8] 5 (fun u v wr => ∃ k : Nat, u = 5 - k ∧ k ≤ 5 ∧ v = .int .i64 k ∧ Below W1.heap.size W1 wr ∧ Hid (lettersL (cs R) at_ = prefFrom (cs R) at_ k))
  case atStart => exact ⟨0, rfl, by omega, rfl, by rw [← hW1]; exact Below.refl _ _, HE⟩
  case round =>
    obtain ⟨k, rfl, hk, rfl, hbr, HT⟩ := hrel
    by_cases hlt : k < 5
    · obtain ⟨s, hs⟩ : ∃ s, pw[k]? = some s := ⟨pw[k]'hlt, List.getElem?_eq_getElem hlt⟩
      have hs2 : s.length ≤ 2 := by
        match k, hs with
        | 0, hs => simp [pw] at hs; subst hs; decide
        | 1, hs => simp [pw] at hs; subst hs; decide
        | 2, hs => simp [pw] at hs; subst hs; decide
        | 3, hs => simp [pw] at hs; subst hs; decide
        | 4, hs => simp [pw] at hs; subst hs; decide
        | k + 5, hs => simp [pw] at hs
      have hst := pref_step (A := cs R) (i := at_) hs
      obtain ⟨sb, hsb⟩ : ∃ sb, sb = bs s := ⟨_, rfl⟩
      have hsz : sb.size = s.length := by rw [hsb]; rfl
      have hsd : sb.data.toList = s := by rw [hsb]
      have hsu : (sb.toList == [117, 56]) = decide (s = [117, 56]) := by rw [ByteArray.toList_eq, hsd, Bool.eq_iff_iff]; simp
      have c0 := HC.out k s hs wr hbr
      rw [← hsb] at c0
      have hbw : Below w.heap.size w wr := hB1.trans (hbr.mono hB1.size)
      have HPk := HP.out sb.size (by omega) wr hbw
      obtain ⟨x, hx⟩ : ∃ x : UInt8, x = chAt (cs R) (at_ + s.length) := ⟨_, rfl⟩
      rw [hsz, ← hx] at HPk
      obtain ⟨y, hy⟩ : ∃ y, y = hasL (cs R) at_ s := ⟨_, rfl⟩
      have HHk := fun (w' : World) (hb : Below w.heap.size w w') => HH.out sb (by omega) w' hb
      rw [hsd, ← hy] at HHk
      unfold pHit at hst
      rw [← hx, ← hy] at hst
      rw [← hsz] at HPk hst
      have hsz2 : sb.size ≤ 2 := by omega
      replace HPk := Lib.hid HPk
      replace HHk := Lib.hid HHk
      replace hs := Lib.hid hs
      replace hst := Lib.hid hst
      replace hsb := Lib.hid hsb
      replace hsd := Lib.hid hsd
      replace hsz := Lib.hid hsz
      replace hx := Lib.hid hx
      replace hy := Lib.hid hy
      replace hsu := Lib.hid hsu
      go_wp2_with fail
      refine HPk.out.mono ?_
      rintro e w5 ⟨rfl, k5, hw5⟩
      have hb5 : Below wr.heap.size wr w5 := by rw [hw5]; exact drewN_below _ _
      replace hw5 := Lib.hid hw5
      go_wp2_with fail
      refine (HHk.out w5 (hbw.trans (hb5.mono hbw.size))).mono ?_
      rintro e w6 ⟨rfl, k6, hw6⟩
      have hb6 : Below w5.heap.size w5 w6 := by rw [hw6]; exact drewN_below _ _
      replace hw6 := Lib.hid hw6
      have hbr6 : Below W1.heap.size W1 w6 := (hbr.trans (hb5.mono hbr.size)).trans (hb6.mono (Nat.le_trans hbr.size hb5.size))
      have hbw6 : Below w.heap.size w w6 := hB1.trans (hbr6.mono hB1.size)
      cases y with
      | false =>
        have HT2 : Hid (lettersL (cs R) at_ = prefFrom (cs R) at_ (k + 1)) := Lib.hid (by rw [HT.out, hst.out]; simp [])
        go_wp2_with fail
        go_roundg (5 - (k + 1))
        case measure => omega
        case rel => exact ⟨k + 1, rfl, by omega, by go_num, hbr6, HT2⟩
      | true =>
        by_cases h34 : x = 34
        · have b34 : ((x.toNat : Int) == 34) = true := by rw [h34]; rfl
          have hres : Hid (lettersL (cs R) at_ = sb.size) := Lib.hid (by rw [HT.out, hst.out]; simp [h34])
          replace h34 := Lib.hid h34
          go_wp2
          go_ret
          exact ⟨by rw [hres.out]; rfl, hbw6⟩
        · have b34 : ((x.toNat : Int) == 34) = false := by
            apply beq_false_of_ne
            intro e
            exact h34 ((u8eq _ _).2 e)
          by_cases h39 : x = 39
          · have b39 : ((x.toNat : Int) == 39) = true := by rw [h39]; rfl
            by_cases hu : s = [117, 56]
            · have bu : (sb.toList == [117, 56]) = true := by rw [hsu.out]; simpa using hu
              have HT2 : Hid (lettersL (cs R) at_ = prefFrom (cs R) at_ (k + 1)) := Lib.hid (by rw [HT.out, hst.out]; simp [h39, hu])
              replace h34 := Lib.hid h34
              replace h39 := Lib.hid h39
              replace hu := Lib.hid hu
              go_wp2_with fail
              go_roundg (5 - (k + 1))
              case measure => omega
              case rel => exact ⟨k + 1, rfl, by omega, by go_num, hbr6, HT2⟩
            · have bu : (sb.toList == [117, 56]) = false := by rw [hsu.out]; simpa using hu
              have hres : Hid (lettersL (cs R) at_ = sb.size) := Lib.hid (by rw [HT.out, hst.out]; simp [h39, hu])
              replace h34 := Lib.hid h34
              replace h39 := Lib.hid h39
              replace hu := Lib.hid hu
              go_wp2
              go_ret
              exact ⟨by rw [hres.out]; rfl, hbw6⟩
          · have b39 : ((x.toNat : Int) == 39) = false := by
              apply beq_false_of_ne
              intro e
              exact h39 ((u8eq _ _).2 e)
            have HT2 : Hid (lettersL (cs R) at_ = prefFrom (cs R) at_ (k + 1)) := Lib.hid (by rw [HT.out, hst.out]; simp [beq_false_of_ne h34, beq_false_of_ne h39])
            replace h34 := Lib.hid h34
            replace h39 := Lib.hid h39
            go_wp2_with fail
            go_roundg (5 - (k + 1))
            case measure => omega
            case rel => exact ⟨k + 1, rfl, by omega, by go_num, hbr6, HT2⟩
    · have hk5 : k = 5 := by omega
      have hres : Hid (lettersL (cs R) at_ = -1) := Lib.hid (by rw [HT.out, hk5]; rfl)
      replace hk5 := Lib.hid hk5
      go_wp2
      go_ret
      exact ⟨by rw [hres.out]; rfl, hB1.trans (hbr.mono hB1.size)⟩
end Go.Proofs.Ythbicbfdldpemaa
