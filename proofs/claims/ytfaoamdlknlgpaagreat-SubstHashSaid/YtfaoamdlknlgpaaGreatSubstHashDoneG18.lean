/- Texts of this seat's proofs, laid into one file. -/
import Derived.Test.YtfaoamdlknlgpaaGreatSubstHashDoneG17
import Derived.Test.YtfaoamdlknlgpaaGreatSubstHashDoneG7
import Derived.Deep.RegionLaw
import Derived.Deep.Cut
import Derived.Deep.CutRange
/- lex's prefix. -/
namespace Go.Proofs.YtfaoamdlknlgpaaGreat
open Go.RowKit
set_option linter.unusedVariables false

def pw : List (List UInt8) := [[], [76], [117], [85], [117, 56]]
def pHit (A : List UInt8) (i : Nat) (s : List UInt8) : Bool := hasL A i s && (chAt A (i + s.length) == 34 || (chAt A (i + s.length) == 39 && decide (s ≠ [117, 56])))
def prefFrom (A : List UInt8) (i k : Nat) : Int := match (pw.drop k).find? (pHit A i) with | some s => s.length | none => -1

theorem hasL1 {A : List UInt8} {i : Nat} {c : UInt8} (hc : c ≠ 0) : hasL A i [c] = decide (chAt A i = c) := by
  unfold hasL
  rw [Bool.eq_iff_iff]
  simp only [List.length_cons, List.length_nil, Bool.and_eq_true, decide_eq_true_eq, List.all_eq_true, List.mem_range, beq_iff_eq]
  constructor
  · rintro ⟨_, h⟩
    exact h 0 (by omega)
  · intro h0
    refine ⟨?_, fun j hj => ?_⟩
    · by_cases h : i < A.length
      · omega
      · rw [chAt_ge (by omega)] at h0
        exact absurd h0.symm hc
    · match j, hj with
      | 0, _ => exact h0

theorem hasL2' {A : List UInt8} {i : Nat} {c d : UInt8} (hd : d ≠ 0) : hasL A i [c, d] = decide (chAt A i = c ∧ chAt A (i + 1) = d) := by
  unfold hasL
  rw [Bool.eq_iff_iff]
  simp only [List.length_cons, List.length_nil, Bool.and_eq_true, decide_eq_true_eq, List.all_eq_true, List.mem_range, beq_iff_eq]
  constructor
  · rintro ⟨_, h⟩
    exact ⟨h 0 (by omega), h 1 (by omega)⟩
  · rintro ⟨h0, h1⟩
    refine ⟨?_, fun j hj => ?_⟩
    · by_cases h : i + 1 < A.length
      · omega
      · rw [chAt_ge (by omega)] at h1
        exact absurd h1.symm hd
    · match j, hj with
      | 0, _ => exact h0
      | 1, _ => exact h1

theorem pref_all {A : List UInt8} {i : Nat} (hi : i ≤ A.length) : prefFrom A i 0 = lettersL A i := by
  have h0 : hasL A i [] = true := by simp [hasL, hi]
  unfold prefFrom lettersL pw
  simp only [List.drop_zero, List.find?_cons, pHit, h0, hasL1 (show (76 : UInt8) ≠ 0 by decide), hasL1 (show (117 : UInt8) ≠ 0 by decide), hasL1 (show (85 : UInt8) ≠ 0 by decide), hasL2' (show (56 : UInt8) ≠ 0 by decide), List.length_nil, List.length_cons, Nat.add_zero, Nat.zero_add]
  generalize chAt A i = c
  generalize chAt A (i + 1) = d
  generalize chAt A (i + 2) = e
  by_cases h1 : c = 34
  · simp [h1]
  · by_cases h2 : c = 39
    · simp [h2]
    · by_cases h3 : c = 76
      · subst h3
        by_cases d1 : d = 34
        · simp [d1]
        · by_cases d2 : d = 39
          · simp [d2]
          · simp [d1, d2, beq_false_of_ne d1, beq_false_of_ne d2]
      · by_cases h4 : c = 117
        · subst h4
          by_cases d1 : d = 34
          · simp [d1]
          · by_cases d2 : d = 39
            · simp [d2]
            · by_cases d3 : d = 56
              · by_cases e1 : e = 34
                · simp [d3, e1]
                · simp [d3, e1, beq_false_of_ne e1]
              · simp [d1, d2, d3, beq_false_of_ne d1, beq_false_of_ne d2]
        · by_cases h5 : c = 85
          · subst h5
            by_cases d1 : d = 34
            · simp [d1]
            · by_cases d2 : d = 39
              · simp [d2]
              · simp [d1, d2, beq_false_of_ne d1, beq_false_of_ne d2]
          · simp [h1, h2, h3, h4, h5, beq_false_of_ne h1, beq_false_of_ne h2]

def PrefPost (A : List UInt8) (at_ : Nat) (w : World) (e : Ending) (w' : World) : Prop := e = .returned (.int .i64 (lettersL A at_)) ∧ Below w.heap.size w w'

theorem pref_step {A : List UInt8} {i k : Nat} {s : List UInt8} (h : pw[k]? = some s) : prefFrom A i k = if pHit A i s then (s.length : Int) else prefFrom A i (k + 1) := by
  unfold prefFrom
  rw [List.drop_eq_getElem_cons (List.getElem?_eq_some_iff.1 h).1, (List.getElem?_eq_some_iff.1 h).2, List.find?_cons]
  cases pHit A i s <;> rfl

set_option maxHeartbeats 2000000 in
set_option maxRecDepth 100000 in
theorem prefix_any (b : Nat) (R : List Rn) (lo : Option Addr) (cap at_ : Nat) (hl : R.length ≤ 1000001) (ha : at_ ≤ R.length) (w : World) (h : WkAt w b R lo cap at_) :
    Calls Tryz.prog 116 #[.pointer (some ⟨b, 0, none⟩)] w fun e w' => PrefPost (cs R) at_ w e w' := by
  have HP := fun (k : Nat) (hk : k ≤ 10) (w' : World) (hb : Below w.heap.size w w') => peek_any b R lo cap at_ k (by omega) w' (h.below hb)
  have HH := fun (s : ByteArray) (hs : s.size ≤ 10) (w' : World) (hb : Below w.heap.size w w') => has_any b R lo cap at_ s hs w' (h.below hb)
  have HE : Hid (lettersL (cs R) at_ = prefFrom (cs R) at_ 0) := Lib.hid (pref_all (by rw [cs_len]; exact ha)).symm
  replace HP := Lib.hid HP
  replace HH := Lib.hid HH
  clear h
  go_enter Tryz.func116, Tryz.ntmps116
  go_wp2_with fail
  obtain ⟨W1, hW1⟩ : ∃ W1, W1 = w.alloc (.cells #[.string (bs []), .string (bs [76]), .string (bs [117]), .string (bs [85]), .string (bs [117, 56])] 9) := ⟨_, rfl⟩
  have hB1 : Below w.heap.size w W1 := by rw [hW1]; exact (Below.refl _ w).alloc (Nat.le_refl _) _
  have hg : W1.heap[w.heap.size]? = some (.cells #[.string (bs []), .string (bs [76]), .string (bs [117]), .string (bs [85]), .string (bs [117, 56])] 9 (0, 0)) := by rw [hW1]; exact heap_alloc_new w _
  have HC : Hid (∀ k s, pw[k]? = some s → ∀ w', Below W1.heap.size W1 w' → w'.cell? ⟨w.heap.size, k, none⟩ = some (.string (bs s))) := Lib.hid (by
    intro k s hk w' hb
    refine kept_cell hb ?_
    match k, hk with
    | 0, hk => simp only [pw, List.getElem?_cons_zero, Option.some.injEq] at hk; subst hk; exact Lib.cell_of_heap hg 0
    | 1, hk => simp only [pw, List.getElem?_cons_succ, List.getElem?_cons_zero, Option.some.injEq] at hk; subst hk; exact Lib.cell_of_heap hg 1
    | 2, hk => simp only [pw, List.getElem?_cons_succ, List.getElem?_cons_zero, Option.some.injEq] at hk; subst hk; exact Lib.cell_of_heap hg 2
    | 3, hk => simp only [pw, List.getElem?_cons_succ, List.getElem?_cons_zero, Option.some.injEq] at hk; subst hk; exact Lib.cell_of_heap hg 3
    | 4, hk => simp only [pw, List.getElem?_cons_succ, List.getElem?_cons_zero, Option.some.injEq] at hk; subst hk; exact Lib.cell_of_heap hg 4
    | k + 5, hk => simp [pw] at hk)
  go_loopg [8] 5 (fun u v wr => ∃ k : Nat, u = 5 - k ∧ k ≤ 5 ∧ v = .int .i64 k ∧ Below W1.heap.size W1 wr ∧ Hid (lettersL (cs R) at_ = prefFrom (cs R) at_ k))
  case atStart => exact ⟨0, rfl, by omega, rfl, by rw [← hW1]; exact Below.refl _ _, HE⟩
  case round =>
    obtain ⟨k, rfl, hk, rfl, hbr, HT⟩ := hrel
    by_cases hlt : k < 5
    · obtain ⟨s, hs⟩ : ∃ s, pw[k]? = some s := ⟨pw[k]'hlt, List.getElem?_eq_getElem hlt⟩
      have hs2 : s.length ≤ 2 := by
        match k, hs with
        | 0, hs => simp [pw] at hs; subst hs; decide
        | 1, hs => simp [pw] at hs; subst hs; decide
        | 2, hs => simp [pw] at hs; subst hs; decide
        | 3, hs => simp [pw] at hs; subst hs; decide
        | 4, hs => simp [pw] at hs; subst hs; decide
        | k + 5, hs => simp [pw] at hs
      have hst := pref_step (A := cs R) (i := at_) hs
      obtain ⟨sb, hsb⟩ : ∃ sb, sb = bs s := ⟨_, rfl⟩
      have hsz : sb.size = s.length := by rw [hsb]; rfl
      have hsd : sb.data.toList = s := by rw [hsb]
      have hsu : (sb.toList == [117, 56]) = decide (s = [117, 56]) := by rw [ByteArray.toList_eq, hsd, Bool.eq_iff_iff]; simp
      have c0 := HC.out k s hs wr hbr
      rw [← hsb] at c0
      have hbw : Below w.heap.size w wr := hB1.trans (hbr.mono hB1.size)
      have HPk := HP.out sb.size (by omega) wr hbw
      obtain ⟨x, hx⟩ : ∃ x : UInt8, x = chAt (cs R) (at_ + s.length) := ⟨_, rfl⟩
      rw [hsz, ← hx] at HPk
      obtain ⟨y, hy⟩ : ∃ y, y = hasL (cs R) at_ s := ⟨_, rfl⟩
      have HHk := fun (w' : World) (hb : Below w.heap.size w w') => HH.out sb (by omega) w' hb
      rw [hsd, ← hy] at HHk
      unfold pHit at hst
      rw [← hx, ← hy] at hst
      rw [← hsz] at HPk hst
      have hsz2 : sb.size ≤ 2 := by omega
      replace HPk := Lib.hid HPk
      replace HHk := Lib.hid HHk
      replace hs := Lib.hid hs
      replace hst := Lib.hid hst
      replace hsb := Lib.hid hsb
      replace hsd := Lib.hid hsd
      replace hsz := Lib.hid hsz
      replace hx := Lib.hid hx
      replace hy := Lib.hid hy
      replace hsu := Lib.hid hsu
      go_wp2_with fail
      refine HPk.out.mono ?_
      rintro e w5 ⟨rfl, k5, hw5⟩
      have hb5 : Below wr.heap.size wr w5 := by rw [hw5]; exact drewN_below _ _
      replace hw5 := Lib.hid hw5
      go_wp2_with fail
      refine (HHk.out w5 (hbw.trans (hb5.mono hbw.size))).mono ?_
      rintro e w6 ⟨rfl, k6, hw6⟩
      have hb6 : Below w5.heap.size w5 w6 := by rw [hw6]; exact drewN_below _ _
      replace hw6 := Lib.hid hw6
      have hbr6 : Below W1.heap.size W1 w6 := (hbr.trans (hb5.mono hbr.size)).trans (hb6.mono (Nat.le_trans hbr.size hb5.size))
      have hbw6 : Below w.heap.size w w6 := hB1.trans (hbr6.mono hB1.size)
      cases y with
      | false =>
        have HT2 : Hid (lettersL (cs R) at_ = prefFrom (cs R) at_ (k + 1)) := Lib.hid (by rw [HT.out, hst.out]; simp [])
        go_wp2_with fail
        go_roundg (5 - (k + 1))
        case measure => omega
        case rel => exact ⟨k + 1, rfl, by omega, by go_num, hbr6, HT2⟩
      | true =>
        by_cases h34 : x = 34
        · have b34 : ((x.toNat : Int) == 34) = true := by rw [h34]; rfl
          have hres : Hid (lettersL (cs R) at_ = sb.size) := Lib.hid (by rw [HT.out, hst.out]; simp [h34])
          replace h34 := Lib.hid h34
          go_wp2
          go_ret
          exact ⟨by rw [hres.out]; rfl, hbw6⟩
        · have b34 : ((x.toNat : Int) == 34) = false := by
            apply beq_false_of_ne
            intro e
            exact h34 ((u8eq _ _).2 e)
          by_cases h39 : x = 39
          · have b39 : ((x.toNat : Int) == 39) = true := by rw [h39]; rfl
            by_cases hu : s = [117, 56]
            · have bu : (sb.toList == [117, 56]) = true := by rw [hsu.out]; simpa using hu
              have HT2 : Hid (lettersL (cs R) at_ = prefFrom (cs R) at_ (k + 1)) := Lib.hid (by rw [HT.out, hst.out]; simp [h39, hu])
              replace h34 := Lib.hid h34
              replace h39 := Lib.hid h39
              replace hu := Lib.hid hu
              go_wp2_with fail
              go_roundg (5 - (k + 1))
              case measure => omega
              case rel => exact ⟨k + 1, rfl, by omega, by go_num, hbr6, HT2⟩
            · have bu : (sb.toList == [117, 56]) = false := by rw [hsu.out]; simpa using hu
              have hres : Hid (lettersL (cs R) at_ = sb.size) := Lib.hid (by rw [HT.out, hst.out]; simp [h39, hu])
              replace h34 := Lib.hid h34
              replace h39 := Lib.hid h39
              replace hu := Lib.hid hu
              go_wp2
              go_ret
              exact ⟨by rw [hres.out]; rfl, hbw6⟩
          · have b39 : ((x.toNat : Int) == 39) = false := by
              apply beq_false_of_ne
              intro e
              exact h39 ((u8eq _ _).2 e)
            have HT2 : Hid (lettersL (cs R) at_ = prefFrom (cs R) at_ (k + 1)) := Lib.hid (by rw [HT.out, hst.out]; simp [beq_false_of_ne h34, beq_false_of_ne h39])
            replace h34 := Lib.hid h34
            replace h39 := Lib.hid h39
            go_wp2_with fail
            go_roundg (5 - (k + 1))
            case measure => omega
            case rel => exact ⟨k + 1, rfl, by omega, by go_num, hbr6, HT2⟩
    · have hk5 : k = 5 := by omega
      have hres : Hid (lettersL (cs R) at_ = -1) := Lib.hid (by rw [HT.out, hk5]; rfl)
      replace hk5 := Lib.hid hk5
      go_wp2
      go_ret
      exact ⟨by rw [hres.out]; rfl, hB1.trans (hbr.mono hB1.size)⟩
end Go.Proofs.YtfaoamdlknlgpaaGreat

/- lex's constant. -/
namespace Go.Proofs.YtfaoamdlknlgpaaGreat
open Go.RowKit
set_option linter.unusedVariables false

def constL (A : List UInt8) (i : Nat) : Int × Nat :=
  if lettersL A i < 0 then (0, 0)
  else if closesL A i (lettersL A i).toNat = 0 then (0, 0)
  else (if chAt A (i + (lettersL A i).toNat) = 34 then 4 else 3, closesL A i (lettersL A i).toNat)

/-- a quote is told that does not end -/
def tellB (A : List UInt8) (i : Nat) (q : Int) : Bool := decide (¬ lettersL A i < 0 ∧ closesL A i (lettersL A i).toNat = 0 ∧ q ≠ ((i + (lettersL A i).toNat : Nat) : Int))

theorem letters_quote {A : List UInt8} {i : Nat} (h : ¬ lettersL A i < 0) : (lettersL A i).toNat ≤ 2 ∧ (chAt A (i + (lettersL A i).toNat) = 34 ∨ chAt A (i + (lettersL A i).toNat) = 39) := by
  revert h
  unfold lettersL
  split
  · rename_i h; intro _; exact ⟨by decide, by simpa using h⟩
  · split
    · rename_i h; intro _; exact ⟨by decide, .inl (by simpa using h.2.2)⟩
    · split
      · rename_i h; intro _; exact ⟨by decide, by simpa using h.2⟩
      · intro h; exact absurd (by decide) h

def ConstPost (W0 : World) (b : Nat) (file : ByteArray) (R : List Rn) (n : Nat) (lo : Option Addr) (cap at_ : Nat) (ds : List Dg) (sp : Bool) (q : Int) (K : Int × Nat) (tb : Bool) (pos : Nat) (w : World) (e : Ending) (w' : World) : Prop :=
  ∃ vd', e = .returned (.tuple #[.int .i64 K.1, .int .i64 K.2]) ∧ LwAt W0 w' b file n lo cap at_ vd' (ds ++ if tb then [⟨2, rF R pos, rT R pos⟩] else []) sp (if tb then (pos : Int) else q) ∧ KeptX w w'

set_option maxHeartbeats 2000000 in
set_option maxRecDepth 100000 in
theorem constant_any (W0 : World) (b : Nat) (file : ByteArray) (R : List Rn) (lo : Option Addr) (cap at_ : Nat) (vd : Value) (ds : List Dg) (sp : Bool) (q : Int) (HR : ∀ w', Bel b W0 w' → Row w' 3 lo (R.map Rn.v)) (hcap : R.length ≤ cap) (hl : R.length ≤ 1000001) (ha : at_ ≤ R.length) (hd : ds.length ≤ 1000010) (w : World) (h : LwAt W0 w b file R.length lo cap at_ vd ds sp q) :
    Calls Tryz.prog 104 #[.pointer (some ⟨b, 0, none⟩)] w fun e w' => ConstPost W0 b file R R.length lo cap at_ ds sp q (constL (cs R) at_) (tellB (cs R) at_ q) (at_ + (lettersL (cs R) at_).toNat) w e w' := by
  have hW := h.wk HR hcap (by omega) (by omega)
  have HPf := prefix_any b R lo cap at_ hl ha w hW
  obtain ⟨a, haa⟩ : ∃ a, a = lettersL (cs R) at_ := ⟨_, rfl⟩
  have hLQ := letters_quote (A := cs R) (i := at_)
  have HCl := fun (n : Nat) (hn : n ≤ 10) (hq : chAt (cs R) (at_ + n) = 34 ∨ chAt (cs R) (at_ + n) = 39) (w' : World) (hb : Below w.heap.size w w') => closes_any b R lo cap at_ n hl (by omega) hn hq w' (hW.below hb)
  have HPk := fun (k : Nat) (hk : k ≤ 10) (w' : World) (hb : Below w.heap.size w w') => peek_any b R lo cap at_ k (by omega) w' (hW.below hb)
  have HSp := fun (j : Nat) (hj : j < R.length) (w' : World) (hb : Below w.heap.size w w') => span_any b R lo cap at_ file j j hj hj w' (hW.below hb) (cells6 (h.after hb).cells).1
  unfold PrefPost at HPf
  obtain ⟨KK, hKK⟩ : ∃ KK, KK = constL (cs R) at_ := ⟨_, rfl⟩
  obtain ⟨tb, htb⟩ : ∃ tb, tb = tellB (cs R) at_ q := ⟨_, rfl⟩
  rw [← hKK, ← htb]
  unfold constL at hKK
  unfold tellB at htb
  rw [← haa] at HPf hLQ hKK htb ⊢
  obtain ⟨n, hn⟩ : ∃ n, n = R.length := ⟨_, rfl⟩
  have HN : Hid (R.length = n) := Lib.hid hn.symm
  have HA : Hid ((cs R).length = n) := Lib.hid (by rw [cs_len, hn])
  rw [← hn] at hl ha h HSp ⊢
  replace HPf := Lib.hid HPf
  replace HCl := Lib.hid HCl
  replace HPk := Lib.hid HPk
  replace HSp := Lib.hid HSp
  replace hLQ := Lib.hid hLQ
  replace haa := Lib.hid haa
  clear hn hW HR
  go_enter Tryz.func104, Tryz.ntmps104
  by_cases hneg : a < 0
  · go_wp2_with fail
    refine HPf.out.mono ?_
    rintro e w1 ⟨rfl, hb1⟩
    have hK : KK = (0, 0) := by rw [hKK, if_pos hneg]
    have ht : tb = false := by rw [htb]; exact decide_eq_false (fun h => absurd h.1 (by omega))
    replace hKK := Lib.hid hKK
    replace htb := Lib.hid htb
    replace hK := Lib.hid hK
    replace ht := Lib.hid ht
    go_wp2
    go_ret2
    refine ⟨vd, by rw [hK.out]; rfl, ?_, KeptX.below hb1⟩
    rw [ht.out]
    simpa using h.after hb1
  · obtain ⟨an, han⟩ : ∃ an : Nat, a = an := ⟨a.toNat, by omega⟩
    subst han
    obtain ⟨h2, hqt⟩ := hLQ.out (by omega)
    rw [Int.toNat_natCast] at h2 hqt
    have hjl : at_ + an < n := by
      rcases Nat.lt_or_ge (at_ + an) n with h | h
      · exact h
      · rw [chAt_ge (by rw [HA.out]; exact h)] at hqt; rcases hqt with h | h <;> exact absurd h (by decide)
    have hn0 : ¬ (an : Int) < 0 := by omega
    obtain ⟨c, hc⟩ : ∃ c, c = closesL (cs R) at_ an := ⟨_, rfl⟩
    have HCa := fun w' hb => HCl.out an (by omega) hqt w' hb
    unfold ClosesPost at HCa
    rw [← hc] at HCa
    replace HCa := Lib.hid HCa
    rw [Int.toNat_natCast] at hKK htb ⊢
    rw [← hc, if_neg hn0] at hKK
    rw [← hc] at htb
    replace hc := Lib.hid hc
    replace hKK := Lib.hid hKK
    replace htb := Lib.hid htb
    go_wp2_with fail
    refine HPf.out.mono ?_
    rintro e w1 ⟨rfl, hb1⟩
    go_wp2_with fail
    refine (HCa.out w1 hb1).mono ?_
    rintro e w2 ⟨rfl, k2, hw2⟩
    have hb2 : Below w.heap.size w w2 := by rw [hw2]; exact below_drewN hb1 k2
    replace hw2 := Lib.hid hw2
    have h3 := h.after hb2
    obtain ⟨c0, c1, c2, c3, c4, c5⟩ := cells6 h3.cells
    have fr := fun j => Lib.frozen_of_heap h3.cells j
    by_cases hc0 : c = 0
    · have hK : Hid (KK = (0, 0)) := Lib.hid (by rw [hKK.out, if_pos hc0])
      have q1 : IntKind.i64.wrap ((at_ : Int) + an) = (at_ : Int) + an := IntWalk.i64_in _ (by omega)
      have q2 : IntKind.i64.wrap ((at_ : Int) + an + 1) = (at_ : Int) + an + 1 := IntWalk.i64_in _ (by omega)
      have hc0i : ¬ (0 : Int) < c := by omega
      by_cases hqq : q = (at_ : Int) + an
      · have ht : Hid (tb = false) := Lib.hid (by rw [htb.out]; simp [hqq])
        have bq : (q == (at_ : Int) + an) = true := by simpa using hqq
        replace hqq := Lib.hid hqq
        replace hc0 := Lib.hid hc0
        go_wp2
        go_ret2
        refine ⟨vd, by rw [hK.out]; rfl, ?_, KeptX.below hb2⟩
        rw [ht.out]
        simpa using h3
      · have ht : Hid (tb = true) := Lib.hid (by rw [htb.out]; simp [hqq, hc0])
        have bq : (q == (at_ : Int) + an) = false := by simpa using hqq
        have hX2 : KeptX w w2 := KeptX.below hb2
        have HS := HSp.out (at_ + an) (by omega) w2.drew hb2.drew
        rw [show ((at_ + an : Nat) : Int) = (at_ : Int) + an by omega] at HS
        replace HS := Lib.hid HS
        have hlenD : (ds.map (dgC file)).length + 1 ≤ 1000000000 := by rw [List.length_map]; omega
        have hneb : vd.ownBlock ≠ some b := by intro e; have := h3.diags.ge _ e; omega
        have hlb := lt_of_block h3.cells
        have hdD := h3.diags.drew
        replace hqq := Lib.hid hqq
        replace hc0 := Lib.hid hc0
        go_wp2_with fail
        go_region_law (first
          | (go_simp; go_at_call 90; refine HS.out.mono ?_; rintro e w5 ⟨rfl, hb5⟩; have hd5 := hdD.below hb5; have hc5 := (hb5.block b hlb).trans h3.cells; obtain ⟨y0, y1, y2, y3, y4, y5⟩ := cells6 hc5; have ky := fun o => kept_cell ((Below.refl _ w5).alloc (Nat.le_refl _) o) y3)
          | (refine step_append1 E68 rfl rfl (hd5.alloc _) rfl rfl (heap_alloc_new _ _) rfl (by simp [Value.oneCell']) hlenD (by decide) (by have := hb5.size; simp at this ⊢; omega) ?_; intro v9 w9 hown9 hg9; have hc9 := (hg9.block b (by have := hb5.size; simp at this ⊢; omega) (fun e => hneb e.symm)).trans ((Lib.alloc_old _ _ _ (by have := hb5.size; simp at this ⊢; omega)).trans hc5); obtain ⟨ao9, cap9, rfl, _, _, _, _⟩ := hown9.rown (n := ds.length + 1) (by simp); have qf := fun j => Lib.frozen_of_heap hc9 j; obtain ⟨z0, z1, z2, z3, z4, z5⟩ := cells6 hc9))
        all_goals
          have hb6 : Bel b W0 (w5.alloc (.cells #[.int .i64 2, .string file, .int .i64 (rF R (at_ + an)), .int .i64 (rT R (at_ + an))] 68)) := h3.below.after (((Below.refl _ w2).drew.trans hb5).alloc (by have := hb5.size; simp at this ⊢; omega) _) (Nat.le_of_lt hlb)
          have hb9 : Bel b W0 w9 := hb6.app (hd5.alloc _) (by decide) hg9 (Nat.le_succ b) (by have := hb5.size; simp at this ⊢; omega)
          have hX9 : KeptX w (w9.setCell ⟨b, 3, none⟩ (.slice ao9 (ds.length + 1) cap9)) := ((((hX2.trans (KeptX.below (Below.refl _ w2).drew)).trans (KeptX.below hb5)).trans (KeptX.below ((Below.refl _ w5).alloc (Nat.le_refl _) _))).trans (KeptX.app (hd5.alloc _) hg9)).trans (KeptX.set hc9 _ _)
          have hc10 := lw_set3 hc9 (.slice ao9 (ds.length + 1) cap9)
          have hd10 := hown9.setBelow (b := b) (j := 3) (Nat.lt_succ_self _) (.slice ao9 (ds.length + 1) cap9)
          have hb10 : Bel b W0 (w9.setCell ⟨b, 3, none⟩ (.slice ao9 (ds.length + 1) cap9)) := hb9.set hc9 (by decide) (Nat.le_refl _) 3 _
          generalize w9.setCell ⟨b, 3, none⟩ (.slice ao9 (ds.length + 1) cap9) = wA at *
          clear z0 z1 z2 z3 z4 z5 qf y0 y1 y2 y3 y4 y5 c0 c1 c2 c3 c4 c5 fr ky hg9 hown9 hc9 hb9 hb6 hd5 hc5 hb5
          obtain ⟨z0, z1, z2, z3, z4, z5⟩ := cells6 hc10
          have qf := fun j => Lib.frozen_of_heap hc10 j
          go_wp2
          go_ret2
          refine ⟨.slice ao9 (ds.length + 1) cap9, by rw [hK.out]; rfl, ?_, hX9.trans (KeptX.set hc10 _ _)⟩
          rw [ht.out]
          refine ⟨by rw [lw_set5 hc10]; simp, hb10.set hc10 (by decide) (Nat.le_refl _) 5 _, ?_⟩
          have := hd10.setBelow (b := b) (j := 5) (Nat.lt_succ_self _) (.int .i64 ((at_ : Int) + an))
          simpa [dgC] using this
    · have hcp : (0 : Int) < c := by omega
      have HPa := HPk.out an (by omega) w2 hb2
      obtain ⟨x, hx⟩ : ∃ x : UInt8, x = chAt (cs R) (at_ + an) := ⟨_, rfl⟩
      rw [← hx] at HPa
      have ht : Hid (tb = false) := Lib.hid (by rw [htb.out]; simp [hc0])
      have hK : Hid (KK = (if x = 34 then 4 else 3, c)) := Lib.hid (by rw [hKK.out, if_neg hc0, hx])
      replace HPa := Lib.hid HPa
      replace hx := Lib.hid hx
      go_wp2_with fail
      refine HPa.out.mono ?_
      rintro e w5 ⟨rfl, k5, hw5⟩
      have hb5 : Below w.heap.size w w5 := by rw [hw5]; exact below_drewN hb2 k5
      replace hw5 := Lib.hid hw5
      by_cases h34 : x = 34
      · have b34 : ((x.toNat : Int) == 34) = true := by rw [h34]; rfl
        have hK2 : Hid (KK = (4, c)) := Lib.hid (by rw [hK.out, if_pos h34])
        replace h34 := Lib.hid h34
        go_wp2
        go_ret2
        refine ⟨vd, by rw [hK2.out]; rfl, ?_, KeptX.below hb5⟩
        rw [ht.out]
        simpa using h.after hb5
      · have b34 : ((x.toNat : Int) == 34) = false := beq_false_of_ne (fun e => h34 ((u8eq _ _).2 e))
        have hK2 : Hid (KK = (3, c)) := Lib.hid (by rw [hK.out, if_neg h34])
        replace h34 := Lib.hid h34
        go_wp2
        go_ret2
        refine ⟨vd, by rw [hK2.out]; rfl, ?_, KeptX.below hb5⟩
        rw [ht.out]
        simpa using h.after hb5
end Go.Proofs.YtfaoamdlknlgpaaGreat

/- lex's number. -/
namespace Go.Proofs.YtfaoamdlknlgpaaGreat
open Go.RowKit
set_option linter.unusedVariables false

theorem idx_exp : ∀ n : Fin 256, decide (0 ≤ Lib.indexByte [101, 69, 112, 80] (UInt8.ofNat n.val)) = decide (UInt8.ofNat n.val = 101 ∨ UInt8.ofNat n.val = 69 ∨ UInt8.ofNat n.val = 112 ∨ UInt8.ofNat n.val = 80) := by decide +kernel

theorem idx_expB (c : UInt8) : decide (0 ≤ Lib.indexByte [101, 69, 112, 80] c) = decide (c = 101 ∨ c = 69 ∨ c = 112 ∨ c = 80) := by
  have := idx_exp ⟨c.toNat, c.toNat_lt⟩
  simpa using this

theorem idx_sign : ∀ n : Fin 256, decide (0 ≤ Lib.indexByte [91, 93, 40, 41, 123, 125, 46, 38, 42, 43, 45, 126, 33, 47, 37, 60, 62, 94, 124, 63, 58, 59, 61, 44, 35] (UInt8.ofNat n.val)) = decide (UInt8.ofNat n.val ∈ [91, 93, 40, 41, 123, 125, 46, 38, 42, 43, 45, 126, 33, 47, 37, 60, 62, 94, 124, 63, 58, 59, 61, 44, (35 : UInt8)]) := by decide +kernel

/-- what number gives -/
def pnumL (A : List UInt8) (i : Nat) : Nat := numL A i - i
def NumPost (A : List UInt8) (i : Nat) (w : World) (e : Ending) (w' : World) : Prop := e = .returned (.int .i64 (pnumL A i)) ∧ ∃ q, w' = w.drewN q

theorem num_more {A : List UInt8} (j : Nat) : numRun (A.drop j) = if expB (chAt A j) (chAt A (j + 1)) then numRun (A.drop (j + 2)) + 2 else if numB (chAt A j) then numRun (A.drop (j + 1)) + 1 else 0 := by
  by_cases h : j < A.length
  · exact num_step h
  · rw [num_end (by omega), chAt_ge (by omega : A.length ≤ j)]
    have h1 : expB 0 (chAt A (j + 1)) = false := by simp [expB]
    have h2 : numB 0 = false := by decide
    rw [h1, h2]
    rfl

theorem numB_beyond {A : List UInt8} {j : Nat} (h : A.length ≤ j) : numB (chAt A j) = false := by rw [chAt_ge h]; decide
theorem expB_beyond {A : List UInt8} {j : Nat} (h : A.length ≤ j) (d : UInt8) : expB (chAt A j) d = false := by rw [chAt_ge h]; simp [expB]

set_option maxHeartbeats 2000000 in
set_option maxRecDepth 100000 in
theorem number_any (b : Nat) (R : List Rn) (lo : Option Addr) (cap at_ : Nat) (hl : R.length ≤ 1000001) (ha : at_ ≤ R.length) (w : World) (h : WkAt w b R lo cap at_) :
    Calls Tryz.prog 108 #[.pointer (some ⟨b, 0, none⟩)] w fun e w' => NumPost (cs R) at_ w e w' := by
  have HP := fun (k : Nat) (hk : k ≤ 4000000) (w' : World) (hb : Below w.heap.size w w') => peek_any b R lo cap at_ k hk w' (h.below hb)
  obtain ⟨m, hm⟩ : ∃ m, m = R.length := ⟨_, rfl⟩
  have HA : Hid ((cs R).length = m) := Lib.hid (by rw [cs_len, hm])
  rw [← hm] at hl ha
  replace HP := Lib.hid HP
  clear hm h
  obtain ⟨N, hN⟩ : ∃ N, N = pnumL (cs R) at_ := ⟨_, rfl⟩
  obtain ⟨c0, hc0⟩ : ∃ c, c = chAt (cs R) at_ := ⟨_, rfl⟩
  obtain ⟨c1, hc1⟩ : ∃ c, c = chAt (cs R) (at_ + 1) := ⟨_, rfl⟩
  have hq0 : w = w.drewN 0 := rfl
  have HP0 := HP.out 0 (by omega) w (Below.refl _ _)
  rw [Nat.add_zero, ← hc0] at HP0
  have HPost : Hid (∀ e w', e = .returned (.int .i64 N) → (∃ q, w' = w.drewN q) → NumPost (cs R) at_ w e w') := Lib.hid (by
    intro e w' he hq
    subst he
    exact ⟨by rw [hN], hq⟩)
  unfold pnumL numL at hN
  rw [← hc0, ← hc1] at hN
  replace HP0 := Lib.hid HP0
  replace hN := Lib.hid hN
  replace hq0 := Lib.hid hq0
  go_enter Tryz.func108, Tryz.ntmps108
  go_wp2_with fail
  refine HP0.out.mono ?_
  rintro e w1 ⟨rfl, q1, hq1⟩
  have hb1 : Below w.heap.size w w1 := by rw [hq1]; exact drewN_below w _
  replace hq1 := Lib.hid hq1
  obtain ⟨n0, hn0⟩ : ∃ n0 : Nat, n0 = if c0 = 46 then 1 else 0 := ⟨_, rfl⟩
  have hn01 : n0 ≤ 1 := by rw [hn0]; split <;> omega
  obtain ⟨c, hc⟩ : ∃ c, c = chAt (cs R) (at_ + n0) := ⟨_, rfl⟩
  have hNd : Hid (N = if digitB c then n0 + 1 + numRun ((cs R).drop (at_ + (n0 + 1))) else 0) := Lib.hid (by
    rw [hN.out, hc, hn0]
    by_cases h46 : c0 = 46
    · have hd0 : digitB c0 = false := by rw [h46]; decide
      have h1 := num_more (A := cs R) (at_ + 1)
      rw [← hc1] at h1
      rw [if_pos h46, ← hc1]
      by_cases hd : digitB c1 = true
      · have hx : expB c1 (chAt (cs R) (at_ + 1 + 1)) = false := by
          unfold expB
          apply decide_eq_false
          rintro ⟨h, _⟩
          rcases h with h | h | h | h <;> rw [h] at hd <;> exact absurd hd (by decide)
        have hnB : numB c1 = true := by unfold numB; rw [hd]; simp
        rw [if_pos (.inr ⟨h46, hd⟩), if_pos hd, h1, hx, if_neg (by simp), if_pos hnB]
        rw [show at_ + (1 + 1) = at_ + 1 + 1 by omega]
        omega
      · rw [if_neg (by simp [hd0, hd]), if_neg hd]
        omega
    · rw [if_neg h46, show at_ + 0 = at_ from rfl, ← hc0]
      by_cases hd : digitB c0 = true
      · rw [if_pos (.inl hd), if_pos hd, Nat.zero_add]
        omega
      · rw [if_neg (by simp [hd, h46]), if_neg hd]
        omega)
  replace hn0 := Lib.hid hn0
  have HPn := HP.out n0 (by omega) w1 hb1
  rw [← hc] at HPn
  replace HPn := Lib.hid HPn
  replace hc := Lib.hid hc
  replace hc0 := Lib.hid hc0
  replace hc1 := Lib.hid hc1
  go_upto_if 8 with fail
  go_cut [3] from 9 to 10 (fun s wx => s = .int .i64 n0 ∧ wx = w1)
  case first =>
    by_cases h46 : c0 = 46
    · have b46 : ((c0.toNat : Int) == 46) = true := by rw [h46]; rfl
      have hn00 : Hid (n0 = 1) := Lib.hid (by rw [hn0.out, if_pos h46])
      replace h46 := Lib.hid h46
      go_wp2_with fail
      go_meet
      case rel => exact ⟨by rw [hn00.out]; rfl, rfl⟩
    · have b46 : ((c0.toNat : Int) == 46) = false := beq_false_of_ne (fun e => h46 ((u8eq _ _).2 e))
      have hn00 : Hid (n0 = 0) := Lib.hid (by rw [hn0.out, if_neg h46])
      replace h46 := Lib.hid h46
      go_wp2_with fail
      go_meet
      case rel => exact ⟨by rw [hn00.out]; rfl, rfl⟩
  case rest =>
    obtain ⟨rfl, hwc⟩ := hcut
    subst hwc
    go_wp2_with fail
    refine HPn.out.mono ?_
    rintro e w2 ⟨rfl, k2, hk2⟩
    obtain ⟨q2, hq2⟩ : ∃ q2, w2 = w.drewN q2 := ⟨_, by rw [hk2, hq1.out, drewN_add]⟩
    have hb2 : Below w.heap.size w w2 := by rw [hq2]; exact drewN_below w _
    replace hq2 := Lib.hid hq2
    clear hk2
    go_wp2_with fail
    refine (pdigit_any c w2).mono ?_
    rintro e w3 ⟨rfl, hw3⟩
    replace hw3 := hw3.symm
    subst hw3
    cases hd : digitB c with
    | false =>
      rw [hd] at hNd
      have hN0 : Hid (N = 0) := Lib.hid (by rw [hNd.out]; rfl)
      replace hd := Lib.hid hd
      go_wp2
      go_ret
      exact HPost.out _ _ (by rw [hN0.out]; rfl) ⟨q2, hq2.out⟩
    | true =>
      rw [hd] at hNd
      replace hd := Lib.hid hd
      go_wp2_with fail
      go_loopg [3] (m + 20 - (at_ + (n0 + 1))) (fun u v wr => ∃ k : Nat, u = m + 20 - (at_ + k) ∧ at_ + k ≤ m + 10 ∧ v = .int .i64 k ∧ (∃ q, wr = w.drewN q) ∧ Hid (N = k + numRun ((cs R).drop (at_ + k))))
      case atStart => exact ⟨n0 + 1, rfl, by omega, by go_num, ⟨q2, hq2.out⟩, Lib.hid (by rw [hNd.out]; rfl)⟩
      case round =>
        obtain ⟨k, rfl, hk, rfl, ⟨q, hq⟩, HT⟩ := hrel
        have hbr : Below w.heap.size w wr := by rw [hq]; exact drewN_below w q
        replace hq := Lib.hid hq
        obtain ⟨x, hx⟩ : ∃ x, x = chAt (cs R) (at_ + k) := ⟨_, rfl⟩
        obtain ⟨y, hy⟩ : ∃ y, y = chAt (cs R) (at_ + k + 1) := ⟨_, rfl⟩
        have hmore := num_more (A := cs R) (at_ + k)
        rw [← hx, ← hy] at hmore
        have HPk := HP.out k (by omega) wr hbr
        rw [← hx] at HPk
        replace HPk := Lib.hid HPk
        have hxm : x ≠ 0 → at_ + k < m := by
          intro h0
          rcases Nat.lt_or_ge (at_ + k) m with h | h
          · exact h
          · exact absurd (hx.trans (chAt_ge (by rw [HA.out]; exact h))) h0
        replace hx := Lib.hid hx
        go_wp2_with fail
        refine HPk.out.mono ?_
        rintro e w4 ⟨rfl, kk, hkk⟩
        obtain ⟨qw4, hqw4⟩ : ∃ q, w4 = w.drewN q := ⟨_, by rw [hkk, hq.out, drewN_add]⟩
        have hbw4 : Below w.heap.size w w4 := by rw [hqw4]; exact drewN_below w _
        replace hqw4 := Lib.hid hqw4
        clear hkk
        have HPk1 := HP.out (k + 1) (by omega) w4 hbw4
        rw [show at_ + (k + 1) = at_ + k + 1 by omega, ← hy, show ((k + 1 : Nat) : Int) = (k : Int) + 1 by omega] at HPk1
        replace HPk1 := Lib.hid HPk1
        replace hy := Lib.hid hy
        go_wp2_with fail
        refine HPk1.out.mono ?_
        rintro e w5 ⟨rfl, kk, hkk⟩
        obtain ⟨qw5, hqw5⟩ : ∃ q, w5 = w.drewN q := ⟨_, by rw [hkk, hqw4.out, drewN_add]⟩
        have hbw5 : Below w.heap.size w w5 := by rw [hqw5]; exact drewN_below w _
        replace hqw5 := Lib.hid hqw5
        clear hkk
        have HI := Tryz.strings_IndexByte ⟨#[101, 69, 112, 80]⟩ (x.toNat : Int) w5
        obtain ⟨ix, hix⟩ : ∃ ix, ix = Lib.indexByte [101, 69, 112, 80] x := ⟨_, rfl⟩
        rw [show ((x.toNat : Int).toNat.toUInt8) = x by simp, show (⟨#[101, 69, 112, 80]⟩ : ByteArray).data.toList = [101, 69, 112, 80] from rfl, ← hix] at HI
        have hie := idx_expB x
        rw [← hix] at hie
        replace HI := Lib.hid HI
        replace hix := Lib.hid hix
        go_wp2_with fail
        refine HI.out.mono ?_
        rintro e w6 ⟨rfl, hw6⟩
        replace hw6 := hw6.symm
        subst hw6
        by_cases hix0 : 0 ≤ ix
        · have hxe : x = 101 ∨ x = 69 ∨ x = 112 ∨ x = 80 := by
            have := hie
            rw [decide_eq_true hix0] at this
            exact of_decide_eq_true this.symm
          have hx0 : at_ + k < m := hxm (by rcases hxe with h | h | h | h <;> rw [h] <;> decide)
          by_cases hs : y = 43 ∨ y = 45
          · have hxt : expB x y = true := decide_eq_true ⟨hxe, hs⟩
            have hN2 : Hid (N = (k + 2) + numRun ((cs R).drop (at_ + (k + 2)))) := Lib.hid (by rw [HT.out, hmore, hxt, if_pos rfl, show at_ + (k + 2) = at_ + k + 2 by omega]; omega)
            replace hie := Lib.hid hie
            replace hxe := Lib.hid hxe
            replace hxt := Lib.hid hxt
            replace hmore := Lib.hid hmore
            rcases hs with hs | hs
            · have b43 : ((y.toNat : Int) == 43) = true := by rw [hs]; rfl
              replace hs := Lib.hid hs
              go_wp2_with fail
              go_roundg (m + 20 - (at_ + (k + 2)))
              case measure => omega
              case rel => exact ⟨k + 2, rfl, by omega, by go_num, ⟨qw5, hqw5.out⟩, hN2⟩
            · have b43 : ((y.toNat : Int) == 43) = false := by rw [hs]; rfl
              have b45 : ((y.toNat : Int) == 45) = true := by rw [hs]; rfl
              replace hs := Lib.hid hs
              go_wp2_with fail
              go_roundg (m + 20 - (at_ + (k + 2)))
              case measure => omega
              case rel => exact ⟨k + 2, rfl, by omega, by go_num, ⟨qw5, hqw5.out⟩, hN2⟩
          · have hxf : expB x y = false := decide_eq_false (fun h => hs h.2)
            have b43 : ((y.toNat : Int) == 43) = false := beq_false_of_ne (fun e => hs (.inl ((u8eq _ _).2 e)))
            have b45 : ((y.toNat : Int) == 45) = false := beq_false_of_ne (fun e => hs (.inr ((u8eq _ _).2 e)))
            replace hie := Lib.hid hie
            replace hxe := Lib.hid hxe
            replace hs := Lib.hid hs
            have hN1 : Hid (N = if numB x then k + (numRun ((cs R).drop (at_ + k + 1)) + 1) else k) := Lib.hid (by rw [HT.out, hmore, hxf]; cases numB x <;> rfl)
            replace hmore := Lib.hid hmore
            replace hxf := Lib.hid hxf
            go_wp2_with fail
            refine (pletter_any x w5).mono ?_
            rintro e w7 ⟨rfl, hw7⟩
            replace hw7 := hw7.symm
            subst hw7
            obtain ⟨lb, hlb⟩ : ∃ lb, lb = letterB x := ⟨_, rfl⟩
            obtain ⟨db, hdb⟩ : ∃ db, db = digitB x := ⟨_, rfl⟩
            have hNB : numB x = (lb || db || decide (x = 46)) := by rw [hlb, hdb]; rfl
            have HD := pdigit_any x w5
            rw [← hlb]
            rw [← hdb] at HD
            replace HD := Lib.hid HD
            cases lb with
            | true =>
              have hN2 : Hid (N = (k + 1) + numRun ((cs R).drop (at_ + (k + 1)))) := Lib.hid (by rw [hN1.out, hNB, show at_ + (k + 1) = at_ + k + 1 by omega]; simp; omega)
              have hx0 : at_ + k < m := hxm (by intro e; rw [e] at hlb; exact absurd hlb (by decide))
              replace hlb := Lib.hid hlb
              replace hdb := Lib.hid hdb
              replace hNB := Lib.hid hNB
              go_wp2_with fail
              go_roundg (m + 20 - (at_ + (k + 1)))
              case measure => omega
              case rel => exact ⟨k + 1, rfl, by omega, by go_num, ⟨qw5, hqw5.out⟩, hN2⟩
            | false =>
              replace hlb := Lib.hid hlb
              go_wp2_with fail
              refine HD.out.mono ?_
              rintro e w8 ⟨rfl, hw8⟩
              replace hw8 := hw8.symm
              subst hw8
              cases db with
              | true =>
                have hN2 : Hid (N = (k + 1) + numRun ((cs R).drop (at_ + (k + 1)))) := Lib.hid (by rw [hN1.out, hNB, show at_ + (k + 1) = at_ + k + 1 by omega]; simp; omega)
                have hx0 : at_ + k < m := hxm (by intro e; rw [e] at hdb; exact absurd hdb (by decide))
                replace hdb := Lib.hid hdb
                replace hNB := Lib.hid hNB
                go_wp2_with fail
                go_roundg (m + 20 - (at_ + (k + 1)))
                case measure => omega
                case rel => exact ⟨k + 1, rfl, by omega, by go_num, ⟨qw5, hqw5.out⟩, hN2⟩
              | false =>
                replace hdb := Lib.hid hdb
                by_cases h46 : x = 46
                · have b46 : ((x.toNat : Int) == 46) = true := by rw [h46]; rfl
                  have hN2 : Hid (N = (k + 1) + numRun ((cs R).drop (at_ + (k + 1)))) := Lib.hid (by rw [hN1.out, hNB, h46, show at_ + (k + 1) = at_ + k + 1 by omega]; simp; omega)
                  have hx0 : at_ + k < m := hxm (by rw [h46]; decide)
                  replace h46 := Lib.hid h46
                  replace hNB := Lib.hid hNB
                  go_wp2_with fail
                  go_roundg (m + 20 - (at_ + (k + 1)))
                  case measure => omega
                  case rel => exact ⟨k + 1, rfl, by omega, by go_num, ⟨qw5, hqw5.out⟩, hN2⟩
                · have b46 : ((x.toNat : Int) == 46) = false := beq_false_of_ne (fun e => h46 ((u8eq _ _).2 e))
                  have hN2 : Hid (N = k) := Lib.hid (by rw [hN1.out, hNB]; simp [h46])
                  replace h46 := Lib.hid h46
                  replace hNB := Lib.hid hNB
                  go_wp2
                  go_ret
                  exact HPost.out _ _ (by rw [hN2.out]; rfl) ⟨qw5, hqw5.out⟩
        · have hxne : ¬ (x = 101 ∨ x = 69 ∨ x = 112 ∨ x = 80) := by
            have := hie
            rw [decide_eq_false hix0] at this
            exact of_decide_eq_false this.symm
          have hxf : expB x y = false := decide_eq_false (fun h => hxne h.1)
          replace hie := Lib.hid hie
          replace hxne := Lib.hid hxne
          have hN1 : Hid (N = if numB x then k + (numRun ((cs R).drop (at_ + k + 1)) + 1) else k) := Lib.hid (by rw [HT.out, hmore, hxf]; cases numB x <;> rfl)
          replace hmore := Lib.hid hmore
          replace hxf := Lib.hid hxf
          go_wp2_with fail
          refine (pletter_any x w5).mono ?_
          rintro e w7 ⟨rfl, hw7⟩
          replace hw7 := hw7.symm
          subst hw7
          obtain ⟨lb, hlb⟩ : ∃ lb, lb = letterB x := ⟨_, rfl⟩
          obtain ⟨db, hdb⟩ : ∃ db, db = digitB x := ⟨_, rfl⟩
          have hNB : numB x = (lb || db || decide (x = 46)) := by rw [hlb, hdb]; rfl
          have HD := pdigit_any x w5
          rw [← hlb]
          rw [← hdb] at HD
          replace HD := Lib.hid HD
          cases lb with
          | true =>
            have hN2 : Hid (N = (k + 1) + numRun ((cs R).drop (at_ + (k + 1)))) := Lib.hid (by rw [hN1.out, hNB, show at_ + (k + 1) = at_ + k + 1 by omega]; simp; omega)
            have hx0 : at_ + k < m := hxm (by intro e; rw [e] at hlb; exact absurd hlb (by decide))
            replace hlb := Lib.hid hlb
            replace hdb := Lib.hid hdb
            replace hNB := Lib.hid hNB
            go_wp2_with fail
            go_roundg (m + 20 - (at_ + (k + 1)))
            case measure => omega
            case rel => exact ⟨k + 1, rfl, by omega, by go_num, ⟨qw5, hqw5.out⟩, hN2⟩
          | false =>
            replace hlb := Lib.hid hlb
            go_wp2_with fail
            refine HD.out.mono ?_
            rintro e w8 ⟨rfl, hw8⟩
            replace hw8 := hw8.symm
            subst hw8
            cases db with
            | true =>
              have hN2 : Hid (N = (k + 1) + numRun ((cs R).drop (at_ + (k + 1)))) := Lib.hid (by rw [hN1.out, hNB, show at_ + (k + 1) = at_ + k + 1 by omega]; simp; omega)
              have hx0 : at_ + k < m := hxm (by intro e; rw [e] at hdb; exact absurd hdb (by decide))
              replace hdb := Lib.hid hdb
              replace hNB := Lib.hid hNB
              go_wp2_with fail
              go_roundg (m + 20 - (at_ + (k + 1)))
              case measure => omega
              case rel => exact ⟨k + 1, rfl, by omega, by go_num, ⟨qw5, hqw5.out⟩, hN2⟩
            | false =>
              replace hdb := Lib.hid hdb
              by_cases h46 : x = 46
              · have b46 : ((x.toNat : Int) == 46) = true := by rw [h46]; rfl
                have hN2 : Hid (N = (k + 1) + numRun ((cs R).drop (at_ + (k + 1)))) := Lib.hid (by rw [hN1.out, hNB, h46, show at_ + (k + 1) = at_ + k + 1 by omega]; simp; omega)
                have hx0 : at_ + k < m := hxm (by rw [h46]; decide)
                replace h46 := Lib.hid h46
                replace hNB := Lib.hid hNB
                go_wp2_with fail
                go_roundg (m + 20 - (at_ + (k + 1)))
                case measure => omega
                case rel => exact ⟨k + 1, rfl, by omega, by go_num, ⟨qw5, hqw5.out⟩, hN2⟩
              · have b46 : ((x.toNat : Int) == 46) = false := beq_false_of_ne (fun e => h46 ((u8eq _ _).2 e))
                have hN2 : Hid (N = k) := Lib.hid (by rw [hN1.out, hNB]; simp [h46])
                replace h46 := Lib.hid h46
                replace hNB := Lib.hid hNB
                go_wp2
                go_ret
                exact HPost.out _ _ (by rw [hN2.out]; rfl) ⟨qw5, hqw5.out⟩
end Go.Proofs.YtfaoamdlknlgpaaGreat
