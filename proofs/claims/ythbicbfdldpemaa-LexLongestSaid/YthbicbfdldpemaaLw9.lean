/- lex's punct. -/
import Derived.Test.YthbicbfdldpemaaLw8
namespace Go.Proofs.Ythbicbfdldpemaa
open Go.RowKit
set_option linter.unusedVariables false

def words29 : List (List UInt8) := [[37, 58, 37, 58], [46, 46, 46], [60, 60, 61], [62, 62, 61], [45, 62], [43, 43], [45, 45], [60, 60], [62, 62], [60, 61], [62, 61], [61, 61], [33, 61], [38, 38], [124, 124], [42, 61], [47, 61], [37, 61], [43, 61], [45, 61], [38, 61], [94, 61], [124, 61], [35, 35], [60, 58], [58, 62], [60, 37], [37, 62], [37, 58]]
def signs25 : List UInt8 := [91, 93, 40, 41, 123, 125, 46, 38, 42, 43, 45, 126, 33, 47, 37, 60, 62, 94, 124, 63, 58, 59, 61, 44, 35]
def signB (c : UInt8) : Nat := if c ∈ signs25 then 1 else 0
def punFrom29 (A : List UInt8) (i k : Nat) : Nat := match (words29.drop k).find? (hasL A i) with | some p => p.length | none => signB (chAt A i)

theorem hasL_prefix {A : List UInt8} {i : Nat} {p : List UInt8} (hp : p ≠ []) : hasL A i p = p.isPrefixOf (A.drop i) := by
  have hpos : 0 < p.length := List.length_pos_iff.2 hp
  rw [Bool.eq_iff_iff, List.isPrefixOf_iff_prefix, List.prefix_iff_getElem?]
  unfold hasL
  simp only [Bool.and_eq_true, decide_eq_true_eq, List.all_eq_true, List.mem_range, beq_iff_eq, List.getElem?_drop]
  constructor
  · rintro ⟨h1, h2⟩ j hj
    have := h2 j hj
    rw [List.getElem?_eq_getElem (by omega)]
    unfold chAt at this
    rw [List.getD_eq_getElem?_getD, List.getElem?_eq_getElem (by omega), List.getD_eq_getElem?_getD, List.getElem?_eq_getElem hj] at this
    simp only [Option.getD_some] at this
    rw [this]
  · intro h
    refine ⟨?_, fun j hj => ?_⟩
    · have := (List.getElem?_eq_some_iff.1 (h (p.length - 1) (by omega))).1
      omega
    · rw [chAt_lt (h j hj), List.getD_eq_getElem?_getD, List.getElem?_eq_getElem hj]
      rfl

theorem find_signs (A : List UInt8) (i : Nat) : ∀ l : List UInt8, (∀ c ∈ l, c ≠ 0) → ((((l.map fun c => [c]).find? fun p => p.isPrefixOf (A.drop i)).map List.length).getD 0) = if chAt A i ∈ l then 1 else 0
  | [], _ => by simp
  | c :: l, h => by
    rw [List.map_cons, List.find?_cons, ← hasL_prefix (by simp), hasL1 (h c (by simp))]
    by_cases hc : chAt A i = c
    · simp [hc]
    · simp only [List.mem_cons, hc, false_or]
      exact find_signs A i l (fun c hc => h c (List.mem_cons_of_mem _ hc))

theorem pun_all (A : List UInt8) (i : Nat) : punFrom29 A i 0 = punctL A i := by
  unfold punFrom29 punctL
  have e : punctsL = words29 ++ signs25.map (fun c => [c]) := rfl
  rw [e, List.find?_append, List.drop_zero]
  have hw : words29.find? (hasL A i) = words29.find? (fun p => p.isPrefixOf (A.drop i)) := by
    have : ∀ l : List (List UInt8), (∀ p ∈ l, p ≠ []) → l.find? (hasL A i) = l.find? (fun p => p.isPrefixOf (A.drop i)) := by
      intro l
      induction l with
      | nil => intro _; rfl
      | cons p l ih =>
        intro h
        rw [List.find?_cons, List.find?_cons, hasL_prefix (h p (by simp)), ih (fun p hp => h p (by simp [hp]))]
    exact this _ (by decide)
  rw [hw]
  cases h : words29.find? (fun p => p.isPrefixOf (A.drop i)) with
  | some p => rfl
  | none =>
    have := find_signs A i signs25 (by decide)
    simp only [Option.none_or]
    rw [this]
    rfl

theorem pun_step {A : List UInt8} {i k : Nat} {s : List UInt8} (h : words29[k]? = some s) : punFrom29 A i k = if hasL A i s then s.length else punFrom29 A i (k + 1) := by
  unfold punFrom29
  rw [List.drop_eq_getElem_cons (List.getElem?_eq_some_iff.1 h).1, (List.getElem?_eq_some_iff.1 h).2, List.find?_cons]
  cases hasL A i s <;> rfl

theorem idx_signB (c : UInt8) : decide (0 ≤ Lib.indexByte signs25 c) = decide (c ∈ signs25) := by
  have := idx_sign ⟨c.toNat, c.toNat_lt⟩
  simp only [UInt8.ofNat_toNat] at this
  exact this

def PunPost (A : List UInt8) (i : Nat) (w : World) (e : Ending) (w' : World) : Prop := e = .returned (.int .i64 (punctL A i)) ∧ Below w.heap.size w w'

set_option maxHeartbeats 2000000 in
set_option maxRecDepth 100000 in
theorem ppunct_any (b : Nat) (R : List Rn) (lo : Option Addr) (cap at_ : Nat) (hl : R.length ≤ 1000001) (ha : at_ ≤ R.length) (w : World) (h : WkAt w b R lo cap at_) :
    Calls Try.prog 103 #[.pointer (some ⟨b, 0, none⟩)] w fun e w' => PunPost (cs R) at_ w e w' := by
  have HP := fun (w' : World) (hb : Below w.heap.size w w') => peek_any b R lo cap at_ 0 (by omega) w' (h.below hb)
  have HH := fun (s : ByteArray) (hs : s.size ≤ 10) (w' : World) (hb : Below w.heap.size w w') => has_any b R lo cap at_ s hs w' (h.below hb)
  obtain ⟨P, hP⟩ : ∃ P, P = punctL (cs R) at_ := ⟨_, rfl⟩
  obtain ⟨c, hc⟩ : ∃ c, c = chAt (cs R) at_ := ⟨_, rfl⟩
  have HE : Hid (P = punFrom29 (cs R) at_ 0) := Lib.hid (by rw [hP]; exact (pun_all (cs R) at_).symm)
  have HPost : Hid (∀ e w', e = .returned (.int .i64 P) → Below w.heap.size w w' → PunPost (cs R) at_ w e w') := Lib.hid (by
    intro e w' he hb
    subst he
    exact ⟨by rw [hP], hb⟩)
  rw [Nat.add_zero, ← hc] at HP
  replace HP := Lib.hid HP
  replace HH := Lib.hid HH
  replace hP := Lib.hid hP
  clear h
  go_enter Try.func103, Try.ntmps103
  go_wp2_with fail
  obtain ⟨W1, hW1⟩ : ∃ W1, W1 = w.alloc (.cells (words29.map fun p => Value.string (bs p)).toArray 9) := ⟨_, rfl⟩
  have hB1 : Below w.heap.size w W1 := by rw [hW1]; exact (Below.refl _ w).alloc (Nat.le_refl _) _
  have hg : W1.heap[w.heap.size]? = some (.cells (words29.map fun p => Value.string (bs p)).toArray 9 (0, 0)) := by rw [hW1]; exact heap_alloc_new w _
  have HC : Hid (∀ k s, words29[k]? = some s → ∀ w', Below W1.heap.size W1 w' → w'.cell? ⟨w.heap.size, k, none⟩ = some (.string (bs s))) := Lib.hid (by
    intro k s hk w' hb
    refine kept_cell hb ?_
    rw [Lib.cell_of_heap hg k]
    simp [hk])
  go_loopg [10] 29 (fun u v wr => ∃ k : Nat, u = 29 - k ∧ k ≤ 29 ∧ v = .int .i64 k ∧ Below W1.heap.size W1 wr ∧ Hid (P = punFrom29 (cs R) at_ k))
  case atStart => exact ⟨0, rfl, by omega, rfl, by rw [hW1]; exact Below.refl _ _, HE⟩
  case round =>
    obtain ⟨k, rfl, hk, rfl, hbr, HT⟩ := hrel
    by_cases hlt : k < 29
    · obtain ⟨s, hs⟩ : ∃ s, words29[k]? = some s := ⟨words29[k]'hlt, List.getElem?_eq_getElem hlt⟩
      have hs4 : s.length ≤ 4 := (show ∀ s ∈ words29, s.length ≤ 4 by decide) s (List.mem_of_getElem? hs)
      have hst := pun_step (A := cs R) (i := at_) hs
      obtain ⟨sb, hsb⟩ : ∃ sb, sb = bs s := ⟨_, rfl⟩
      have hsz : sb.size = s.length := by rw [hsb]; rfl
      have hsd : sb.data.toList = s := by rw [hsb]
      have c0 := HC.out k s hs wr hbr
      rw [← hsb] at c0
      have hbw : Below w.heap.size w wr := hB1.trans (hbr.mono hB1.size)
      obtain ⟨y, hy⟩ : ∃ y, y = hasL (cs R) at_ s := ⟨_, rfl⟩
      have HHk := HH.out sb (by omega) wr hbw
      rw [hsd, ← hy] at HHk
      rw [← hy, ← hsz] at hst
      replace HHk := Lib.hid HHk
      replace hs := Lib.hid hs
      replace hst := Lib.hid hst
      replace hsb := Lib.hid hsb
      replace hsd := Lib.hid hsd
      replace hsz := Lib.hid hsz
      replace hy := Lib.hid hy
      replace hc := Lib.hid hc
      go_wp2_with fail
      refine HHk.out.mono ?_
      rintro e w6 ⟨rfl, k6, hw6⟩
      have hb6 : Below wr.heap.size wr w6 := by rw [hw6]; exact drewN_below _ _
      replace hw6 := Lib.hid hw6
      have hbr6 : Below W1.heap.size W1 w6 := hbr.trans (hb6.mono hbr.size)
      have hbw6 : Below w.heap.size w w6 := hB1.trans (hbr6.mono hB1.size)
      cases y with
      | true =>
        have hres : Hid (P = sb.size) := Lib.hid (by rw [HT.out, hst.out, if_pos rfl])
        go_wp2
        go_ret
        exact HPost.out _ _ (by rw [hres.out]; rfl) hbw6
      | false =>
        have HT2 : Hid (P = punFrom29 (cs R) at_ (k + 1)) := Lib.hid (by rw [HT.out, hst.out, if_neg (by decide)])
        go_wp2_with fail
        go_roundg (29 - (k + 1))
        case measure => omega
        case rel => exact ⟨k + 1, rfl, by omega, by go_num, hbr6, HT2⟩
    · have hk29 : k = 29 := by omega
      have hres : Hid (P = signB c) := Lib.hid (by rw [HT.out, hk29, hc]; rfl)
      have hbw : Below w.heap.size w wr := hB1.trans (hbr.mono hB1.size)
      replace hk29 := Lib.hid hk29
      have HPr := HP.out wr hbw
      replace HPr := Lib.hid HPr
      replace hc := Lib.hid hc
      go_wp2_with fail
      refine HPr.out.mono ?_
      rintro e w5 ⟨rfl, k5, hw5⟩
      have hb5 : Below w.heap.size w w5 := by rw [hw5]; exact below_drewN hbw k5
      replace hw5 := Lib.hid hw5
      have HI := Try.strings_IndexByte ⟨#[91, 93, 40, 41, 123, 125, 46, 38, 42, 43, 45, 126, 33, 47, 37, 60, 62, 94, 124, 63, 58, 59, 61, 44, 35]⟩ (c.toNat : Int) w5
      obtain ⟨ix, hix⟩ : ∃ ix, ix = Lib.indexByte signs25 c := ⟨_, rfl⟩
      rw [show ((c.toNat : Int).toNat.toUInt8) = c by simp, show (⟨#[91, 93, 40, 41, 123, 125, 46, 38, 42, 43, 45, 126, 33, 47, 37, 60, 62, 94, 124, 63, 58, 59, 61, 44, 35]⟩ : ByteArray).data.toList = signs25 from rfl, ← hix] at HI
      have hie := idx_signB c
      rw [← hix] at hie
      replace HI := Lib.hid HI
      replace hix := Lib.hid hix
      by_cases h0 : c = 0
      · have b0 : c.toNat = 0 := by rw [h0]; rfl
        have hres2 : Hid (P = 0) := Lib.hid (by rw [hres.out, h0]; decide)
        replace h0 := Lib.hid h0
        replace hie := Lib.hid hie
        go_wp2
        go_ret
        exact HPost.out _ _ (by rw [hres2.out]; rfl) hb5
      · have b0 : ¬ (c.toNat : Int) = 0 := fun e => h0 (UInt8.toNat_inj.1 (by simpa using e))
        have b1 : ((c.toNat : Int) == 0) = false := beq_false_of_ne b0
        replace h0 := Lib.hid h0
        by_cases hix0 : 0 ≤ ix
        · have hres2 : Hid (P = 1) := Lib.hid (by
            rw [decide_eq_true hix0] at hie
            rw [hres.out]
            unfold signB
            rw [if_pos (of_decide_eq_true hie.symm)])
          replace hie := Lib.hid hie
          go_wp2_with fail
          refine HI.out.mono ?_
          rintro e w6 ⟨rfl, hw6⟩
          replace hw6 := hw6.symm
          subst hw6
          go_wp2
          go_ret
          exact HPost.out _ _ (by rw [hres2.out]; rfl) hb5
        · have hres2 : Hid (P = 0) := Lib.hid (by
            rw [decide_eq_false hix0] at hie
            rw [hres.out]
            unfold signB
            rw [if_neg (of_decide_eq_false hie.symm)])
          replace hie := Lib.hid hie
          go_wp2_with fail
          refine HI.out.mono ?_
          rintro e w6 ⟨rfl, hw6⟩
          replace hw6 := hw6.symm
          subst hw6
          go_wp2
          go_ret
          exact HPost.out _ _ (by rw [hres2.out]; rfl) hb5
end Go.Proofs.Ythbicbfdldpemaa
