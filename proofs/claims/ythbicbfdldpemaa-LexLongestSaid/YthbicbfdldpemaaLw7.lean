/- lex's constant. -/
import Derived.Test.YthbicbfdldpemaaLw6
import Derived.Deep.RegionLaw
import Derived.Deep.Cut
namespace Go.Proofs.Ythbicbfdldpemaa
open Go.RowKit
set_option linter.unusedVariables false

def constL (A : List UInt8) (i : Nat) : Int × Nat :=
  if lettersL A i < 0 then (0, 0)
  else if closesL A i (lettersL A i).toNat = 0 then (0, 0)
  else (if chAt A (i + (lettersL A i).toNat) = 34 then 4 else 3, closesL A i (lettersL A i).toNat)

/-- a quote is told that does not end -/
def tellB (A : List UInt8) (i : Nat) (q : Int) : Bool := decide (¬ lettersL A i < 0 ∧ closesL A i (lettersL A i).toNat = 0 ∧ q ≠ ((i + (lettersL A i).toNat : Nat) : Int))

theorem letters_quote {A : List UInt8} {i : Nat} (h : ¬ lettersL A i < 0) : (lettersL A i).toNat ≤ 2 ∧ (chAt A (i + (lettersL A i).toNat) = 34 ∨ chAt A (i + (lettersL A i).toNat) = 39) := by
  revert h
  unfold lettersL
  split
  · rename_i h; intro _; exact ⟨by decide, by simpa using h⟩
  · split
    · rename_i h; intro _; exact ⟨by decide, .inl (by simpa using h.2.2)⟩
    · split
      · rename_i h; intro _; exact ⟨by decide, by simpa using h.2⟩
      · intro h; exact absurd (by decide) h

def ConstPost (W0 : World) (b : Nat) (file : ByteArray) (R : List Rn) (n : Nat) (lo : Option Addr) (cap at_ : Nat) (ds : List Dg) (sp : Bool) (q : Int) (K : Int × Nat) (tb : Bool) (pos : Nat) (w : World) (e : Ending) (w' : World) : Prop :=
  ∃ vd', e = .returned (.tuple #[.int .i64 K.1, .int .i64 K.2]) ∧ LwAt W0 w' b file n lo cap at_ vd' (ds ++ if tb then [⟨2, rF R pos, rT R pos⟩] else []) sp (if tb then (pos : Int) else q) ∧ KeptX w w'

set_option maxHeartbeats 2000000 in
set_option maxRecDepth 100000 in
theorem constant_any (W0 : World) (b : Nat) (file : ByteArray) (R : List Rn) (lo : Option Addr) (cap at_ : Nat) (vd : Value) (ds : List Dg) (sp : Bool) (q : Int) (HR : ∀ w', Bel b W0 w' → Row w' 3 lo (R.map Rn.v)) (hcap : R.length ≤ cap) (hl : R.length ≤ 1000001) (ha : at_ ≤ R.length) (hd : ds.length ≤ 1000010) (w : World) (h : LwAt W0 w b file R.length lo cap at_ vd ds sp q) :
    Calls Try.prog 98 #[.pointer (some ⟨b, 0, none⟩)] w fun e w' => ConstPost W0 b file R R.length lo cap at_ ds sp q (constL (cs R) at_) (tellB (cs R) at_ q) (at_ + (lettersL (cs R) at_).toNat) w e w' := by
  have hW := h.wk HR hcap (by omega) (by omega)
  have HPf := prefix_any b R lo cap at_ hl ha w hW
  obtain ⟨a, haa⟩ : ∃ a, a = lettersL (cs R) at_ := ⟨_, rfl⟩
  have hLQ := letters_quote (A := cs R) (i := at_)
  have HCl := fun (n : Nat) (hn : n ≤ 10) (hq : chAt (cs R) (at_ + n) = 34 ∨ chAt (cs R) (at_ + n) = 39) (w' : World) (hb : Below w.heap.size w w') => closes_any b R lo cap at_ n hl (by omega) hn hq w' (hW.below hb)
  have HPk := fun (k : Nat) (hk : k ≤ 10) (w' : World) (hb : Below w.heap.size w w') => peek_any b R lo cap at_ k (by omega) w' (hW.below hb)
  have HSp := fun (j : Nat) (hj : j < R.length) (w' : World) (hb : Below w.heap.size w w') => span_any b R lo cap at_ file j j hj hj w' (hW.below hb) (cells6 (h.after hb).cells).1
  unfold PrefPost at HPf
  obtain ⟨KK, hKK⟩ : ∃ KK, KK = constL (cs R) at_ := ⟨_, rfl⟩
  obtain ⟨tb, htb⟩ : ∃ tb, tb = tellB (cs R) at_ q := ⟨_, rfl⟩
  rw [← hKK, ← htb]
  unfold constL at hKK
  unfold tellB at htb
  rw [← haa] at HPf hLQ hKK htb ⊢
  obtain ⟨n, hn⟩ : ∃ n, n = R.length := ⟨_, rfl⟩
  have HN : Hid (R.length = n) := Lib.hid hn.symm
  have HA : Hid ((cs R).length = n) := Lib.hid (by rw [cs_len, hn])
  rw [← hn] at hl ha h HSp ⊢
  replace HPf := Lib.hid HPf
  replace HCl := Lib.hid HCl
  replace HPk := Lib.hid HPk
  replace HSp := Lib.hid HSp
  replace hLQ := Lib.hid hLQ
  replace haa := Lib.hid haa
  clear hn hW HR
  go_enter Try.func98, Try.ntmps98
  by_cases hneg : a < 0
  · go_wp2_with fail
    refine HPf.out.mono ?_
    rintro e w1 ⟨rfl, hb1⟩
    have hK : KK = (0, 0) := by rw [hKK, if_pos hneg]
    have ht : tb = false := by rw [htb]; exact decide_eq_false (fun h => absurd h.1 (by omega))
    replace hKK := Lib.hid hKK
    replace htb := Lib.hid htb
    replace hK := Lib.hid hK
    replace ht := Lib.hid ht
    go_wp2
    go_ret2
    refine ⟨vd, by rw [hK.out]; rfl, ?_, KeptX.below hb1⟩
    rw [ht.out]
    simpa using h.after hb1
  · obtain ⟨an, han⟩ : ∃ an : Nat, a = an := ⟨a.toNat, by omega⟩
    subst han
    obtain ⟨h2, hqt⟩ := hLQ.out (by omega)
    rw [Int.toNat_natCast] at h2 hqt
    have hjl : at_ + an < n := by
      rcases Nat.lt_or_ge (at_ + an) n with h | h
      · exact h
      · rw [chAt_ge (by rw [HA.out]; exact h)] at hqt; rcases hqt with h | h <;> exact absurd h (by decide)
    have hn0 : ¬ (an : Int) < 0 := by omega
    obtain ⟨c, hc⟩ : ∃ c, c = closesL (cs R) at_ an := ⟨_, rfl⟩
    have HCa := fun w' hb => HCl.out an (by omega) hqt w' hb
    unfold ClosesPost at HCa
    rw [← hc] at HCa
    replace HCa := Lib.hid HCa
    rw [Int.toNat_natCast] at hKK htb ⊢
    rw [← hc, if_neg hn0] at hKK
    rw [← hc] at htb
    replace hc := Lib.hid hc
    replace hKK := Lib.hid hKK
    replace htb := Lib.hid htb
    go_wp2_with fail
    refine HPf.out.mono ?_
    rintro e w1 ⟨rfl, hb1⟩
    go_wp2_with fail
    refine (HCa.out w1 hb1).mono ?_
    rintro e w2 ⟨rfl, k2, hw2⟩
    have hb2 : Below w.heap.size w w2 := by rw [hw2]; exact below_drewN hb1 k2
    replace hw2 := Lib.hid hw2
    have h3 := h.after hb2
    obtain ⟨c0, c1, c2, c3, c4, c5⟩ := cells6 h3.cells
    have fr := fun j => Lib.frozen_of_heap h3.cells j
    by_cases hc0 : c = 0
    · have hK : Hid (KK = (0, 0)) := Lib.hid (by rw [hKK.out, if_pos hc0])
      have q1 : IntKind.i64.wrap ((at_ : Int) + an) = (at_ : Int) + an := IntWalk.i64_in _ (by omega)
      have q2 : IntKind.i64.wrap ((at_ : Int) + an + 1) = (at_ : Int) + an + 1 := IntWalk.i64_in _ (by omega)
      have hc0i : ¬ (0 : Int) < c := by omega
      by_cases hqq : q = (at_ : Int) + an
      · have ht : Hid (tb = false) := Lib.hid (by rw [htb.out]; simp [hqq])
        have bq : (q == (at_ : Int) + an) = true := by simpa using hqq
        replace hqq := Lib.hid hqq
        replace hc0 := Lib.hid hc0
        go_wp2
        go_ret2
        refine ⟨vd, by rw [hK.out]; rfl, ?_, KeptX.below hb2⟩
        rw [ht.out]
        simpa using h3
      · have ht : Hid (tb = true) := Lib.hid (by rw [htb.out]; simp [hqq, hc0])
        have bq : (q == (at_ : Int) + an) = false := by simpa using hqq
        have hX2 : KeptX w w2 := KeptX.below hb2
        have HS := HSp.out (at_ + an) (by omega) w2.drew hb2.drew
        rw [show ((at_ + an : Nat) : Int) = (at_ : Int) + an by omega] at HS
        replace HS := Lib.hid HS
        have hlenD : (ds.map (dgC file)).length + 1 ≤ 1000000000 := by rw [List.length_map]; omega
        have hneb : vd.ownBlock ≠ some b := by intro e; have := h3.diags.ge _ e; omega
        have hlb := lt_of_block h3.cells
        have hdD := h3.diags.drew
        replace hqq := Lib.hid hqq
        replace hc0 := Lib.hid hc0
        go_wp2_with fail
        go_region_law (first
          | (go_simp; go_at_call 89; refine HS.out.mono ?_; rintro e w5 ⟨rfl, hb5⟩; have hd5 := hdD.below hb5; have hc5 := (hb5.block b hlb).trans h3.cells; obtain ⟨y0, y1, y2, y3, y4, y5⟩ := cells6 hc5; have ky := fun o => kept_cell ((Below.refl _ w5).alloc (Nat.le_refl _) o) y3)
          | (refine step_append1 E38 rfl rfl (hd5.alloc _) rfl rfl (heap_alloc_new _ _) rfl (by simp [Value.oneCell']) hlenD (by decide) (by have := hb5.size; simp at this ⊢; omega) ?_; intro v9 w9 hown9 hg9; have hc9 := (hg9.block b (by have := hb5.size; simp at this ⊢; omega) (fun e => hneb e.symm)).trans ((Lib.alloc_old _ _ _ (by have := hb5.size; simp at this ⊢; omega)).trans hc5); obtain ⟨ao9, cap9, rfl, _, _, _, _⟩ := hown9.rown (n := ds.length + 1) (by simp); have qf := fun j => Lib.frozen_of_heap hc9 j; obtain ⟨z0, z1, z2, z3, z4, z5⟩ := cells6 hc9))
        all_goals
          have hb6 : Bel b W0 (w5.alloc (.cells #[.int .i64 2, .string file, .int .i64 (rF R (at_ + an)), .int .i64 (rT R (at_ + an))] 38)) := h3.below.after (((Below.refl _ w2).drew.trans hb5).alloc (by have := hb5.size; simp at this ⊢; omega) _) (Nat.le_of_lt hlb)
          have hb9 : Bel b W0 w9 := hb6.app (hd5.alloc _) (by decide) hg9 (Nat.le_succ b) (by have := hb5.size; simp at this ⊢; omega)
          have hX9 : KeptX w (w9.setCell ⟨b, 3, none⟩ (.slice ao9 (ds.length + 1) cap9)) := ((((hX2.trans (KeptX.below (Below.refl _ w2).drew)).trans (KeptX.below hb5)).trans (KeptX.below ((Below.refl _ w5).alloc (Nat.le_refl _) _))).trans (KeptX.app (hd5.alloc _) hg9)).trans (KeptX.set hc9 _ _)
          have hc10 := lw_set3 hc9 (.slice ao9 (ds.length + 1) cap9)
          have hd10 := hown9.setBelow (b := b) (j := 3) (Nat.lt_succ_self _) (.slice ao9 (ds.length + 1) cap9)
          have hb10 : Bel b W0 (w9.setCell ⟨b, 3, none⟩ (.slice ao9 (ds.length + 1) cap9)) := hb9.set hc9 (by decide) (Nat.le_refl _) 3 _
          generalize w9.setCell ⟨b, 3, none⟩ (.slice ao9 (ds.length + 1) cap9) = wA at *
          clear z0 z1 z2 z3 z4 z5 qf y0 y1 y2 y3 y4 y5 c0 c1 c2 c3 c4 c5 fr ky hg9 hown9 hc9 hb9 hb6 hd5 hc5 hb5
          obtain ⟨z0, z1, z2, z3, z4, z5⟩ := cells6 hc10
          have qf := fun j => Lib.frozen_of_heap hc10 j
          go_wp2
          go_ret2
          refine ⟨.slice ao9 (ds.length + 1) cap9, by rw [hK.out]; rfl, ?_, hX9.trans (KeptX.set hc10 _ _)⟩
          rw [ht.out]
          refine ⟨by rw [lw_set5 hc10]; simp, hb10.set hc10 (by decide) (Nat.le_refl _) 5 _, ?_⟩
          have := hd10.setBelow (b := b) (j := 5) (Nat.lt_succ_self _) (.int .i64 ((at_ : Int) + an))
          simpa [dgC] using this
    · have hcp : (0 : Int) < c := by omega
      have HPa := HPk.out an (by omega) w2 hb2
      obtain ⟨x, hx⟩ : ∃ x : UInt8, x = chAt (cs R) (at_ + an) := ⟨_, rfl⟩
      rw [← hx] at HPa
      have ht : Hid (tb = false) := Lib.hid (by rw [htb.out]; simp [hc0])
      have hK : Hid (KK = (if x = 34 then 4 else 3, c)) := Lib.hid (by rw [hKK.out, if_neg hc0, hx])
      replace HPa := Lib.hid HPa
      replace hx := Lib.hid hx
      go_wp2_with fail
      refine HPa.out.mono ?_
      rintro e w5 ⟨rfl, k5, hw5⟩
      have hb5 : Below w.heap.size w w5 := by rw [hw5]; exact below_drewN hb2 k5
      replace hw5 := Lib.hid hw5
      by_cases h34 : x = 34
      · have b34 : ((x.toNat : Int) == 34) = true := by rw [h34]; rfl
        have hK2 : Hid (KK = (4, c)) := Lib.hid (by rw [hK.out, if_pos h34])
        replace h34 := Lib.hid h34
        go_wp2
        go_ret2
        refine ⟨vd, by rw [hK2.out]; rfl, ?_, KeptX.below hb5⟩
        rw [ht.out]
        simpa using h.after hb5
      · have b34 : ((x.toNat : Int) == 34) = false := beq_false_of_ne (fun e => h34 ((u8eq _ _).2 e))
        have hK2 : Hid (KK = (3, c)) := Lib.hid (by rw [hK.out, if_neg h34])
        replace h34 := Lib.hid h34
        go_wp2
        go_ret2
        refine ⟨vd, by rw [hK2.out]; rfl, ?_, KeptX.below hb5⟩
        rw [ht.out]
        simpa using h.after hb5
end Go.Proofs.Ythbicbfdldpemaa
