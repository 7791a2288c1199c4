/- Texts of this seat's proofs, laid into one file. -/
import Derived.Test.YtfaoamdlknlgpaaGreatArgsQuotesDoneG8
import Derived.Test.YtfaoamdlknlgpaaGreatArgsQuotesDoneG9
import Derived.Test.YtfaoamdlknlgpaaGreatArgsQuotesDoneG18
import Derived.Test.YtfaoamdlknlgpaaGreatArgsQuotesDoneG16
import Derived.Deep.LoopGhost
/- The document's One: a text as one token. -/
namespace Go.Proofs.YtfaoamdlknlgpaaGreat
open Go.RowKit
set_option linter.unusedVariables false

/-- a byte as a character without a place -/
def rn0 (c : UInt8) : Rn := ⟨c, 0, 0⟩
theorem cs_rn0 (l : List UInt8) : cs (l.map rn0) = l := by
  unfold cs
  rw [List.map_map]
  exact List.map_id _

theorem letters_take (A : List UInt8) : lettersL (A.take 3) 0 = lettersL A 0 := by
  have h0 := chAt_take (A := A) (i := 0) (e := 3) (by decide)
  have h1 := chAt_take (A := A) (i := 1) (e := 3) (by decide)
  have h2 := chAt_take (A := A) (i := 2) (e := 3) (by decide)
  unfold lettersL
  simp only [Nat.zero_add, h0, h1, h2]

def rowN (l : List UInt8) : List (List Value) := (l.map rn0).map Rn.v
theorem rowN_snoc (l : List UInt8) (c : UInt8) : rowN (l ++ [c]) = rowN l ++ [[.int .u8 c.toNat, .int .i64 0, .int .i64 0]] := by
  simp [rowN, rn0, Rn.v]

theorem byte_at {s : ByteArray} {i : Nat} (hin : i < s.size) : ∃ c, s.data.toList[i]? = some c ∧ (s[i]'hin) = c ∧ s.data.toList.take (i + 1) = s.data.toList.take i ++ [c] := by
  obtain ⟨c, hc⟩ : ∃ c, s.data.toList[i]? = some c := ⟨_, List.getElem?_eq_getElem (by rw [Array.length_toList]; exact hin)⟩
  refine ⟨c, hc, ?_, ?_⟩
  · rw [List.getElem?_eq_some_iff] at hc
    obtain ⟨h1, h2⟩ := hc
    rw [← h2]; simp [ByteArray.getElem_eq_getElem_data]
  · rw [List.take_add_one, hc]
    rfl

set_option maxRecDepth 100000 in
theorem rQuotes_any (s : ByteArray) (w : World) :
    Calls Tryz.prog 47 #[.string s] w fun e w' => e = .returned (.bool (decide (0 ≤ lettersL s.data.toList 0))) ∧ Below w.heap.size w w' := by
  go_enter Tryz.func47, Tryz.ntmps47
  go_wp2_with fail
  go_loopg [3, 4] 3 (fun q v3 v4 wx => ∃ i : Nat, q = 3 - i ∧ i ≤ 3 ∧ i ≤ s.size ∧ v4 = .int .i64 i ∧ Hid (Own wx w.heap.size 85 3 v3 (rowN (s.data.toList.take i))) ∧ Hid (Below w.heap.size w wx))
  case atStart => exact ⟨0, rfl, Nat.zero_le _, Nat.zero_le _, rfl, Lib.hid (Own.nil _ _ _ _), Lib.hid (Below.refl _ _)⟩
  case round =>
    obtain ⟨i, hq, hi, hi2, rfl, ho, hb⟩ := hrel
    replace hq := hq.symm
    subst hq
    have hsB := hb.out.size
    by_cases hin : i < s.size
    · have hin' : (i : Int) < s.size := by omega
      by_cases h3 : i < 3
      · have h3' : (i : Int) < 3 := by omega
        have f4 : Hid (3 - (i + 1) < 3 - i) := Lib.hid (by omega)
        have g1 : IntKind.i64.wrap ((i : Int) + 1) = (i : Int) + 1 := IntWalk.i64_in _ (by omega)
        obtain ⟨c, hc, hci, hst⟩ := byte_at hin
        have hlen : (rowN (s.data.toList.take i)).length + 1 ≤ 1000000000 := by
          unfold rowN
          rw [List.length_map, List.length_map, List.length_take]
          omega
        replace hst := Lib.hid hst
        clear hc
        go_wp2_with (at_builtin; go_must (refine wpList_append1 E28 rfl rfl ho.out rfl rfl (news := [.int .u8 c.toNat, .int .i64 0, .int .i64 0]) (by simp) rfl (by simp [Value.oneCell']) hlen (by decide) hsB ?_); intro v5 w5 hown5 hg5; have hb5 := bapp hb.out ho.out hg5 hsB)
        go_roundg (3 - (i + 1))
        case measure => exact f4.out
        case rel => exact ⟨i + 1, rfl, by omega, by omega, by simp, Lib.hid (by rw [hst.out, rowN_snoc]; exact hown5), Lib.hid hb5⟩
      · have h3' : ¬ (i : Int) < 3 := by omega
        have hi3 : i = 3 := by omega
        subst hi3
        obtain ⟨ao, cap, rfl, _, _, hrow, _⟩ := ho.out.rown (n := ((s.data.toList.take 3).map rn0).length) (by unfold rowN; simp)
        have HL := rletters_any ((s.data.toList.take 3).map rn0) ao cap 0 (by rw [List.length_map, List.length_take]; omega) (by decide) wr hrow
        rw [cs_rn0, letters_take] at HL
        generalize ((s.data.toList.take 3).map rn0).length = m at HL
        obtain ⟨L, hL⟩ : ∃ L, L = lettersL s.data.toList 0 := ⟨_, rfl⟩
        rw [← hL] at HL
        replace hL := Lib.hid hL
        replace HL := Lib.hid HL
        clear hrow
        go_wp2_with fail
        refine HL.out.mono ?_
        rintro e w2 ⟨rfl, hw⟩
        replace hw := hw.symm
        subst hw
        go_wp2
        go_ret
        exact ⟨by rw [← hL.out]; rfl, hb.out⟩
    · have hin' : ¬ (i : Int) < s.size := by omega
      have hie : i = s.size := by omega
      have htk : s.data.toList.take i = s.data.toList := List.take_of_length_le (by rw [Array.length_toList, hie]; exact Nat.le_refl _)
      have hsl : s.data.toList.length ≤ 3 := by rw [Array.length_toList]; show s.size ≤ 3; omega
      rw [htk] at ho
      obtain ⟨ao, cap, rfl, _, _, hrow, _⟩ := ho.out.rown (n := (s.data.toList.map rn0).length) (by unfold rowN; simp)
      have HL := rletters_any (s.data.toList.map rn0) ao cap 0 (by rw [List.length_map]; omega) (by decide) wr hrow
      rw [cs_rn0] at HL
      generalize (s.data.toList.map rn0).length = m at HL
      obtain ⟨L, hL⟩ : ∃ L, L = lettersL s.data.toList 0 := ⟨_, rfl⟩
      rw [← hL] at HL
      replace hL := Lib.hid hL
      replace HL := Lib.hid HL
      clear hrow htk hsl
      go_wp2_with fail
      refine HL.out.mono ?_
      rintro e w2 ⟨rfl, hw⟩
      replace hw := hw.symm
      subst hw
      go_wp2
      go_ret
      exact ⟨by rw [← hL.out]; rfl, hb.out⟩

/-- does a byte bar One? -/
def barB (A : List UInt8) (c : UInt8) : Bool := whiteB c && !decide (0 ≤ lettersL A 0) || decide (c = 10)

/-- a text as one token, by the document: its kind -/
def oneR (A : List UInt8) : Option Nat :=
  if A.any (barB A) = true ∨ A = [] ∨ 0 < (commentL A 0).1 ∨ (nextL A 0).2.2 = true ∨ (nextL A 0).2.1 ≠ A.length then none else some (nextL A 0).1

def oneTokR (A : List UInt8) : List Value :=
  match oneR A with
  | none => [.int .i64 0, .string ⟨#[]⟩, .bool false, .string ⟨#[]⟩, .int .i64 0, .int .i64 0, .bool false, .slice none 0 0]
  | some k => [.int .i64 k, .string ⟨A.toArray⟩, .bool false, .string ⟨#[]⟩, .int .i64 0, .int .i64 0, .bool false, .slice none 0 0]

theorem one_bad {A : List UInt8} (h : oneR A = none) : oneTokR A = [.int .i64 0, .string ⟨#[]⟩, .bool false, .string ⟨#[]⟩, .int .i64 0, .int .i64 0, .bool false, .slice none 0 0] ∧ (oneR A).isSome = false := by
  unfold oneTokR
  rw [h]
  exact ⟨rfl, rfl⟩

set_option maxRecDepth 100000 in
set_option maxHeartbeats 1000000 in
theorem rOne_any (s : ByteArray) (hs : s.size ≤ 1000000) (w : World) :
    Calls Tryz.prog 20 #[.string s] w fun e w' => e = .returned (.tuple #[.agg (oneTokR s.data.toList).toArray, .bool (oneR s.data.toList).isSome]) ∧ Below w.heap.size w w' := by
  have HW := Lib.hid (fun c W => rWhite_any c W)
  have HQ := Lib.hid (fun W => rQuotes_any s W)
  obtain ⟨W1, hW1⟩ : ∃ W1, W1 = w.alloc (.cells #[.int .i64 0, .string ⟨#[]⟩, .bool false, .string ⟨#[]⟩, .int .i64 0, .int .i64 0, .bool false, .slice none 0 0] 34) := ⟨_, rfl⟩
  have hb1 : Hid (Below w.heap.size w W1) := Lib.hid (by rw [hW1]; exact (Below.refl _ w).alloc (Nat.le_refl _) _)
  have hc1 : W1.heap[w.heap.size]? = some (.cells #[.int .i64 0, .string ⟨#[]⟩, .bool false, .string ⟨#[]⟩, .int .i64 0, .int .i64 0, .bool false, .slice none 0 0] 34 (0, 0)) := by rw [hW1]; exact heap_alloc_new w _
  replace hc1 := Lib.hid hc1
  have hlt1 : Hid (w.heap.size < W1.heap.size) := Lib.hid (by rw [hW1]; simp)
  go_enter Tryz.func20, Tryz.ntmps20
  go_wp2_with fail
  rw [← hW1]
  replace hW1 := Lib.hid hW1
  go_loopg [4, 5] s.size (fun q v4 v5 wx => ∃ i : Nat, q = s.size - i ∧ i ≤ s.size ∧ v5 = .int .i64 i ∧ Hid (Own wx W1.heap.size 85 3 v4 (rowN (s.data.toList.take i))) ∧ Hid (Below W1.heap.size W1 wx) ∧ Hid ((s.data.toList.take i).any (barB s.data.toList) = false))
  case atStart => exact ⟨0, rfl, Nat.zero_le _, rfl, Lib.hid (Own.nil _ _ _ _), Lib.hid (Below.refl _ _), Lib.hid (by simp)⟩
  case round =>
    obtain ⟨i, hq, hi, rfl, ho, hb, hbar⟩ := hrel
    replace hq := hq.symm
    subst hq
    have hsB := hb.out.size
    by_cases hin : i < s.size
    · have hin' : (i : Int) < s.size := by omega
      have f4 : Hid (s.size - (i + 1) < s.size - i) := Lib.hid (by omega)
      have g1 : IntKind.i64.wrap ((i : Int) + 1) = (i : Int) + 1 := IntWalk.i64_in _ (by omega)
      obtain ⟨c, hc, hci, hst⟩ := byte_at hin
      have hno : barB s.data.toList c = true → oneR s.data.toList = none := fun h => if_pos (.inl (List.any_eq_true.2 ⟨c, List.mem_of_getElem? hc, h⟩))
      have hgo : barB s.data.toList c = false → (s.data.toList.take (i + 1)).any (barB s.data.toList) = false := fun h => by
        rw [hst, List.any_append, hbar.out]
        simp [h]
      have hlen : (rowN (s.data.toList.take i)).length + 1 ≤ 1000000000 := by
        unfold rowN
        rw [List.length_map, List.length_map, List.length_take]
        omega
      replace hst := Lib.hid hst
      have HWc := HW.out c wr
      unfold barB at hno hgo
      clear hc
      cases hw : whiteB c with
      | true =>
        have hc10 : c ≠ 10 := by rintro rfl; exact absurd hw (by decide)
        have hc10' : (((c.toNat : Nat) : Int) == 10) = false := by
          apply beq_false_of_ne
          intro h
          exact hc10 (u8_of (n := 10) (by decide) h)
        rw [hw] at HWc hno hgo
        replace HWc := Lib.hid HWc
        have HQc := HQ.out wr
        cases hl : decide (0 ≤ lettersL s.data.toList 0) with
        | true =>
          rw [hl] at HQc
          replace HQc := Lib.hid HQc
          have hgo' := Lib.hid (hgo (by simp only [hl, decide_eq_false hc10]; rfl))
          clear hno hgo
          go_wp2_with fail
          refine HWc.out.mono ?_
          rintro e w2 ⟨rfl, hw2⟩
          replace hw2 := hw2.symm
          subst hw2
          go_wp2_with fail
          refine HQc.out.mono ?_
          rintro e w3 ⟨rfl, hb3⟩
          have ho3 := ho.out.below hb3
          have hbb := hb.out.trans (hb3.mono hsB)
          have hsB3 := hbb.size
          clear hb3
          go_wp2_with (at_builtin; go_must (refine wpList_append1 E28 rfl rfl ho3 rfl rfl (news := [.int .u8 c.toNat, .int .i64 0, .int .i64 0]) (by simp) rfl (by simp [Value.oneCell']) hlen (by decide) hsB3 ?_); intro v9 w9 hown9 hg9; have hb9 := bapp hbb ho3 hg9 hsB3)
          go_roundg (s.size - (i + 1))
          case measure => exact f4.out
          case rel => exact ⟨i + 1, rfl, by omega, by simp, Lib.hid (by rw [hst.out, rowN_snoc]; exact hown9), Lib.hid hb9, hgo'⟩
        | false =>
          rw [hl] at HQc
          replace HQc := Lib.hid HQc
          have hno' := Lib.hid (hno (by simp only [hl]; rfl))
          clear hno hgo
          go_wp2_with fail
          refine HWc.out.mono ?_
          rintro e w2 ⟨rfl, hw2⟩
          replace hw2 := hw2.symm
          subst hw2
          go_wp2_with fail
          refine HQc.out.mono ?_
          rintro e w3 ⟨rfl, hb3⟩
          have hbb := hb.out.trans (hb3.mono hsB)
          have hRq := (hbb.block w.heap.size (by have := hlt1.out; omega)).trans hc1.out
          have hBq : Below w.heap.size w w3 := hb1.out.trans (hbb.mono hb1.out.size)
          obtain ⟨r0, r1, r2, r3, r4, r5, r6, r7⟩ := cells8x hRq
          have fr := fun j => Lib.frozen_of_heap hRq j
          have hg := set8_at (b0 := .int .i64 0) (b1 := .string ⟨#[]⟩) (b2 := .bool false) (b3 := .string ⟨#[]⟩) (b4 := .int .i64 0) (b5 := .int .i64 0) (b6 := .bool false) (b7 := .slice none 0 0) hRq
          have hfin : Hid ((Ending.returned (.tuple #[.agg #[.int .i64 0, .string ⟨#[]⟩, .bool false, .string ⟨#[]⟩, .int .i64 0, .int .i64 0, .bool false, .slice none 0 0], .bool false]) = .returned (.tuple #[.agg (oneTokR s.data.toList).toArray, .bool (oneR s.data.toList).isSome])) ∧ Below w.heap.size w (set8 w3 w.heap.size (.int .i64 0) (.string ⟨#[]⟩) (.bool false) (.string ⟨#[]⟩) (.int .i64 0) (.int .i64 0) (.bool false) (.slice none 0 0))) := Lib.hid ⟨by rw [(one_bad hno'.out).1, (one_bad hno'.out).2], set8_below hBq (Nat.le_refl _)⟩
          obtain ⟨m0, m1, m2, m3, m4, m5, m6, m7⟩ := cells8x hg
          clear hg
          unfold set8 at m0 m1 m2 m3 m4 m5 m6 m7
          go_wp2
          refine bodyPost_ret (v := .tuple #[.agg #[.int .i64 0, .string ⟨#[]⟩, .bool false, .string ⟨#[]⟩, .int .i64 0, .int .i64 0, .bool false, .slice none 0 0], .bool false]) (by simp [results, Tryz.results20, go_sem, m0, m1, m2, m3, m4, m5, m6, m7]) rfl hfin.out
      | false =>
        rw [hw] at HWc hno hgo
        replace HWc := Lib.hid HWc
        by_cases hc10 : c = 10
        · have hc10' : (((c.toNat : Nat) : Int) == 10) = true := by rw [hc10]; rfl
          have hno' := Lib.hid (hno (by simp only [decide_eq_true hc10]; rfl))
          clear hno hgo
          replace hc10 := Lib.hid hc10
          go_wp2_with fail
          refine HWc.out.mono ?_
          rintro e w2 ⟨rfl, hw2⟩
          replace hw2 := hw2.symm
          subst hw2
          have hRq := (hb.out.block w.heap.size (by have := hlt1.out; omega)).trans hc1.out
          have hBq : Below w.heap.size w wr := hb1.out.trans (hb.out.mono hb1.out.size)
          obtain ⟨r0, r1, r2, r3, r4, r5, r6, r7⟩ := cells8x hRq
          have fr := fun j => Lib.frozen_of_heap hRq j
          have hg := set8_at (b0 := .int .i64 0) (b1 := .string ⟨#[]⟩) (b2 := .bool false) (b3 := .string ⟨#[]⟩) (b4 := .int .i64 0) (b5 := .int .i64 0) (b6 := .bool false) (b7 := .slice none 0 0) hRq
          have hfin : Hid ((Ending.returned (.tuple #[.agg #[.int .i64 0, .string ⟨#[]⟩, .bool false, .string ⟨#[]⟩, .int .i64 0, .int .i64 0, .bool false, .slice none 0 0], .bool false]) = .returned (.tuple #[.agg (oneTokR s.data.toList).toArray, .bool (oneR s.data.toList).isSome])) ∧ Below w.heap.size w (set8 wr w.heap.size (.int .i64 0) (.string ⟨#[]⟩) (.bool false) (.string ⟨#[]⟩) (.int .i64 0) (.int .i64 0) (.bool false) (.slice none 0 0))) := Lib.hid ⟨by rw [(one_bad hno'.out).1, (one_bad hno'.out).2], set8_below hBq (Nat.le_refl _)⟩
          obtain ⟨m0, m1, m2, m3, m4, m5, m6, m7⟩ := cells8x hg
          clear hg
          unfold set8 at m0 m1 m2 m3 m4 m5 m6 m7
          go_wp2
          refine bodyPost_ret (v := .tuple #[.agg #[.int .i64 0, .string ⟨#[]⟩, .bool false, .string ⟨#[]⟩, .int .i64 0, .int .i64 0, .bool false, .slice none 0 0], .bool false]) (by simp [results, Tryz.results20, go_sem, m0, m1, m2, m3, m4, m5, m6, m7]) rfl hfin.out
        · have hc10' : (((c.toNat : Nat) : Int) == 10) = false := by
            apply beq_false_of_ne
            intro h
            exact hc10 (u8_of (n := 10) (by decide) h)
          have hgo' := Lib.hid (hgo (by simp only [decide_eq_false hc10]; rfl))
          clear hno hgo
          go_wp2_with fail
          refine HWc.out.mono ?_
          rintro e w2 ⟨rfl, hw2⟩
          replace hw2 := hw2.symm
          subst hw2
          have ho2 := ho.out
          go_wp2_with (at_builtin; go_must (refine wpList_append1 E28 rfl rfl ho2 rfl rfl (news := [.int .u8 c.toNat, .int .i64 0, .int .i64 0]) (by simp) rfl (by simp [Value.oneCell']) hlen (by decide) hsB ?_); intro v9 w9 hown9 hg9; have hb9 := bapp hb.out ho2 hg9 hsB)
          go_roundg (s.size - (i + 1))
          case measure => exact f4.out
          case rel => exact ⟨i + 1, rfl, by omega, by simp, Lib.hid (by rw [hst.out, rowN_snoc]; exact hown9), Lib.hid hb9, hgo'⟩
    · have hin' : ¬ (i : Int) < s.size := by omega
      have hie : i = s.size := by omega
      have hsl : s.data.toList.length = s.size := Array.length_toList
      have htk : s.data.toList.take i = s.data.toList := List.take_of_length_le (by rw [hsl, hie]; exact Nat.le_refl _)
      rw [htk] at ho hbar
      have hs2 : (⟨s.data.toList.toArray⟩ : ByteArray) = s := by cases s; simp
      obtain ⟨A, hA⟩ : ∃ A, A = s.data.toList := ⟨_, rfl⟩
      have hRn : (A.map rn0).length = s.size := by rw [List.length_map, hA, hsl]
      obtain ⟨ao, cap, rfl, _, _, hrow, _⟩ := ho.out.rown (n := s.size) (by unfold rowN; rw [List.length_map, ← hA, hRn])
      rw [← hA] at hrow
      by_cases hz : s.size = 0
      · have hz' : ((s.size : Int) == 0) = true := by rw [hz]; rfl
        have hno' : oneR s.data.toList = none := if_pos (.inr (.inl (List.eq_nil_of_length_eq_zero (by rw [hsl, hz]))))
        replace hno' := Lib.hid hno'
        replace hz := Lib.hid hz
        clear hrow hRn hA hs2 htk hsl
        have hRq := (hb.out.block w.heap.size (by have := hlt1.out; omega)).trans hc1.out
        have hBq : Below w.heap.size w wr := hb1.out.trans (hb.out.mono hb1.out.size)
        obtain ⟨r0, r1, r2, r3, r4, r5, r6, r7⟩ := cells8x hRq
        have fr := fun j => Lib.frozen_of_heap hRq j
        have hg := set8_at (b0 := .int .i64 0) (b1 := .string ⟨#[]⟩) (b2 := .bool false) (b3 := .string ⟨#[]⟩) (b4 := .int .i64 0) (b5 := .int .i64 0) (b6 := .bool false) (b7 := .slice none 0 0) hRq
        have hfin : Hid ((Ending.returned (.tuple #[.agg #[.int .i64 0, .string ⟨#[]⟩, .bool false, .string ⟨#[]⟩, .int .i64 0, .int .i64 0, .bool false, .slice none 0 0], .bool false]) = .returned (.tuple #[.agg (oneTokR s.data.toList).toArray, .bool (oneR s.data.toList).isSome])) ∧ Below w.heap.size w (set8 wr w.heap.size (.int .i64 0) (.string ⟨#[]⟩) (.bool false) (.string ⟨#[]⟩) (.int .i64 0) (.int .i64 0) (.bool false) (.slice none 0 0))) := Lib.hid ⟨by rw [(one_bad hno'.out).1, (one_bad hno'.out).2], set8_below hBq (Nat.le_refl _)⟩
        obtain ⟨m0, m1, m2, m3, m4, m5, m6, m7⟩ := cells8x hg
        clear hg
        unfold set8 at m0 m1 m2 m3 m4 m5 m6 m7
        go_wp2
        refine bodyPost_ret (v := .tuple #[.agg #[.int .i64 0, .string ⟨#[]⟩, .bool false, .string ⟨#[]⟩, .int .i64 0, .int .i64 0, .bool false, .slice none 0 0], .bool false]) (by simp [results, Tryz.results20, go_sem, m0, m1, m2, m3, m4, m5, m6, m7]) rfl hfin.out
      · have hz' : ((s.size : Int) == 0) = false := beq_false_of_ne (by omega)
        have HC := rcomment_any (A.map rn0) ao cap 0 (by rw [hRn]; omega) (Nat.zero_le _) wr hrow
        have HN := rnext_any (A.map rn0) ao cap 0 (by rw [hRn]; omega) (by rw [hRn]; omega) wr hrow
        rw [cs_rn0, hRn] at HC HN
        have hval : oneR s.data.toList = if 0 < (commentL A 0).1 ∨ (nextL A 0).2.2 = true ∨ (nextL A 0).2.1 ≠ s.size then none else some (nextL A 0).1 := by
          unfold oneR
          rw [← hA, ← hsl, ← hA]
          rw [← hA] at hbar
          have hne : A ≠ [] := by
            intro e
            rw [e] at hRn
            simp at hRn
            omega
          simp only [hbar.out, hne, Bool.false_eq_true, false_or]
        generalize (commentL A 0).2 = jb at HC
        generalize (commentL A 0).1 = j at HC hval
        generalize nextL A 0 = nx at HN hval
        obtain ⟨k, e, bd⟩ := nx
        simp only at HN hval
        have hok : ¬ (0 < j ∨ bd = true ∨ e ≠ s.size) → Ending.returned (.tuple #[.agg #[.int .i64 k, .string s, .bool false, .string ⟨#[]⟩, .int .i64 0, .int .i64 0, .bool false, .slice none 0 0], .bool true]) = .returned (.tuple #[.agg (oneTokR s.data.toList).toArray, .bool (oneR s.data.toList).isSome]) := fun h => by
          rw [if_neg h] at hval
          unfold oneTokR
          rw [hval]
          show _ = Ending.returned (.tuple #[.agg #[.int .i64 k, .string ⟨s.data.toList.toArray⟩, .bool false, .string ⟨#[]⟩, .int .i64 0, .int .i64 0, .bool false, .slice none 0 0], .bool true])
          rw [hs2]
        have hno : (0 < j ∨ bd = true ∨ e ≠ s.size) → oneR s.data.toList = none := fun h => by rw [hval, if_pos h]
        replace HC := Lib.hid HC
        replace HN := Lib.hid HN
        clear hrow hRn hA hs2 htk hsl hval
        replace hok := Lib.hid hok
        replace hno := Lib.hid hno
        replace hie := Lib.hid hie
        by_cases hj : 0 < j
        · have hj' : (0 : Int) < j := by omega
          go_wp2_with fail
          refine HC.out.mono ?_
          rintro e w2 ⟨rfl, hw2⟩
          replace hw2 := hw2.symm
          subst hw2
          have hRq := (hb.out.block w.heap.size (by have := hlt1.out; omega)).trans hc1.out
          have hBq : Below w.heap.size w wr := hb1.out.trans (hb.out.mono hb1.out.size)
          obtain ⟨r0, r1, r2, r3, r4, r5, r6, r7⟩ := cells8x hRq
          have fr := fun j => Lib.frozen_of_heap hRq j
          have hg := set8_at (b0 := .int .i64 0) (b1 := .string ⟨#[]⟩) (b2 := .bool false) (b3 := .string ⟨#[]⟩) (b4 := .int .i64 0) (b5 := .int .i64 0) (b6 := .bool false) (b7 := .slice none 0 0) hRq
          have hfin : Hid ((Ending.returned (.tuple #[.agg #[.int .i64 0, .string ⟨#[]⟩, .bool false, .string ⟨#[]⟩, .int .i64 0, .int .i64 0, .bool false, .slice none 0 0], .bool false]) = .returned (.tuple #[.agg (oneTokR s.data.toList).toArray, .bool (oneR s.data.toList).isSome])) ∧ Below w.heap.size w (set8 wr w.heap.size (.int .i64 0) (.string ⟨#[]⟩) (.bool false) (.string ⟨#[]⟩) (.int .i64 0) (.int .i64 0) (.bool false) (.slice none 0 0))) := Lib.hid ⟨by rw [(one_bad (hno.out (.inl hj))).1, (one_bad (hno.out (.inl hj))).2], set8_below hBq (Nat.le_refl _)⟩
          obtain ⟨m0, m1, m2, m3, m4, m5, m6, m7⟩ := cells8x hg
          clear hg
          unfold set8 at m0 m1 m2 m3 m4 m5 m6 m7
          go_wp2
          refine bodyPost_ret (v := .tuple #[.agg #[.int .i64 0, .string ⟨#[]⟩, .bool false, .string ⟨#[]⟩, .int .i64 0, .int .i64 0, .bool false, .slice none 0 0], .bool false]) (by simp [results, Tryz.results20, go_sem, m0, m1, m2, m3, m4, m5, m6, m7]) rfl hfin.out
        · have hj' : ¬ (0 : Int) < j := by omega
          cases bd with
          | true =>
            go_wp2_with fail
            refine HC.out.mono ?_
            rintro e w2 ⟨rfl, hw2⟩
            replace hw2 := hw2.symm
            subst hw2
            go_wp2_with fail
            refine HN.out.mono ?_
            rintro e w3 ⟨rfl, hb3⟩
            have hbb := hb.out.trans (hb3.mono hsB)
            have hRq := (hbb.block w.heap.size (by have := hlt1.out; omega)).trans hc1.out
            have hBq : Below w.heap.size w w3 := hb1.out.trans (hbb.mono hb1.out.size)
            obtain ⟨r0, r1, r2, r3, r4, r5, r6, r7⟩ := cells8x hRq
            have fr := fun j => Lib.frozen_of_heap hRq j
            have hg := set8_at (b0 := .int .i64 0) (b1 := .string ⟨#[]⟩) (b2 := .bool false) (b3 := .string ⟨#[]⟩) (b4 := .int .i64 0) (b5 := .int .i64 0) (b6 := .bool false) (b7 := .slice none 0 0) hRq
            have hfin : Hid ((Ending.returned (.tuple #[.agg #[.int .i64 0, .string ⟨#[]⟩, .bool false, .string ⟨#[]⟩, .int .i64 0, .int .i64 0, .bool false, .slice none 0 0], .bool false]) = .returned (.tuple #[.agg (oneTokR s.data.toList).toArray, .bool (oneR s.data.toList).isSome])) ∧ Below w.heap.size w (set8 w3 w.heap.size (.int .i64 0) (.string ⟨#[]⟩) (.bool false) (.string ⟨#[]⟩) (.int .i64 0) (.int .i64 0) (.bool false) (.slice none 0 0))) := Lib.hid ⟨by rw [(one_bad (hno.out (.inr (.inl trivial)))).1, (one_bad (hno.out (.inr (.inl trivial)))).2], set8_below hBq (Nat.le_refl _)⟩
            obtain ⟨m0, m1, m2, m3, m4, m5, m6, m7⟩ := cells8x hg
            clear hg
            unfold set8 at m0 m1 m2 m3 m4 m5 m6 m7
            go_wp2
            refine bodyPost_ret (v := .tuple #[.agg #[.int .i64 0, .string ⟨#[]⟩, .bool false, .string ⟨#[]⟩, .int .i64 0, .int .i64 0, .bool false, .slice none 0 0], .bool false]) (by simp [results, Tryz.results20, go_sem, m0, m1, m2, m3, m4, m5, m6, m7]) rfl hfin.out
          | false =>
            by_cases he : e = s.size
            · have hok' := Lib.hid (hok.out (by simp [hj, he]))
              subst he
              go_wp2_with fail
              refine HC.out.mono ?_
              rintro e w2 ⟨rfl, hw2⟩
              replace hw2 := hw2.symm
              subst hw2
              go_wp2_with fail
              refine HN.out.mono ?_
              rintro e w3 ⟨rfl, hb3⟩
              have hbb := hb.out.trans (hb3.mono hsB)
              have hRq := (hbb.block w.heap.size (by have := hlt1.out; omega)).trans hc1.out
              have hBq : Below w.heap.size w w3 := hb1.out.trans (hbb.mono hb1.out.size)
              obtain ⟨r0, r1, r2, r3, r4, r5, r6, r7⟩ := cells8x hRq
              have fr := fun j => Lib.frozen_of_heap hRq j
              have hg := set8_at (b0 := .int .i64 k) (b1 := .string s) (b2 := .bool false) (b3 := .string ⟨#[]⟩) (b4 := .int .i64 0) (b5 := .int .i64 0) (b6 := .bool false) (b7 := .slice none 0 0) hRq
              have hfin : Hid ((Ending.returned (.tuple #[.agg #[.int .i64 k, .string s, .bool false, .string ⟨#[]⟩, .int .i64 0, .int .i64 0, .bool false, .slice none 0 0], .bool true]) = .returned (.tuple #[.agg (oneTokR s.data.toList).toArray, .bool (oneR s.data.toList).isSome])) ∧ Below w.heap.size w (set8 w3 w.heap.size (.int .i64 k) (.string s) (.bool false) (.string ⟨#[]⟩) (.int .i64 0) (.int .i64 0) (.bool false) (.slice none 0 0))) := Lib.hid ⟨by exact hok'.out, set8_below hBq (Nat.le_refl _)⟩
              obtain ⟨m0, m1, m2, m3, m4, m5, m6, m7⟩ := cells8x hg
              clear hg
              unfold set8 at m0 m1 m2 m3 m4 m5 m6 m7
              go_wp2
              refine bodyPost_ret (v := .tuple #[.agg #[.int .i64 k, .string s, .bool false, .string ⟨#[]⟩, .int .i64 0, .int .i64 0, .bool false, .slice none 0 0], .bool true]) (by simp [results, Tryz.results20, go_sem, m0, m1, m2, m3, m4, m5, m6, m7]) rfl hfin.out
            · have he' : ((e : Int) == s.size) = false := beq_false_of_ne (by omega)
              have he1 : ((e : Int) != s.size) = true := by rw [bne, he']; rfl
              have he2 : (e == s.size) = false := beq_false_of_ne he
              have he3 : (e != s.size) = true := by rw [bne, he2]; rfl
              have he4 : decide (e = s.size) = false := decide_eq_false he
              have he5 : decide ((e : Int) = s.size) = false := decide_eq_false (by omega)
              have hno' := Lib.hid (hno.out (.inr (.inr he)))
              go_wp2_with fail
              refine HC.out.mono ?_
              rintro e w2 ⟨rfl, hw2⟩
              replace hw2 := hw2.symm
              subst hw2
              go_wp2_with fail
              refine HN.out.mono ?_
              rintro e w3 ⟨rfl, hb3⟩
              have hbb := hb.out.trans (hb3.mono hsB)
              have hRq := (hbb.block w.heap.size (by have := hlt1.out; omega)).trans hc1.out
              have hBq : Below w.heap.size w w3 := hb1.out.trans (hbb.mono hb1.out.size)
              obtain ⟨r0, r1, r2, r3, r4, r5, r6, r7⟩ := cells8x hRq
              have fr := fun j => Lib.frozen_of_heap hRq j
              have hg := set8_at (b0 := .int .i64 0) (b1 := .string ⟨#[]⟩) (b2 := .bool false) (b3 := .string ⟨#[]⟩) (b4 := .int .i64 0) (b5 := .int .i64 0) (b6 := .bool false) (b7 := .slice none 0 0) hRq
              have hfin : Hid ((Ending.returned (.tuple #[.agg #[.int .i64 0, .string ⟨#[]⟩, .bool false, .string ⟨#[]⟩, .int .i64 0, .int .i64 0, .bool false, .slice none 0 0], .bool false]) = .returned (.tuple #[.agg (oneTokR s.data.toList).toArray, .bool (oneR s.data.toList).isSome])) ∧ Below w.heap.size w (set8 w3 w.heap.size (.int .i64 0) (.string ⟨#[]⟩) (.bool false) (.string ⟨#[]⟩) (.int .i64 0) (.int .i64 0) (.bool false) (.slice none 0 0))) := Lib.hid ⟨by rw [(one_bad hno'.out).1, (one_bad hno'.out).2], set8_below hBq (Nat.le_refl _)⟩
              obtain ⟨m0, m1, m2, m3, m4, m5, m6, m7⟩ := cells8x hg
              clear hg
              unfold set8 at m0 m1 m2 m3 m4 m5 m6 m7
              go_wp2
              refine bodyPost_ret (v := .tuple #[.agg #[.int .i64 0, .string ⟨#[]⟩, .bool false, .string ⟨#[]⟩, .int .i64 0, .int .i64 0, .bool false, .slice none 0 0], .bool false]) (by simp [results, Tryz.results20, go_sem, m0, m1, m2, m3, m4, m5, m6, m7]) rfl hfin.out
end Go.Proofs.YtfaoamdlknlgpaaGreat
