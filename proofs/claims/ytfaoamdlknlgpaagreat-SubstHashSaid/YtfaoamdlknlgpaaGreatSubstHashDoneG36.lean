/- Texts of this seat's proofs, laid into one file. -/
import Derived.Test.YtfaoamdlknlgpaaGreatSubstHashDoneG35
import Derived.Test.YtfaoamdlknlgpaaGreatSubstHashDoneG13
import Derived.Deep.Cut
import Derived.Deep.CutRange
import Derived.Deep.CutBlock
import Derived.Test.YtfaoamdlknlgpaaGreatSubstHashDoneG16
import Derived.Test.YtfaoamdlknlgpaaGreatSubstHashDoneG32
/- args: Stringize, by the program and by the document. -/
namespace Go.Proofs.YtfaoamdlknlgpaaGreat
open Go.RowKit
set_option linter.unusedVariables false

def strT (t : Tm) : List UInt8 := if t.kind = 4 ∨ t.kind = 3 then escL t.text.data.toList else t.text.data.toList
def spT (i : Nat) (t : Tm) : List UInt8 := if 0 < i ∧ t.sp = true then [32] else []
/-- what tokens' texts are together, from the place i on -/
def strF : Nat → List Tm → List UInt8
  | _, [] => []
  | i, t :: r => spT i t ++ strT t ++ strF (i + 1) r
def strzL (T : List Tm) : List UInt8 := 34 :: (strF 0 T ++ [34])

theorem strF_app : ∀ (T : List Tm) (i : Nat) (t : Tm), strF i (T ++ [t]) = strF i T ++ (spT (i + T.length) t ++ strT t)
  | [], i, t => by simp [strF]
  | x :: r, i, t => by
    show spT i x ++ strT x ++ strF (i + 1) (r ++ [t]) = spT i x ++ strT x ++ strF (i + 1) r ++ _
    rw [strF_app r (i + 1) t, List.length_cons, show i + (r.length + 1) = i + 1 + r.length by omega]
    simp

theorem strF_take {T : List Tm} {i : Nat} {t : Tm} (h : T[i]? = some t) : strF 0 (T.take (i + 1)) = strF 0 (T.take i) ++ (spT i t ++ strT t) := by
  have hi := (List.getElem?_eq_some_iff.1 h).1
  have : T.take (i + 1) = T.take i ++ [t] := by rw [List.take_add_one, h]; rfl
  rw [this, strF_app, List.length_take, Nat.zero_add, Nat.min_eq_left (Nat.le_of_lt hi)]

theorem strT_len {t : Tm} (ht : t.text.size ≤ 1000) : (strT t).length ≤ 2000 := by
  have h1 := escL_len t.text.data.toList
  have h2 := escN_le t.text.data.toList
  have h3 : t.text.data.toList.length = t.text.size := Array.length_toList
  unfold strT
  split <;> omega
theorem spT_len (i : Nat) (t : Tm) : (spT i t).length ≤ 1 := by unfold spT; split <;> simp
theorem strF_len : ∀ (T : List Tm) (i : Nat), (∀ t ∈ T, t.text.size ≤ 1000) → (strF i T).length ≤ 2001 * T.length
  | [], i, _ => by simp [strF]
  | x :: r, i, h => by
    have h1 := strF_len r (i + 1) (fun t ht => h t (by simp [ht]))
    have h2 := strT_len (h x (by simp))
    have h3 := spT_len i x
    show (spT i x ++ strT x ++ strF (i + 1) r).length ≤ _
    rw [List.length_append, List.length_append, List.length_cons]
    omega

set_option maxRecDepth 100000 in
set_option maxHeartbeats 4000000 in
theorem pStringize_any (T : List (Tm × Value)) (ao : Option Addr) (cap : Nat) (hn : T.length ≤ 1000) (hcap : T.length ≤ cap) (htx : ∀ p ∈ T, p.1.text.size ≤ 1000) (w : World) (hrow : Row w 8 ao (T.map tvC)) (hs : ∀ p ∈ T, SlV p.2) :
    Calls Tryz.prog 16 #[.slice ao T.length cap] w fun e w' => e = .returned (.string ⟨(strzL (T.map (·.1))).toArray⟩) ∧ Below w.heap.size w w' := by
  obtain ⟨n, hnn⟩ : ∃ n, n = T.length := ⟨_, rfl⟩
  have HN : Hid (T.length = n) := Lib.hid hnn.symm
  rw [← hnn] at hn hcap ⊢
  clear hnn
  have htx' : Hid (∀ i, (strF 0 ((T.map (·.1)).take i)).length ≤ 2001 * n) := Lib.hid fun i => by
    have h1 := strF_len ((T.map (·.1)).take i) 0 (fun t ht => by
      obtain ⟨p, hp, rfl⟩ := List.mem_map.1 (List.mem_of_mem_take ht)
      exact htx p hp)
    have h2 : ((T.map (·.1)).take i).length ≤ n := by rw [List.length_take, List.length_map, HN.out]; omega
    omega
  replace htx := Lib.hid htx
  replace hrow := Lib.hid hrow
  replace hs := Lib.hid hs
  obtain ⟨W1, hW1⟩ : ∃ W1, W1 = w.alloc (.cells #[.pointer none, .slice none 0 0] 74) := ⟨_, rfl⟩
  have hbl0 := bld_new w
  rw [← hW1] at hbl0
  have hb0 : Below w.heap.size w W1 := by rw [hW1]; exact (Below.refl _ w).alloc (Nat.le_refl _) _
  have H0 := Lib.hid (bld_byte hbl0 (by simp) hb0.size 34)
  rw [hW1] at H0
  replace hb0 := Lib.hid hb0
  have h34 : ((UInt8.toNat 34 : Nat) : Int) = 34 := rfl
  rw [h34] at H0
  go_enter Tryz.func16, Tryz.ntmps16
  go_wp2_with fail
  refine H0.out.mono ?_
  rintro e w2 ⟨rfl, hbl2, hk2⟩
  have hb2 := Lib.hid (hb0.out.trans (hW1 ▸ hk2.below))
  replace hbl2 := Lib.hid hbl2
  clear H0 hbl0 hk2 hb0
  clear hW1 W1
  go_wp2_with fail
  go_loopg [4, 5, 9] n (fun q v4 v5 v9 wx => ∃ i : Nat, q = n - i ∧ i ≤ n ∧ v9 = .int .i64 i ∧ Hid (Bld wx w.heap.size w.heap.size (34 :: strF 0 ((T.map (·.1)).take i))) ∧ Hid (Below w.heap.size w wx))
  case atStart => exact ⟨0, rfl, Nat.zero_le _, rfl, Lib.hid (by simpa [strF] using hbl2.out), hb2⟩
  case round =>
    clear hbl2 hb2
    obtain ⟨i, hq, hi, rfl, hbl, hb⟩ := hrel
    replace hq := hq.symm
    subst hq
    have hsB := hb.out.size
    have hlen : Hid ((34 :: strF 0 ((T.map (·.1)).take i)).length + 3000 ≤ 1000000000) := Lib.hid (by rw [List.length_cons]; have := htx'.out i; omega)
    by_cases hin : i < n
    · have hin' : (i : Int) < n := by omega
      have f4 : Hid (n - (i + 1) < n - i) := Lib.hid (by omega)
      have g1 : IntKind.i64.wrap ((i : Int) + 1) = (i : Int) + 1 := IntWalk.i64_in _ (by omega)
      obtain ⟨⟨⟨kind, text, sp, file, tf, tt, made⟩, v⟩, hp⟩ : ∃ p, T[i]? = some p := ⟨_, List.getElem?_eq_getElem (by rw [HN.out]; exact hin)⟩
      obtain ⟨rb, o, rfl, hat⟩ := (hrow.out.below hb.out) (by intro h; simp at h; subst h; simp at hp)
      obtain ⟨t0, t1, t2, t3, t4, t5, t6, t7⟩ := tok8 (tok_at hat hp)
      have hts := htx.out _ (List.mem_of_getElem? hp)
      simp only at hts t0 t1 t2 t3 t4 t5 t6 t7
      have hst := strF_take (T := T.map (·.1)) (i := i) (t := ⟨kind, text, sp, file, tf, tt, made⟩) (by rw [List.getElem?_map, hp]; rfl)
      obtain ⟨sa, sn, sc, hv⟩ := hs.out _ (List.mem_of_getElem? hp)
      simp only at hv
      subst hv
      clear hat hp
      have hbA : Hid (Below w.heap.size w (wr.alloc (.cells #[.int .i64 kind, .string text, .bool sp, .string file, .int .i64 tf, .int .i64 tt, .bool made, .slice sa sn sc] 34))) := Lib.hid (hb.out.alloc hsB _)
      have hblA : Hid (Bld (wr.alloc (.cells #[.int .i64 kind, .string text, .bool sp, .string file, .int .i64 tf, .int .i64 tt, .bool made, .slice sa sn sc] 34)) w.heap.size w.heap.size (34 :: strF 0 ((T.map (·.1)).take i))) := Lib.hid (hbl.out.alloc _)
      have hcA : Hid ((wr.alloc (.cells #[.int .i64 kind, .string text, .bool sp, .string file, .int .i64 tf, .int .i64 tt, .bool made, .slice sa sn sc] 34)).heap[wr.heap.size]? = some (.cells #[.int .i64 kind, .string text, .bool sp, .string file, .int .i64 tf, .int .i64 tt, .bool made, .slice sa sn sc] 34 (0, 0))) := Lib.hid (heap_alloc_new wr (.cells #[.int .i64 kind, .string text, .bool sp, .string file, .int .i64 tf, .int .i64 tt, .bool made, .slice sa sn sc] 34))
      have hgb : wr.heap.size ≠ w.heap.size := by
        have : w.heap.size < wr.heap.size := by
          rcases hbl.out with ⟨_, vv, h1, _⟩ | ⟨_, vv, h1, _⟩ <;> exact lt_of_block h1
        omega
      have HE := Lib.hid (fun W => escaped_any text (by omega) W)
      have hel : (escL text.data.toList).length ≤ 2000 := strT_len (t := ⟨4, text, sp, file, tf, tt, made⟩) hts
      replace hel := Lib.hid hel
      clear hbl hb
      by_cases hi0 : i = 0
      · have q0 : decide ((0 : Int) < (i : Int)) = false := decide_eq_false (by omega)
        have q0' : decide (0 < i) = false := decide_eq_false (by omega)
        have hi0n : Hid (¬ 0 < i) := Lib.hid (by omega)
        replace hi0 := Lib.hid hi0
        by_cases h4 : kind = 4
        · subst h4
          have hst' : Hid (strF 0 ((T.map (·.1)).take (i + 1)) = strF 0 ((T.map (·.1)).take i) ++ ([] ++ (escL text.data.toList))) := Lib.hid (by
            refine hst.trans (congrArg _ (congr (congrArg _ (show spT i _ = [] from if_neg (fun h => hi0n.out h.1))) (show strT _ = (escL text.data.toList) from if_pos (by simp)))))
          clear hst
          go_wp2_with fail
          refine (HE.out _).mono ?_
          rintro e w4 ⟨rfl, b4⟩
          have hb4 := Lib.hid (hbA.out.trans (b4.mono hbA.out.size))
          have HW := Lib.hid (bld_str (hblA.out.below b4) (by have := hlen.out; simp at this ⊢; omega) ⟨(escL text.data.toList).toArray⟩ (by have := hel.out; show (escL text.data.toList).toArray.size ≤ _; rw [List.size_toArray]; omega) hb4.out.size)
          clear b4
          go_wp2_with fail
          refine HW.out.mono ?_
          rintro e w5 ⟨rfl, hbl5, hk5⟩
          have hb5 := Lib.hid (hb4.out.trans hk5.below)
          replace hbl5 := Lib.hid hbl5
          clear hk5 HW
          go_wp2_with fail
          go_roundg (n - (i + 1))
          case measure => exact f4.out
          case rel => exact ⟨i + 1, rfl, by omega, by simp, Lib.hid (by rw [hst'.out]; simpa using hbl5.out), hb5⟩
        by_cases h3 : kind = 3
        · subst h3
          have hst' : Hid (strF 0 ((T.map (·.1)).take (i + 1)) = strF 0 ((T.map (·.1)).take i) ++ ([] ++ (escL text.data.toList))) := Lib.hid (by
            refine hst.trans (congrArg _ (congr (congrArg _ (show spT i _ = [] from if_neg (fun h => hi0n.out h.1))) (show strT _ = (escL text.data.toList) from if_pos (by simp)))))
          clear hst
          go_wp2_with fail
          refine (HE.out _).mono ?_
          rintro e w4 ⟨rfl, b4⟩
          have hb4 := Lib.hid (hbA.out.trans (b4.mono hbA.out.size))
          have HW := Lib.hid (bld_str (hblA.out.below b4) (by have := hlen.out; simp at this ⊢; omega) ⟨(escL text.data.toList).toArray⟩ (by have := hel.out; show (escL text.data.toList).toArray.size ≤ _; rw [List.size_toArray]; omega) hb4.out.size)
          clear b4
          go_wp2_with fail
          refine HW.out.mono ?_
          rintro e w5 ⟨rfl, hbl5, hk5⟩
          have hb5 := Lib.hid (hb4.out.trans hk5.below)
          replace hbl5 := Lib.hid hbl5
          clear hk5 HW
          go_wp2_with fail
          go_roundg (n - (i + 1))
          case measure => exact f4.out
          case rel => exact ⟨i + 1, rfl, by omega, by simp, Lib.hid (by rw [hst'.out]; simpa using hbl5.out), hb5⟩
        have h4b : (kind == 4) = false := beq_false_of_ne h4
        have h3b : (kind == 3) = false := beq_false_of_ne h3
        have hst' : Hid (strF 0 ((T.map (·.1)).take (i + 1)) = strF 0 ((T.map (·.1)).take i) ++ ([] ++ text.data.toList)) := Lib.hid (by
          refine hst.trans (congrArg _ (congr (congrArg _ (show spT i _ = [] from if_neg (fun h => hi0n.out h.1))) (show strT _ = text.data.toList from if_neg (by simp only; omega)))))
        clear hst
        have HW := Lib.hid (bld_str hblA.out (by have := hlen.out; simp at this ⊢; omega) text (by omega) hbA.out.size)
        go_wp2_with fail
        refine HW.out.mono ?_
        rintro e w5 ⟨rfl, hbl5, hk5⟩
        have hb5 := Lib.hid (hbA.out.trans hk5.below)
        replace hbl5 := Lib.hid hbl5
        clear hk5 HW
        go_wp2_with fail
        go_roundg (n - (i + 1))
        case measure => exact f4.out
        case rel => exact ⟨i + 1, rfl, by omega, by simp, Lib.hid (by rw [hst'.out]; simpa using hbl5.out), hb5⟩
      · have q0 : (0 : Int) < (i : Int) := by omega
        have q0i : Hid (0 < i) := Lib.hid (by omega)
        cases sp with
        | false =>
          by_cases h4 : kind = 4
          · subst h4
            have hst' : Hid (strF 0 ((T.map (·.1)).take (i + 1)) = strF 0 ((T.map (·.1)).take i) ++ ([] ++ (escL text.data.toList))) := Lib.hid (by
              refine hst.trans (congrArg _ (congr (congrArg _ (show spT i _ = [] from if_neg (by simp))) (show strT _ = (escL text.data.toList) from if_pos (by simp)))))
            clear hst
            go_wp2_with fail
            refine (HE.out _).mono ?_
            rintro e w4 ⟨rfl, b4⟩
            have hb4 := Lib.hid (hbA.out.trans (b4.mono hbA.out.size))
            have HW := Lib.hid (bld_str (hblA.out.below b4) (by have := hlen.out; simp at this ⊢; omega) ⟨(escL text.data.toList).toArray⟩ (by have := hel.out; show (escL text.data.toList).toArray.size ≤ _; rw [List.size_toArray]; omega) hb4.out.size)
            clear b4
            go_wp2_with fail
            refine HW.out.mono ?_
            rintro e w5 ⟨rfl, hbl5, hk5⟩
            have hb5 := Lib.hid (hb4.out.trans hk5.below)
            replace hbl5 := Lib.hid hbl5
            clear hk5 HW
            go_wp2_with fail
            go_roundg (n - (i + 1))
            case measure => exact f4.out
            case rel => exact ⟨i + 1, rfl, by omega, by simp, Lib.hid (by rw [hst'.out]; simpa using hbl5.out), hb5⟩
          by_cases h3 : kind = 3
          · subst h3
            have hst' : Hid (strF 0 ((T.map (·.1)).take (i + 1)) = strF 0 ((T.map (·.1)).take i) ++ ([] ++ (escL text.data.toList))) := Lib.hid (by
              refine hst.trans (congrArg _ (congr (congrArg _ (show spT i _ = [] from if_neg (by simp))) (show strT _ = (escL text.data.toList) from if_pos (by simp)))))
            clear hst
            go_wp2_with fail
            refine (HE.out _).mono ?_
            rintro e w4 ⟨rfl, b4⟩
            have hb4 := Lib.hid (hbA.out.trans (b4.mono hbA.out.size))
            have HW := Lib.hid (bld_str (hblA.out.below b4) (by have := hlen.out; simp at this ⊢; omega) ⟨(escL text.data.toList).toArray⟩ (by have := hel.out; show (escL text.data.toList).toArray.size ≤ _; rw [List.size_toArray]; omega) hb4.out.size)
            clear b4
            go_wp2_with fail
            refine HW.out.mono ?_
            rintro e w5 ⟨rfl, hbl5, hk5⟩
            have hb5 := Lib.hid (hb4.out.trans hk5.below)
            replace hbl5 := Lib.hid hbl5
            clear hk5 HW
            go_wp2_with fail
            go_roundg (n - (i + 1))
            case measure => exact f4.out
            case rel => exact ⟨i + 1, rfl, by omega, by simp, Lib.hid (by rw [hst'.out]; simpa using hbl5.out), hb5⟩
          have h4b : (kind == 4) = false := beq_false_of_ne h4
          have h3b : (kind == 3) = false := beq_false_of_ne h3
          have hst' : Hid (strF 0 ((T.map (·.1)).take (i + 1)) = strF 0 ((T.map (·.1)).take i) ++ ([] ++ text.data.toList)) := Lib.hid (by
            refine hst.trans (congrArg _ (congr (congrArg _ (show spT i _ = [] from if_neg (by simp))) (show strT _ = text.data.toList from if_neg (by simp only; omega)))))
          clear hst
          have HW := Lib.hid (bld_str hblA.out (by have := hlen.out; simp at this ⊢; omega) text (by omega) hbA.out.size)
          go_wp2_with fail
          refine HW.out.mono ?_
          rintro e w5 ⟨rfl, hbl5, hk5⟩
          have hb5 := Lib.hid (hbA.out.trans hk5.below)
          replace hbl5 := Lib.hid hbl5
          clear hk5 HW
          go_wp2_with fail
          go_roundg (n - (i + 1))
          case measure => exact f4.out
          case rel => exact ⟨i + 1, rfl, by omega, by simp, Lib.hid (by rw [hst'.out]; simpa using hbl5.out), hb5⟩
        | true =>
          by_cases h4 : kind = 4
          · subst h4
            have hst' : Hid (strF 0 ((T.map (·.1)).take (i + 1)) = strF 0 ((T.map (·.1)).take i) ++ ([32] ++ (escL text.data.toList))) := Lib.hid (by
              refine hst.trans (congrArg _ (congr (congrArg _ (show spT i _ = [32] from if_pos ⟨q0i.out, rfl⟩)) (show strT _ = (escL text.data.toList) from if_pos (by simp)))))
            clear hst
            have HS := bld_byte hblA.out (by have := hlen.out; omega) (by simp; omega) 32
            have h32 : ((UInt8.toNat 32 : Nat) : Int) = 32 := rfl
            rw [h32] at HS
            replace HS := Lib.hid HS
            go_wp2_with fail
            refine HS.out.mono ?_
            rintro e w3 ⟨rfl, hbl3, hk3⟩
            have hb3 := Lib.hid (hbA.out.trans hk3.below)
            have d0 := hk3.cell (Lib.cell_of_heap hcA.out 0) hgb (by intro c fz e; rw [hcA.out] at e; cases e)
            have d1 := hk3.cell (Lib.cell_of_heap hcA.out 1) hgb (by intro c fz e; rw [hcA.out] at e; cases e)
            replace hbl3 := Lib.hid hbl3
            clear hk3 HS
            go_wp2_with fail
            refine (HE.out _).mono ?_
            rintro e w4 ⟨rfl, b4⟩
            have hb4 := Lib.hid (hb3.out.trans (b4.mono hb3.out.size))
            have HW := Lib.hid (bld_str (hbl3.out.below b4) (by have := hlen.out; simp at this ⊢; omega) ⟨(escL text.data.toList).toArray⟩ (by have := hel.out; show (escL text.data.toList).toArray.size ≤ _; rw [List.size_toArray]; omega) hb4.out.size)
            clear b4
            go_wp2_with fail
            refine HW.out.mono ?_
            rintro e w5 ⟨rfl, hbl5, hk5⟩
            have hb5 := Lib.hid (hb4.out.trans hk5.below)
            replace hbl5 := Lib.hid hbl5
            clear hk5 HW
            go_wp2_with fail
            go_roundg (n - (i + 1))
            case measure => exact f4.out
            case rel => exact ⟨i + 1, rfl, by omega, by simp, Lib.hid (by rw [hst'.out]; simpa using hbl5.out), hb5⟩
          by_cases h3 : kind = 3
          · subst h3
            have hst' : Hid (strF 0 ((T.map (·.1)).take (i + 1)) = strF 0 ((T.map (·.1)).take i) ++ ([32] ++ (escL text.data.toList))) := Lib.hid (by
              refine hst.trans (congrArg _ (congr (congrArg _ (show spT i _ = [32] from if_pos ⟨q0i.out, rfl⟩)) (show strT _ = (escL text.data.toList) from if_pos (by simp)))))
            clear hst
            have HS := bld_byte hblA.out (by have := hlen.out; omega) (by simp; omega) 32
            have h32 : ((UInt8.toNat 32 : Nat) : Int) = 32 := rfl
            rw [h32] at HS
            replace HS := Lib.hid HS
            go_wp2_with fail
            refine HS.out.mono ?_
            rintro e w3 ⟨rfl, hbl3, hk3⟩
            have hb3 := Lib.hid (hbA.out.trans hk3.below)
            have d0 := hk3.cell (Lib.cell_of_heap hcA.out 0) hgb (by intro c fz e; rw [hcA.out] at e; cases e)
            have d1 := hk3.cell (Lib.cell_of_heap hcA.out 1) hgb (by intro c fz e; rw [hcA.out] at e; cases e)
            replace hbl3 := Lib.hid hbl3
            clear hk3 HS
            go_wp2_with fail
            refine (HE.out _).mono ?_
            rintro e w4 ⟨rfl, b4⟩
            have hb4 := Lib.hid (hb3.out.trans (b4.mono hb3.out.size))
            have HW := Lib.hid (bld_str (hbl3.out.below b4) (by have := hlen.out; simp at this ⊢; omega) ⟨(escL text.data.toList).toArray⟩ (by have := hel.out; show (escL text.data.toList).toArray.size ≤ _; rw [List.size_toArray]; omega) hb4.out.size)
            clear b4
            go_wp2_with fail
            refine HW.out.mono ?_
            rintro e w5 ⟨rfl, hbl5, hk5⟩
            have hb5 := Lib.hid (hb4.out.trans hk5.below)
            replace hbl5 := Lib.hid hbl5
            clear hk5 HW
            go_wp2_with fail
            go_roundg (n - (i + 1))
            case measure => exact f4.out
            case rel => exact ⟨i + 1, rfl, by omega, by simp, Lib.hid (by rw [hst'.out]; simpa using hbl5.out), hb5⟩
          have h4b : (kind == 4) = false := beq_false_of_ne h4
          have h3b : (kind == 3) = false := beq_false_of_ne h3
          have hst' : Hid (strF 0 ((T.map (·.1)).take (i + 1)) = strF 0 ((T.map (·.1)).take i) ++ ([32] ++ text.data.toList)) := Lib.hid (by
            refine hst.trans (congrArg _ (congr (congrArg _ (show spT i _ = [32] from if_pos ⟨q0i.out, rfl⟩)) (show strT _ = text.data.toList from if_neg (by simp only; omega)))))
          clear hst
          have HS := bld_byte hblA.out (by have := hlen.out; omega) (by simp; omega) 32
          have h32 : ((UInt8.toNat 32 : Nat) : Int) = 32 := rfl
          rw [h32] at HS
          replace HS := Lib.hid HS
          go_wp2_with fail
          refine HS.out.mono ?_
          rintro e w3 ⟨rfl, hbl3, hk3⟩
          have hb3 := Lib.hid (hbA.out.trans hk3.below)
          have d0 := hk3.cell (Lib.cell_of_heap hcA.out 0) hgb (by intro c fz e; rw [hcA.out] at e; cases e)
          have d1 := hk3.cell (Lib.cell_of_heap hcA.out 1) hgb (by intro c fz e; rw [hcA.out] at e; cases e)
          replace hbl3 := Lib.hid hbl3
          clear hk3 HS
          have HW := Lib.hid (bld_str hbl3.out (by have := hlen.out; simp at this ⊢; omega) text (by omega) hb3.out.size)
          go_wp2_with fail
          refine HW.out.mono ?_
          rintro e w5 ⟨rfl, hbl5, hk5⟩
          have hb5 := Lib.hid (hb3.out.trans hk5.below)
          replace hbl5 := Lib.hid hbl5
          clear hk5 HW
          go_wp2_with fail
          go_roundg (n - (i + 1))
          case measure => exact f4.out
          case rel => exact ⟨i + 1, rfl, by omega, by simp, Lib.hid (by rw [hst'.out]; simpa using hbl5.out), hb5⟩
    · obtain rfl : i = n := by omega
      have hin' : ¬ (i : Int) < (i : Int) := by omega
      have HF := bld_byte hbl.out (by have := hlen.out; omega) hsB 34
      rw [h34] at HF
      replace HF := Lib.hid HF
      have ht : (T.map (·.1)).take i = T.map (·.1) := List.take_of_length_le (by rw [List.length_map, HN.out]; exact Nat.le_refl _)
      rw [ht] at HF hlen
      replace ht := Lib.hid ht
      go_wp2_with fail
      refine HF.out.mono ?_
      rintro e w3 ⟨rfl, hbl3, hk3⟩
      have hb3 := Lib.hid (hb.out.trans hk3.below)
      have HD := Lib.hid (bld_done hbl3 hb3.out.size)
      clear hbl3 hk3
      go_wp2_with fail
      refine HD.out.mono ?_
      rintro e w4 ⟨rfl, _, hk4⟩
      have hb4 := Lib.hid (hb3.out.trans hk4.below)
      clear hk4
      go_wp2
      go_ret
      exact ⟨rfl, hb4.out⟩
end Go.Proofs.YtfaoamdlknlgpaaGreat

/- args: the document's Stringize. -/
namespace Go.Proofs.YtfaoamdlknlgpaaGreat
open Go.RowKit
set_option linter.unusedVariables false

theorem ext_list (s : ByteArray) (a k : Nat) : (s.extract a (a + k)).data.toList = (s.data.toList.drop a).take k := by
  rw [ByteArray.data_extract, Array.toList_extract, List.extract_eq_take_drop]
  congr 1
  omega

theorem quote_inner (Q : ByteArray) (l : List UInt8) (h : Q.data.toList = 34 :: (l ++ [34])) : (Q.extract 1 (Q.size - 1)).data.toList = l ∧ Q.size = l.length + 2 := by
  have hs : Q.size = l.length + 2 := by
    have : Q.data.toList.length = Q.size := Array.length_toList
    rw [← this, h]; simp
  refine ⟨?_, hs⟩
  rw [show Q.size - 1 = 1 + l.length by omega, ext_list, h]
  simp

theorem cat_list (a b : ByteArray) : (a ++ b).data.toList = a.data.toList ++ b.data.toList := by simp

theorem sz_list (a : ByteArray) : a.data.toList.length = a.size := Array.length_toList

set_option maxRecDepth 100000 in
set_option maxHeartbeats 4000000 in
theorem rStringize_any (T : List (Tm × Value)) (ao : Option Addr) (cap : Nat) (hn : T.length ≤ 1000) (hcap : T.length ≤ cap) (htx : ∀ p ∈ T, p.1.text.size ≤ 1000) (w : World) (hrow : Row w 8 ao (T.map tvC)) (hs : ∀ p ∈ T, SlV p.2) :
    Calls Tryz.prog 17 #[.slice ao T.length cap] w fun e w' => e = .returned (.string ⟨(strzL (T.map (·.1))).toArray⟩) ∧ Below w.heap.size w w' := by
  obtain ⟨n, hnn⟩ : ∃ n, n = T.length := ⟨_, rfl⟩
  have HN : Hid (T.length = n) := Lib.hid hnn.symm
  rw [← hnn] at hn hcap ⊢
  clear hnn
  have htx' : Hid (∀ i, (strF 0 ((T.map (·.1)).take i)).length ≤ 2001 * n) := Lib.hid fun i => by
    have h1 := strF_len ((T.map (·.1)).take i) 0 (fun t ht => by
      obtain ⟨p, hp, rfl⟩ := List.mem_map.1 (List.mem_of_mem_take ht)
      exact htx p hp)
    have h2 : ((T.map (·.1)).take i).length ≤ n := by rw [List.length_take, List.length_map, HN.out]; omega
    omega
  replace htx := Lib.hid htx
  replace hrow := Lib.hid hrow
  replace hs := Lib.hid hs
  go_enter Tryz.func17, Tryz.ntmps17
  go_wp2_with fail
  go_loopg [3, 4, 5] n (fun q v3 v4 v5 wx => ∃ (i : Nat) (S : ByteArray), q = n - i ∧ i ≤ n ∧ v4 = .int .i64 i ∧ v3 = .string S ∧ Hid (S.data.toList = strF 0 ((T.map (·.1)).take i)) ∧ Hid (Below w.heap.size w wx))
  case atStart => exact ⟨0, ⟨#[]⟩, rfl, Nat.zero_le _, rfl, rfl, Lib.hid rfl, Lib.hid (Below.refl _ _)⟩
  case round =>
    obtain ⟨i, S, hq, hi, rfl, rfl, hS, hb⟩ := hrel
    replace hq := hq.symm
    subst hq
    have hsB := hb.out.size
    have hSz : S.size ≤ 2001000 := by rw [← sz_list, hS.out]; have := htx'.out i; omega
    by_cases hin : i < n
    · have hin' : (i : Int) < n := by omega
      have f4 : Hid (n - (i + 1) < n - i) := Lib.hid (by omega)
      have g1 : IntKind.i64.wrap ((i : Int) + 1) = (i : Int) + 1 := IntWalk.i64_in _ (by omega)
      obtain ⟨⟨⟨kind, text, sp, file, tf, tt, made⟩, v⟩, hp⟩ : ∃ p, T[i]? = some p := ⟨_, List.getElem?_eq_getElem (by rw [HN.out]; exact hin)⟩
      obtain ⟨rb, o, rfl, hat⟩ := (hrow.out.below hb.out) (by intro h; simp at h; subst h; simp at hp)
      obtain ⟨t0, t1, t2, t3, t4, t5, t6, t7⟩ := tok8 (tok_at hat hp)
      have hts := htx.out _ (List.mem_of_getElem? hp)
      simp only at hts t0 t1 t2 t3 t4 t5 t6 t7
      have hst := strF_take (T := T.map (·.1)) (i := i) (t := ⟨kind, text, sp, file, tf, tt, made⟩) (by rw [List.getElem?_map, hp]; rfl)
      clear hat hp t3 t4 t5 t6 t7
      have HE := Lib.hid (rQuoted_any text (by omega) wr)
      obtain ⟨Q, hQ⟩ : ∃ Q : ByteArray, Q = ⟨(quoteL text.data.toList).toArray⟩ := ⟨_, rfl⟩
      rw [← hQ] at HE
      obtain ⟨hq1, hq2⟩ := quote_inner Q (escL text.data.toList) (by rw [hQ]; rfl)
      have hel := strT_len (t := ⟨4, text, sp, file, tf, tt, made⟩) hts
      replace hel : (escL text.data.toList).length ≤ 2000 := hel
      have hQs : 2 ≤ Q.size ∧ Q.size ≤ 2002 := by omega
      replace hq1 := Lib.hid hq1
      clear hq2 hQ hel
      obtain ⟨hQ2, hQ3⟩ := hQs
      have g3 : IntKind.i64.wrap ((Q.size : Int) - 1) = (Q.size : Int) - 1 := IntWalk.i64_in _ (by omega)
      have g4 : (1 : Int) ≤ (Q.size : Int) - 1 := by omega
      have g5 : (Q.size : Int) - 1 ≤ (Q.size : Int) := by omega
      have g6 : ((Q.size : Int) - 1).toNat = Q.size - 1 := by omega
      have g7 : (Q.extract 1 (Q.size - 1)).size ≤ 2002 := by rw [← sz_list, hq1.out]; have := strT_len (t := ⟨4, text, sp, file, tf, tt, made⟩) hts; replace this : (escL text.data.toList).length ≤ 2000 := this; omega
      by_cases hi0 : i = 0
      · have q0 : decide ((0 : Int) < (i : Int)) = false := decide_eq_false (by omega)
        have q0' : decide (0 < i) = false := decide_eq_false (by omega)
        have hi0n : Hid (¬ 0 < i) := Lib.hid (by omega)
        replace hi0 := Lib.hid hi0
        by_cases h4 : kind = 4
        · subst h4
          have hst' : Hid (strF 0 ((T.map (·.1)).take (i + 1)) = strF 0 ((T.map (·.1)).take i) ++ ([] ++ (escL text.data.toList))) := Lib.hid (by
            refine hst.trans (congrArg _ (congr (congrArg _ (show spT i _ = [] from if_neg (fun h => hi0n.out h.1))) (show strT _ = (escL text.data.toList) from if_pos (by simp)))))
          clear hst
          have z2 : ¬ 9223372036854775807 < S.size + (Q.extract 1 (Q.size - 1)).size := by omega
          have z3 : ¬ 9223372036854775807 < S.size + (Q.extract 1 (Q.size - 1)).size := by omega
          go_wp2_with fail
          refine HE.out.mono ?_
          rintro e w4 ⟨rfl, b4⟩
          have hb4 := Lib.hid (hb.out.trans (b4.mono hsB))
          clear b4 HE
          go_wp2_with fail
          go_roundg (n - (i + 1))
          case measure => exact f4.out
          case rel => exact ⟨i + 1, S ++ (Q.extract 1 (Q.size - 1)), rfl, by omega, by simp, rfl, Lib.hid (by rw [hst'.out, cat_list, hS.out, hq1.out]; simp), hb4⟩
        by_cases h3 : kind = 3
        · subst h3
          have hst' : Hid (strF 0 ((T.map (·.1)).take (i + 1)) = strF 0 ((T.map (·.1)).take i) ++ ([] ++ (escL text.data.toList))) := Lib.hid (by
            refine hst.trans (congrArg _ (congr (congrArg _ (show spT i _ = [] from if_neg (fun h => hi0n.out h.1))) (show strT _ = (escL text.data.toList) from if_pos (by simp)))))
          clear hst
          have z2 : ¬ 9223372036854775807 < S.size + (Q.extract 1 (Q.size - 1)).size := by omega
          have z3 : ¬ 9223372036854775807 < S.size + (Q.extract 1 (Q.size - 1)).size := by omega
          go_wp2_with fail
          refine HE.out.mono ?_
          rintro e w4 ⟨rfl, b4⟩
          have hb4 := Lib.hid (hb.out.trans (b4.mono hsB))
          clear b4 HE
          go_wp2_with fail
          go_roundg (n - (i + 1))
          case measure => exact f4.out
          case rel => exact ⟨i + 1, S ++ (Q.extract 1 (Q.size - 1)), rfl, by omega, by simp, rfl, Lib.hid (by rw [hst'.out, cat_list, hS.out, hq1.out]; simp), hb4⟩
        have h4b : (kind == 4) = false := beq_false_of_ne h4
        have h3b : (kind == 3) = false := beq_false_of_ne h3
        have hst' : Hid (strF 0 ((T.map (·.1)).take (i + 1)) = strF 0 ((T.map (·.1)).take i) ++ ([] ++ text.data.toList)) := Lib.hid (by
          refine hst.trans (congrArg _ (congr (congrArg _ (show spT i _ = [] from if_neg (fun h => hi0n.out h.1))) (show strT _ = text.data.toList from if_neg (by simp only; omega)))))
        clear hst
        have z2 : ¬ 9223372036854775807 < S.size + text.size := by omega
        have z3 : ¬ 9223372036854775807 < S.size + text.size := by omega
        go_wp2_with fail
        go_roundg (n - (i + 1))
        case measure => exact f4.out
        case rel => exact ⟨i + 1, S ++ text, rfl, by omega, by simp, rfl, Lib.hid (by rw [hst'.out, cat_list, hS.out]; simp), hb⟩
      · have q0 : (0 : Int) < (i : Int) := by omega
        have q0i : Hid (0 < i) := Lib.hid (by omega)
        cases sp with
        | false =>
          by_cases h4 : kind = 4
          · subst h4
            have hst' : Hid (strF 0 ((T.map (·.1)).take (i + 1)) = strF 0 ((T.map (·.1)).take i) ++ ([] ++ (escL text.data.toList))) := Lib.hid (by
              refine hst.trans (congrArg _ (congr (congrArg _ (show spT i _ = [] from if_neg (by simp))) (show strT _ = (escL text.data.toList) from if_pos (by simp)))))
            clear hst
            have z2 : ¬ 9223372036854775807 < S.size + (Q.extract 1 (Q.size - 1)).size := by omega
            have z3 : ¬ 9223372036854775807 < S.size + (Q.extract 1 (Q.size - 1)).size := by omega
            go_wp2_with fail
            refine HE.out.mono ?_
            rintro e w4 ⟨rfl, b4⟩
            have hb4 := Lib.hid (hb.out.trans (b4.mono hsB))
            clear b4 HE
            go_wp2_with fail
            go_roundg (n - (i + 1))
            case measure => exact f4.out
            case rel => exact ⟨i + 1, S ++ (Q.extract 1 (Q.size - 1)), rfl, by omega, by simp, rfl, Lib.hid (by rw [hst'.out, cat_list, hS.out, hq1.out]; simp), hb4⟩
          by_cases h3 : kind = 3
          · subst h3
            have hst' : Hid (strF 0 ((T.map (·.1)).take (i + 1)) = strF 0 ((T.map (·.1)).take i) ++ ([] ++ (escL text.data.toList))) := Lib.hid (by
              refine hst.trans (congrArg _ (congr (congrArg _ (show spT i _ = [] from if_neg (by simp))) (show strT _ = (escL text.data.toList) from if_pos (by simp)))))
            clear hst
            have z2 : ¬ 9223372036854775807 < S.size + (Q.extract 1 (Q.size - 1)).size := by omega
            have z3 : ¬ 9223372036854775807 < S.size + (Q.extract 1 (Q.size - 1)).size := by omega
            go_wp2_with fail
            refine HE.out.mono ?_
            rintro e w4 ⟨rfl, b4⟩
            have hb4 := Lib.hid (hb.out.trans (b4.mono hsB))
            clear b4 HE
            go_wp2_with fail
            go_roundg (n - (i + 1))
            case measure => exact f4.out
            case rel => exact ⟨i + 1, S ++ (Q.extract 1 (Q.size - 1)), rfl, by omega, by simp, rfl, Lib.hid (by rw [hst'.out, cat_list, hS.out, hq1.out]; simp), hb4⟩
          have h4b : (kind == 4) = false := beq_false_of_ne h4
          have h3b : (kind == 3) = false := beq_false_of_ne h3
          have hst' : Hid (strF 0 ((T.map (·.1)).take (i + 1)) = strF 0 ((T.map (·.1)).take i) ++ ([] ++ text.data.toList)) := Lib.hid (by
            refine hst.trans (congrArg _ (congr (congrArg _ (show spT i _ = [] from if_neg (by simp))) (show strT _ = text.data.toList from if_neg (by simp only; omega)))))
          clear hst
          have z2 : ¬ 9223372036854775807 < S.size + text.size := by omega
          have z3 : ¬ 9223372036854775807 < S.size + text.size := by omega
          go_wp2_with fail
          go_roundg (n - (i + 1))
          case measure => exact f4.out
          case rel => exact ⟨i + 1, S ++ text, rfl, by omega, by simp, rfl, Lib.hid (by rw [hst'.out, cat_list, hS.out]; simp), hb⟩
        | true =>
          by_cases h4 : kind = 4
          · subst h4
            have hst' : Hid (strF 0 ((T.map (·.1)).take (i + 1)) = strF 0 ((T.map (·.1)).take i) ++ ([32] ++ (escL text.data.toList))) := Lib.hid (by
              refine hst.trans (congrArg _ (congr (congrArg _ (show spT i _ = [32] from if_pos ⟨q0i.out, rfl⟩)) (show strT _ = (escL text.data.toList) from if_pos (by simp)))))
            clear hst
            have z1 : ¬ 9223372036854775807 < S.size + 1 := by omega
            have z2 : ¬ 9223372036854775807 < (S ++ (⟨#[32]⟩ : ByteArray)).size + (Q.extract 1 (Q.size - 1)).size := by rw [ByteArray.size_append]; show ¬ 9223372036854775807 < S.size + 1 + _; omega
            have z3 : ¬ 9223372036854775807 < (S.size + 1) + (Q.extract 1 (Q.size - 1)).size := by omega
            go_wp2_with fail
            refine HE.out.mono ?_
            rintro e w4 ⟨rfl, b4⟩
            have hb4 := Lib.hid (hb.out.trans (b4.mono hsB))
            clear b4 HE
            go_wp2_with fail
            go_roundg (n - (i + 1))
            case measure => exact f4.out
            case rel => exact ⟨i + 1, (S ++ (⟨#[32]⟩ : ByteArray)) ++ (Q.extract 1 (Q.size - 1)), rfl, by omega, by simp, rfl, Lib.hid (by rw [hst'.out, cat_list, cat_list, hS.out, hq1.out]; simp), hb4⟩
          by_cases h3 : kind = 3
          · subst h3
            have hst' : Hid (strF 0 ((T.map (·.1)).take (i + 1)) = strF 0 ((T.map (·.1)).take i) ++ ([32] ++ (escL text.data.toList))) := Lib.hid (by
              refine hst.trans (congrArg _ (congr (congrArg _ (show spT i _ = [32] from if_pos ⟨q0i.out, rfl⟩)) (show strT _ = (escL text.data.toList) from if_pos (by simp)))))
            clear hst
            have z1 : ¬ 9223372036854775807 < S.size + 1 := by omega
            have z2 : ¬ 9223372036854775807 < (S ++ (⟨#[32]⟩ : ByteArray)).size + (Q.extract 1 (Q.size - 1)).size := by rw [ByteArray.size_append]; show ¬ 9223372036854775807 < S.size + 1 + _; omega
            have z3 : ¬ 9223372036854775807 < (S.size + 1) + (Q.extract 1 (Q.size - 1)).size := by omega
            go_wp2_with fail
            refine HE.out.mono ?_
            rintro e w4 ⟨rfl, b4⟩
            have hb4 := Lib.hid (hb.out.trans (b4.mono hsB))
            clear b4 HE
            go_wp2_with fail
            go_roundg (n - (i + 1))
            case measure => exact f4.out
            case rel => exact ⟨i + 1, (S ++ (⟨#[32]⟩ : ByteArray)) ++ (Q.extract 1 (Q.size - 1)), rfl, by omega, by simp, rfl, Lib.hid (by rw [hst'.out, cat_list, cat_list, hS.out, hq1.out]; simp), hb4⟩
          have h4b : (kind == 4) = false := beq_false_of_ne h4
          have h3b : (kind == 3) = false := beq_false_of_ne h3
          have hst' : Hid (strF 0 ((T.map (·.1)).take (i + 1)) = strF 0 ((T.map (·.1)).take i) ++ ([32] ++ text.data.toList)) := Lib.hid (by
            refine hst.trans (congrArg _ (congr (congrArg _ (show spT i _ = [32] from if_pos ⟨q0i.out, rfl⟩)) (show strT _ = text.data.toList from if_neg (by simp only; omega)))))
          clear hst
          have z1 : ¬ 9223372036854775807 < S.size + 1 := by omega
          have z2 : ¬ 9223372036854775807 < (S ++ (⟨#[32]⟩ : ByteArray)).size + text.size := by rw [ByteArray.size_append]; show ¬ 9223372036854775807 < S.size + 1 + _; omega
          have z3 : ¬ 9223372036854775807 < (S.size + 1) + text.size := by omega
          go_wp2_with fail
          go_roundg (n - (i + 1))
          case measure => exact f4.out
          case rel => exact ⟨i + 1, (S ++ (⟨#[32]⟩ : ByteArray)) ++ text, rfl, by omega, by simp, rfl, Lib.hid (by rw [hst'.out, cat_list, cat_list, hS.out]; simp), hb⟩
    · obtain rfl : i = n := by omega
      have hin' : ¬ (i : Int) < (i : Int) := by omega
      have ht : (T.map (·.1)).take i = T.map (·.1) := List.take_of_length_le (by rw [List.length_map, HN.out]; exact Nat.le_refl _)
      rw [ht] at hS
      have z2 : ¬ 9223372036854775807 < 1 + S.size := by omega
      have z3 : ¬ 9223372036854775807 < 1 + S.size + 1 := by omega
      have hfin : Hid ((⟨#[34]⟩ : ByteArray) ++ S ++ (⟨#[34]⟩ : ByteArray) = ⟨(strzL (T.map (·.1))).toArray⟩) := Lib.hid (by
        apply ByteArray.ext
        apply Array.toList_inj.1
        rw [cat_list, cat_list, hS.out]
        simp [strzL])
      replace ht := Lib.hid ht
      go_wp2
      go_ret
      exact ⟨by rw [← hfin.out]; rfl, hb.out⟩
end Go.Proofs.YtfaoamdlknlgpaaGreat

/- subst in plain Lean: what a body becomes; pieces as cells. -/
namespace Go.Proofs.YtfaoamdlknlgpaaGreat
open Go.RowKit
set_option linter.unusedVariables false

/-- a piece: a token, its sites as cells, the parameter, the place, whether it is full -/
structure Pz where
  (t : Tm) (css : List (List Value)) (par : Int) (at_ : Nat) (full : Bool)

/-- an argument's tokens as pieces -/
def argZ (sp : Bool) (p : Nat) (full : Bool) : Nat → List Tf → List Pz
  | _, [] => []
  | k, x :: r => ⟨if k = 0 then { x.1 with sp := sp } else x.1, x.2, p, k, full⟩ :: argZ sp p full (k + 1) r

inductive Thg where
  | paste (file : ByteArray) (f t : Int)
  | body (l : List Pz)

def argOf (L : List (List Tf)) (p : Int) : List Tf := L[p.toNat]?.getD []

/-- the parameter behind a hash -/
def behindP (m : Mac) (i : Nat) : Int := match m.body[i + 1]? with | some u => ofP m.fn m.params u | none => -1

def thingZ (m : Mac) (RR FF : List (List Tf)) (S : List (List Value)) (i : Nat) (t : Tm) : Thg × Nat :=
  if pasteP t then (.paste t.file t.f t.t, 1)
  else if hashedP m i then (.body [⟨⟨4, bs (strzL ((argOf RR (behindP m i)).map (·.1))), t.sp, t.file, t.f, t.t, true⟩, S, -1, 0, false⟩], 2)
  else if ofP m.fn m.params t < 0 then (.body [⟨{ t with made := false }, S, -1, 0, false⟩], 1)
  else (.body (argZ t.sp (ofP m.fn m.params t).toNat (!rawP m.body i) 0 (argOf (if rawP m.body i then RR else FF) (ofP m.fn m.params t))), 1)

/-- what came of two things, with a paste between; is it told? none: too long -/
def glueZ (a b : List Pz) : Option (List Pz × Bool) :=
  match a.getLast?, b with
  | some x, y :: r =>
    if 1000 < x.t.text.size + y.t.text.size then none
    else match oneK (x.t.text ++ y.t.text).data.toList with
      | none => some (a ++ b, true)
      | some k => some (a.dropLast ++ ⟨⟨k, x.t.text ++ y.t.text, x.t.sp, x.t.file, x.t.f, x.t.t, true⟩, x.css, -1, 0, false⟩ :: r, false)
  | _, _ => some (a ++ b, false)

structure ZS where
  (out ahead : List Pz) (paste : Option (ByteArray × Int × Int)) (ds : List Bad)

def ZS.ok (s : ZS) : Bool := decide (s.out.length + s.ahead.length + s.ds.length ≤ 900000)

def stepZ (s : ZS) : Thg → Option ZS
  | .paste file f t => some { s with paste := some (file, f, t) }
  | .body l => match s.paste with
    | some (file, f, t) => (glueZ s.ahead l).map fun r => ⟨s.out, r.1, none, if r.2 then s.ds ++ [⟨10, file, f, t⟩] else s.ds⟩
    | none => some ⟨s.out ++ s.ahead, l, none, s.ds⟩

def piecesZ (m : Mac) (RR FF : List (List Tf)) (S : List (List Value)) : Nat → Nat → ZS → Option ZS
  | 0, _, s => some s
  | n + 1, i, s => match m.body[i]? with
    | none => some s
    | some t => match stepZ s (thingZ m RR FF S i t).1 with
      | none => none
      | some s' => if s'.ok then piecesZ m RR FF S n (i + (thingZ m RR FF S i t).2) s' else none

theorem thing_n (m : Mac) (RR FF : List (List Tf)) (S : List (List Value)) (i : Nat) (t : Tm) (hi : m.body[i]? = some t) : 1 ≤ (thingZ m RR FF S i t).2 ∧ i + (thingZ m RR FF S i t).2 ≤ m.body.length := by
  have hl := (List.getElem?_eq_some_iff.1 hi).1
  unfold thingZ
  split
  · exact ⟨Nat.le_refl _, hl⟩
  · split
    · rename_i h
      refine ⟨by simp, ?_⟩
      unfold hashedP at h
      simp only [Bool.and_eq_true] at h
      cases hu : m.body[i + 1]? with
      | none => rw [hu] at h; simp at h
      | some u => exact (List.getElem?_eq_some_iff.1 hu).1
    · split
      · exact ⟨Nat.le_refl _, hl⟩
      · exact ⟨Nat.le_refl _, hl⟩

theorem pieces_end {m : Mac} {RR FF : List (List Tf)} {S : List (List Value)} {n i : Nat} {s : ZS} (h : m.body.length ≤ i) : piecesZ m RR FF S n i s = some s := by
  cases n with
  | zero => rfl
  | succ n => simp only [piecesZ]; rw [List.getElem?_eq_none h]

theorem pieces_step {m : Mac} {RR FF : List (List Tf)} {S : List (List Value)} {n i : Nat} {s fin : ZS} {t : Tm} (hi : m.body[i]? = some t) (hn : m.body.length ≤ i + n) (h : piecesZ m RR FF S n i s = some fin) :
    ∃ n' s', n = n' + 1 ∧ stepZ s (thingZ m RR FF S i t).1 = some s' ∧ s'.out.length + s'.ahead.length + s'.ds.length ≤ 900000 ∧ piecesZ m RR FF S n' (i + (thingZ m RR FF S i t).2) s' = some fin := by
  have hl := (List.getElem?_eq_some_iff.1 hi).1
  cases n with
  | zero => omega
  | succ n =>
    simp only [piecesZ] at h
    rw [hi] at h
    simp only at h
    cases hs : stepZ s (thingZ m RR FF S i t).1 with
    | none => rw [hs] at h; simp at h
    | some s' =>
      rw [hs] at h
      simp only at h
      cases ho : s'.ok with
      | false => rw [ho] at h; simp at h
      | true =>
        rw [ho] at h
        exact ⟨n, s', rfl, rfl, by simpa [ZS.ok] using ho, by simpa using h⟩

/-! ## pieces as cells -/

def pzC (p : Pz) (v : Value) : List Value := [.int .i64 p.t.kind, .string p.t.text, .bool p.t.sp, .string p.t.file, .int .i64 p.t.f, .int .i64 p.t.t, .bool p.t.made, v, .int .i64 p.par, .int .i64 p.at_, .bool p.full]
def pzV (p : Pz × Value) : List Value := pzC p.1 p.2

/-- pieces of the call's own, their sites too -/
def OwnZ (X : List Pz) (B : Nat) (v : Value) (w : World) : Prop :=
  ∃ T : List (Pz × Value), T.map (·.1) = X ∧ Own w B 118 11 v (T.map pzV) ∧ ∀ p ∈ T, Own w B 66 5 p.2 p.1.css

theorem OwnZ.below {w w' : World} {B : Nat} {v : Value} {X : List Pz} (h : OwnZ X B v w) (hb : Below w.heap.size w w') : OwnZ X B v w' := by
  obtain ⟨T, h1, h2, h3⟩ := h
  exact ⟨T, h1, h2.below hb, fun p hp => (h3 p hp).below hb⟩

theorem OwnZ.mono {w : World} {B B' : Nat} {v : Value} {X : List Pz} (h : OwnZ X B v w) (hB : B' ≤ B) : OwnZ X B' v w := by
  obtain ⟨T, h1, h2, h3⟩ := h
  exact ⟨T, h1, h2.mono hB, fun p hp => (h3 p hp).mono hB⟩

theorem OwnZ.nil (w : World) (B : Nat) : OwnZ [] B (.slice none 0 0) w := ⟨[], rfl, Own.nil _ _ _ _, by simp⟩

theorem OwnZ.len {w : World} {B : Nat} {v : Value} {X : List Pz} (h : OwnZ X B v w) : ∃ ao cap, v = .slice ao X.length cap ∧ X.length ≤ cap := by
  obtain ⟨T, rfl, h2, h3⟩ := h
  obtain ⟨ao, cap, rfl, a1, _, _, _⟩ := h2.rown (n := T.length) (by simp)
  exact ⟨ao, cap, by simp, by simpa using a1⟩

/-- kept by what grows a row of another kind, or another block -/
theorem OwnZ.kept {w w' : World} {B : Nat} {v : Value} {X : List Pz} {row : Option Nat} (h : OwnZ X B v w) (hg : w.grownBy w' row) (hne : v.ownBlock = none ∨ v.ownBlock ≠ row) (hs : ∀ g, row = some g → ∃ c T fz, w.heap[g]? = some (.cells c T fz) ∧ 66 ≠ T) : OwnZ X B v w' := by
  obtain ⟨T, h1, h2, h3⟩ := h
  refine ⟨T, h1, h2.kept hg hne, fun p hp => ?_⟩
  cases row with
  | none => exact (h3 p hp).kept hg (by cases p.2.ownBlock <;> simp)
  | some g =>
    obtain ⟨c, T', fz, hc, hT⟩ := hs g rfl
    exact (h3 p hp).kept hg (own_ne (h3 p hp) hc hT)
end Go.Proofs.YtfaoamdlknlgpaaGreat
