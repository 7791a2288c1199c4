/- Texts of this seat's proofs, laid into one file. -/
import Derived.Test.YtfaoamdlknlgpaaGreatArgsCollectDoneG36
import Derived.Test.YtfaoamdlknlgpaaGreatArgsCollectDoneG23
import Derived.Deep.Cut
import Derived.Deep.CutRange
import Derived.Deep.CutBlock
/- args: Stringize, by the program and by the document. -/
namespace Go.Proofs.YtfaoamdlknlgpaaGreat
open Go.RowKit
set_option linter.unusedVariables false

def strT (t : Tm) : List UInt8 := if t.kind = 4 ∨ t.kind = 3 then escL t.text.data.toList else t.text.data.toList
def spT (i : Nat) (t : Tm) : List UInt8 := if 0 < i ∧ t.sp = true then [32] else []
/-- what tokens' texts are together, from the place i on -/
def strF : Nat → List Tm → List UInt8
  | _, [] => []
  | i, t :: r => spT i t ++ strT t ++ strF (i + 1) r
def strzL (T : List Tm) : List UInt8 := 34 :: (strF 0 T ++ [34])

theorem strF_app : ∀ (T : List Tm) (i : Nat) (t : Tm), strF i (T ++ [t]) = strF i T ++ (spT (i + T.length) t ++ strT t)
  | [], i, t => by simp [strF]
  | x :: r, i, t => by
    show spT i x ++ strT x ++ strF (i + 1) (r ++ [t]) = spT i x ++ strT x ++ strF (i + 1) r ++ _
    rw [strF_app r (i + 1) t, List.length_cons, show i + (r.length + 1) = i + 1 + r.length by omega]
    simp

theorem strF_take {T : List Tm} {i : Nat} {t : Tm} (h : T[i]? = some t) : strF 0 (T.take (i + 1)) = strF 0 (T.take i) ++ (spT i t ++ strT t) := by
  have hi := (List.getElem?_eq_some_iff.1 h).1
  have : T.take (i + 1) = T.take i ++ [t] := by rw [List.take_add_one, h]; rfl
  rw [this, strF_app, List.length_take, Nat.zero_add, Nat.min_eq_left (Nat.le_of_lt hi)]

theorem strT_len {t : Tm} (ht : t.text.size ≤ 1000) : (strT t).length ≤ 2000 := by
  have h1 := escL_len t.text.data.toList
  have h2 := escN_le t.text.data.toList
  have h3 : t.text.data.toList.length = t.text.size := Array.length_toList
  unfold strT
  split <;> omega
theorem spT_len (i : Nat) (t : Tm) : (spT i t).length ≤ 1 := by unfold spT; split <;> simp
theorem strF_len : ∀ (T : List Tm) (i : Nat), (∀ t ∈ T, t.text.size ≤ 1000) → (strF i T).length ≤ 2001 * T.length
  | [], i, _ => by simp [strF]
  | x :: r, i, h => by
    have h1 := strF_len r (i + 1) (fun t ht => h t (by simp [ht]))
    have h2 := strT_len (h x (by simp))
    have h3 := spT_len i x
    show (spT i x ++ strT x ++ strF (i + 1) r).length ≤ _
    rw [List.length_append, List.length_append, List.length_cons]
    omega

set_option maxRecDepth 100000 in
set_option maxHeartbeats 4000000 in
theorem pStringize_any (T : List (Tm × Value)) (ao : Option Addr) (cap : Nat) (hn : T.length ≤ 1000) (hcap : T.length ≤ cap) (htx : ∀ p ∈ T, p.1.text.size ≤ 1000) (w : World) (hrow : Row w 8 ao (T.map tvC)) (hs : ∀ p ∈ T, SlV p.2) :
    Calls Tryz.prog 16 #[.slice ao T.length cap] w fun e w' => e = .returned (.string ⟨(strzL (T.map (·.1))).toArray⟩) ∧ Below w.heap.size w w' := by
  obtain ⟨n, hnn⟩ : ∃ n, n = T.length := ⟨_, rfl⟩
  have HN : Hid (T.length = n) := Lib.hid hnn.symm
  rw [← hnn] at hn hcap ⊢
  clear hnn
  have htx' : Hid (∀ i, (strF 0 ((T.map (·.1)).take i)).length ≤ 2001 * n) := Lib.hid fun i => by
    have h1 := strF_len ((T.map (·.1)).take i) 0 (fun t ht => by
      obtain ⟨p, hp, rfl⟩ := List.mem_map.1 (List.mem_of_mem_take ht)
      exact htx p hp)
    have h2 : ((T.map (·.1)).take i).length ≤ n := by rw [List.length_take, List.length_map, HN.out]; omega
    omega
  replace htx := Lib.hid htx
  replace hrow := Lib.hid hrow
  replace hs := Lib.hid hs
  obtain ⟨W1, hW1⟩ : ∃ W1, W1 = w.alloc (.cells #[.pointer none, .slice none 0 0] 74) := ⟨_, rfl⟩
  have hbl0 := bld_new w
  rw [← hW1] at hbl0
  have hb0 : Below w.heap.size w W1 := by rw [hW1]; exact (Below.refl _ w).alloc (Nat.le_refl _) _
  have H0 := Lib.hid (bld_byte hbl0 (by simp) hb0.size 34)
  rw [hW1] at H0
  replace hb0 := Lib.hid hb0
  have h34 : ((UInt8.toNat 34 : Nat) : Int) = 34 := rfl
  rw [h34] at H0
  go_enter Tryz.func16, Tryz.ntmps16
  go_wp2_with fail
  refine H0.out.mono ?_
  rintro e w2 ⟨rfl, hbl2, hk2⟩
  have hb2 := Lib.hid (hb0.out.trans (hW1 ▸ hk2.below))
  replace hbl2 := Lib.hid hbl2
  clear H0 hbl0 hk2 hb0
  clear hW1 W1
  go_wp2_with fail
  go_loopg [4, 5, 9] n (fun q v4 v5 v9 wx => ∃ i : Nat, q = n - i ∧ i ≤ n ∧ v9 = .int .i64 i ∧ Hid (Bld wx w.heap.size w.heap.size (34 :: strF 0 ((T.map (·.1)).take i))) ∧ Hid (Below w.heap.size w wx))
  case atStart => exact ⟨0, rfl, Nat.zero_le _, rfl, Lib.hid (by simpa [strF] using hbl2.out), hb2⟩
  case round =>
    clear hbl2 hb2
    obtain ⟨i, hq, hi, rfl, hbl, hb⟩ := hrel
    replace hq := hq.symm
    subst hq
    have hsB := hb.out.size
    have hlen : Hid ((34 :: strF 0 ((T.map (·.1)).take i)).length + 3000 ≤ 1000000000) := Lib.hid (by rw [List.length_cons]; have := htx'.out i; omega)
    by_cases hin : i < n
    · have hin' : (i : Int) < n := by omega
      have f4 : Hid (n - (i + 1) < n - i) := Lib.hid (by omega)
      have g1 : IntKind.i64.wrap ((i : Int) + 1) = (i : Int) + 1 := IntWalk.i64_in _ (by omega)
      obtain ⟨⟨⟨kind, text, sp, file, tf, tt, made⟩, v⟩, hp⟩ : ∃ p, T[i]? = some p := ⟨_, List.getElem?_eq_getElem (by rw [HN.out]; exact hin)⟩
      obtain ⟨rb, o, rfl, hat⟩ := (hrow.out.below hb.out) (by intro h; simp at h; subst h; simp at hp)
      obtain ⟨t0, t1, t2, t3, t4, t5, t6, t7⟩ := tok8 (tok_at hat hp)
      have hts := htx.out _ (List.mem_of_getElem? hp)
      simp only at hts t0 t1 t2 t3 t4 t5 t6 t7
      have hst := strF_take (T := T.map (·.1)) (i := i) (t := ⟨kind, text, sp, file, tf, tt, made⟩) (by rw [List.getElem?_map, hp]; rfl)
      obtain ⟨sa, sn, sc, hv⟩ := hs.out _ (List.mem_of_getElem? hp)
      simp only at hv
      subst hv
      clear hat hp
      have hbA : Hid (Below w.heap.size w (wr.alloc (.cells #[.int .i64 kind, .string text, .bool sp, .string file, .int .i64 tf, .int .i64 tt, .bool made, .slice sa sn sc] 34))) := Lib.hid (hb.out.alloc hsB _)
      have hblA : Hid (Bld (wr.alloc (.cells #[.int .i64 kind, .string text, .bool sp, .string file, .int .i64 tf, .int .i64 tt, .bool made, .slice sa sn sc] 34)) w.heap.size w.heap.size (34 :: strF 0 ((T.map (·.1)).take i))) := Lib.hid (hbl.out.alloc _)
      have hcA : Hid ((wr.alloc (.cells #[.int .i64 kind, .string text, .bool sp, .string file, .int .i64 tf, .int .i64 tt, .bool made, .slice sa sn sc] 34)).heap[wr.heap.size]? = some (.cells #[.int .i64 kind, .string text, .bool sp, .string file, .int .i64 tf, .int .i64 tt, .bool made, .slice sa sn sc] 34 (0, 0))) := Lib.hid (heap_alloc_new wr (.cells #[.int .i64 kind, .string text, .bool sp, .string file, .int .i64 tf, .int .i64 tt, .bool made, .slice sa sn sc] 34))
      have hgb : wr.heap.size ≠ w.heap.size := by
        have : w.heap.size < wr.heap.size := by
          rcases hbl.out with ⟨_, vv, h1, _⟩ | ⟨_, vv, h1, _⟩ <;> exact lt_of_block h1
        omega
      have HE := Lib.hid (fun W => escaped_any text (by omega) W)
      have hel : (escL text.data.toList).length ≤ 2000 := strT_len (t := ⟨4, text, sp, file, tf, tt, made⟩) hts
      replace hel := Lib.hid hel
      clear hbl hb
      by_cases hi0 : i = 0
      · have q0 : decide ((0 : Int) < (i : Int)) = false := decide_eq_false (by omega)
        have q0' : decide (0 < i) = false := decide_eq_false (by omega)
        have hi0n : Hid (¬ 0 < i) := Lib.hid (by omega)
        replace hi0 := Lib.hid hi0
        by_cases h4 : kind = 4
        · subst h4
          have hst' : Hid (strF 0 ((T.map (·.1)).take (i + 1)) = strF 0 ((T.map (·.1)).take i) ++ ([] ++ (escL text.data.toList))) := Lib.hid (by
            refine hst.trans (congrArg _ (congr (congrArg _ (show spT i _ = [] from if_neg (fun h => hi0n.out h.1))) (show strT _ = (escL text.data.toList) from if_pos (by simp)))))
          clear hst
          go_wp2_with fail
          refine (HE.out _).mono ?_
          rintro e w4 ⟨rfl, b4⟩
          have hb4 := Lib.hid (hbA.out.trans (b4.mono hbA.out.size))
          have HW := Lib.hid (bld_str (hblA.out.below b4) (by have := hlen.out; simp at this ⊢; omega) ⟨(escL text.data.toList).toArray⟩ (by have := hel.out; show (escL text.data.toList).toArray.size ≤ _; rw [List.size_toArray]; omega) hb4.out.size)
          clear b4
          go_wp2_with fail
          refine HW.out.mono ?_
          rintro e w5 ⟨rfl, hbl5, hk5⟩
          have hb5 := Lib.hid (hb4.out.trans hk5.below)
          replace hbl5 := Lib.hid hbl5
          clear hk5 HW
          go_wp2_with fail
          go_roundg (n - (i + 1))
          case measure => exact f4.out
          case rel => exact ⟨i + 1, rfl, by omega, by simp, Lib.hid (by rw [hst'.out]; simpa using hbl5.out), hb5⟩
        by_cases h3 : kind = 3
        · subst h3
          have hst' : Hid (strF 0 ((T.map (·.1)).take (i + 1)) = strF 0 ((T.map (·.1)).take i) ++ ([] ++ (escL text.data.toList))) := Lib.hid (by
            refine hst.trans (congrArg _ (congr (congrArg _ (show spT i _ = [] from if_neg (fun h => hi0n.out h.1))) (show strT _ = (escL text.data.toList) from if_pos (by simp)))))
          clear hst
          go_wp2_with fail
          refine (HE.out _).mono ?_
          rintro e w4 ⟨rfl, b4⟩
          have hb4 := Lib.hid (hbA.out.trans (b4.mono hbA.out.size))
          have HW := Lib.hid (bld_str (hblA.out.below b4) (by have := hlen.out; simp at this ⊢; omega) ⟨(escL text.data.toList).toArray⟩ (by have := hel.out; show (escL text.data.toList).toArray.size ≤ _; rw [List.size_toArray]; omega) hb4.out.size)
          clear b4
          go_wp2_with fail
          refine HW.out.mono ?_
          rintro e w5 ⟨rfl, hbl5, hk5⟩
          have hb5 := Lib.hid (hb4.out.trans hk5.below)
          replace hbl5 := Lib.hid hbl5
          clear hk5 HW
          go_wp2_with fail
          go_roundg (n - (i + 1))
          case measure => exact f4.out
          case rel => exact ⟨i + 1, rfl, by omega, by simp, Lib.hid (by rw [hst'.out]; simpa using hbl5.out), hb5⟩
        have h4b : (kind == 4) = false := beq_false_of_ne h4
        have h3b : (kind == 3) = false := beq_false_of_ne h3
        have hst' : Hid (strF 0 ((T.map (·.1)).take (i + 1)) = strF 0 ((T.map (·.1)).take i) ++ ([] ++ text.data.toList)) := Lib.hid (by
          refine hst.trans (congrArg _ (congr (congrArg _ (show spT i _ = [] from if_neg (fun h => hi0n.out h.1))) (show strT _ = text.data.toList from if_neg (by simp only; omega)))))
        clear hst
        have HW := Lib.hid (bld_str hblA.out (by have := hlen.out; simp at this ⊢; omega) text (by omega) hbA.out.size)
        go_wp2_with fail
        refine HW.out.mono ?_
        rintro e w5 ⟨rfl, hbl5, hk5⟩
        have hb5 := Lib.hid (hbA.out.trans hk5.below)
        replace hbl5 := Lib.hid hbl5
        clear hk5 HW
        go_wp2_with fail
        go_roundg (n - (i + 1))
        case measure => exact f4.out
        case rel => exact ⟨i + 1, rfl, by omega, by simp, Lib.hid (by rw [hst'.out]; simpa using hbl5.out), hb5⟩
      · have q0 : (0 : Int) < (i : Int) := by omega
        have q0i : Hid (0 < i) := Lib.hid (by omega)
        cases sp with
        | false =>
          by_cases h4 : kind = 4
          · subst h4
            have hst' : Hid (strF 0 ((T.map (·.1)).take (i + 1)) = strF 0 ((T.map (·.1)).take i) ++ ([] ++ (escL text.data.toList))) := Lib.hid (by
              refine hst.trans (congrArg _ (congr (congrArg _ (show spT i _ = [] from if_neg (by simp))) (show strT _ = (escL text.data.toList) from if_pos (by simp)))))
            clear hst
            go_wp2_with fail
            refine (HE.out _).mono ?_
            rintro e w4 ⟨rfl, b4⟩
            have hb4 := Lib.hid (hbA.out.trans (b4.mono hbA.out.size))
            have HW := Lib.hid (bld_str (hblA.out.below b4) (by have := hlen.out; simp at this ⊢; omega) ⟨(escL text.data.toList).toArray⟩ (by have := hel.out; show (escL text.data.toList).toArray.size ≤ _; rw [List.size_toArray]; omega) hb4.out.size)
            clear b4
            go_wp2_with fail
            refine HW.out.mono ?_
            rintro e w5 ⟨rfl, hbl5, hk5⟩
            have hb5 := Lib.hid (hb4.out.trans hk5.below)
            replace hbl5 := Lib.hid hbl5
            clear hk5 HW
            go_wp2_with fail
            go_roundg (n - (i + 1))
            case measure => exact f4.out
            case rel => exact ⟨i + 1, rfl, by omega, by simp, Lib.hid (by rw [hst'.out]; simpa using hbl5.out), hb5⟩
          by_cases h3 : kind = 3
          · subst h3
            have hst' : Hid (strF 0 ((T.map (·.1)).take (i + 1)) = strF 0 ((T.map (·.1)).take i) ++ ([] ++ (escL text.data.toList))) := Lib.hid (by
              refine hst.trans (congrArg _ (congr (congrArg _ (show spT i _ = [] from if_neg (by simp))) (show strT _ = (escL text.data.toList) from if_pos (by simp)))))
            clear hst
            go_wp2_with fail
            refine (HE.out _).mono ?_
            rintro e w4 ⟨rfl, b4⟩
            have hb4 := Lib.hid (hbA.out.trans (b4.mono hbA.out.size))
            have HW := Lib.hid (bld_str (hblA.out.below b4) (by have := hlen.out; simp at this ⊢; omega) ⟨(escL text.data.toList).toArray⟩ (by have := hel.out; show (escL text.data.toList).toArray.size ≤ _; rw [List.size_toArray]; omega) hb4.out.size)
            clear b4
            go_wp2_with fail
            refine HW.out.mono ?_
            rintro e w5 ⟨rfl, hbl5, hk5⟩
            have hb5 := Lib.hid (hb4.out.trans hk5.below)
            replace hbl5 := Lib.hid hbl5
            clear hk5 HW
            go_wp2_with fail
            go_roundg (n - (i + 1))
            case measure => exact f4.out
            case rel => exact ⟨i + 1, rfl, by omega, by simp, Lib.hid (by rw [hst'.out]; simpa using hbl5.out), hb5⟩
          have h4b : (kind == 4) = false := beq_false_of_ne h4
          have h3b : (kind == 3) = false := beq_false_of_ne h3
          have hst' : Hid (strF 0 ((T.map (·.1)).take (i + 1)) = strF 0 ((T.map (·.1)).take i) ++ ([] ++ text.data.toList)) := Lib.hid (by
            refine hst.trans (congrArg _ (congr (congrArg _ (show spT i _ = [] from if_neg (by simp))) (show strT _ = text.data.toList from if_neg (by simp only; omega)))))
          clear hst
          have HW := Lib.hid (bld_str hblA.out (by have := hlen.out; simp at this ⊢; omega) text (by omega) hbA.out.size)
          go_wp2_with fail
          refine HW.out.mono ?_
          rintro e w5 ⟨rfl, hbl5, hk5⟩
          have hb5 := Lib.hid (hbA.out.trans hk5.below)
          replace hbl5 := Lib.hid hbl5
          clear hk5 HW
          go_wp2_with fail
          go_roundg (n - (i + 1))
          case measure => exact f4.out
          case rel => exact ⟨i + 1, rfl, by omega, by simp, Lib.hid (by rw [hst'.out]; simpa using hbl5.out), hb5⟩
        | true =>
          by_cases h4 : kind = 4
          · subst h4
            have hst' : Hid (strF 0 ((T.map (·.1)).take (i + 1)) = strF 0 ((T.map (·.1)).take i) ++ ([32] ++ (escL text.data.toList))) := Lib.hid (by
              refine hst.trans (congrArg _ (congr (congrArg _ (show spT i _ = [32] from if_pos ⟨q0i.out, rfl⟩)) (show strT _ = (escL text.data.toList) from if_pos (by simp)))))
            clear hst
            have HS := bld_byte hblA.out (by have := hlen.out; omega) (by simp; omega) 32
            have h32 : ((UInt8.toNat 32 : Nat) : Int) = 32 := rfl
            rw [h32] at HS
            replace HS := Lib.hid HS
            go_wp2_with fail
            refine HS.out.mono ?_
            rintro e w3 ⟨rfl, hbl3, hk3⟩
            have hb3 := Lib.hid (hbA.out.trans hk3.below)
            have d0 := hk3.cell (Lib.cell_of_heap hcA.out 0) hgb (by intro c fz e; rw [hcA.out] at e; cases e)
            have d1 := hk3.cell (Lib.cell_of_heap hcA.out 1) hgb (by intro c fz e; rw [hcA.out] at e; cases e)
            replace hbl3 := Lib.hid hbl3
            clear hk3 HS
            go_wp2_with fail
            refine (HE.out _).mono ?_
            rintro e w4 ⟨rfl, b4⟩
            have hb4 := Lib.hid (hb3.out.trans (b4.mono hb3.out.size))
            have HW := Lib.hid (bld_str (hbl3.out.below b4) (by have := hlen.out; simp at this ⊢; omega) ⟨(escL text.data.toList).toArray⟩ (by have := hel.out; show (escL text.data.toList).toArray.size ≤ _; rw [List.size_toArray]; omega) hb4.out.size)
            clear b4
            go_wp2_with fail
            refine HW.out.mono ?_
            rintro e w5 ⟨rfl, hbl5, hk5⟩
            have hb5 := Lib.hid (hb4.out.trans hk5.below)
            replace hbl5 := Lib.hid hbl5
            clear hk5 HW
            go_wp2_with fail
            go_roundg (n - (i + 1))
            case measure => exact f4.out
            case rel => exact ⟨i + 1, rfl, by omega, by simp, Lib.hid (by rw [hst'.out]; simpa using hbl5.out), hb5⟩
          by_cases h3 : kind = 3
          · subst h3
            have hst' : Hid (strF 0 ((T.map (·.1)).take (i + 1)) = strF 0 ((T.map (·.1)).take i) ++ ([32] ++ (escL text.data.toList))) := Lib.hid (by
              refine hst.trans (congrArg _ (congr (congrArg _ (show spT i _ = [32] from if_pos ⟨q0i.out, rfl⟩)) (show strT _ = (escL text.data.toList) from if_pos (by simp)))))
            clear hst
            have HS := bld_byte hblA.out (by have := hlen.out; omega) (by simp; omega) 32
            have h32 : ((UInt8.toNat 32 : Nat) : Int) = 32 := rfl
            rw [h32] at HS
            replace HS := Lib.hid HS
            go_wp2_with fail
            refine HS.out.mono ?_
            rintro e w3 ⟨rfl, hbl3, hk3⟩
            have hb3 := Lib.hid (hbA.out.trans hk3.below)
            have d0 := hk3.cell (Lib.cell_of_heap hcA.out 0) hgb (by intro c fz e; rw [hcA.out] at e; cases e)
            have d1 := hk3.cell (Lib.cell_of_heap hcA.out 1) hgb (by intro c fz e; rw [hcA.out] at e; cases e)
            replace hbl3 := Lib.hid hbl3
            clear hk3 HS
            go_wp2_with fail
            refine (HE.out _).mono ?_
            rintro e w4 ⟨rfl, b4⟩
            have hb4 := Lib.hid (hb3.out.trans (b4.mono hb3.out.size))
            have HW := Lib.hid (bld_str (hbl3.out.below b4) (by have := hlen.out; simp at this ⊢; omega) ⟨(escL text.data.toList).toArray⟩ (by have := hel.out; show (escL text.data.toList).toArray.size ≤ _; rw [List.size_toArray]; omega) hb4.out.size)
            clear b4
            go_wp2_with fail
            refine HW.out.mono ?_
            rintro e w5 ⟨rfl, hbl5, hk5⟩
            have hb5 := Lib.hid (hb4.out.trans hk5.below)
            replace hbl5 := Lib.hid hbl5
            clear hk5 HW
            go_wp2_with fail
            go_roundg (n - (i + 1))
            case measure => exact f4.out
            case rel => exact ⟨i + 1, rfl, by omega, by simp, Lib.hid (by rw [hst'.out]; simpa using hbl5.out), hb5⟩
          have h4b : (kind == 4) = false := beq_false_of_ne h4
          have h3b : (kind == 3) = false := beq_false_of_ne h3
          have hst' : Hid (strF 0 ((T.map (·.1)).take (i + 1)) = strF 0 ((T.map (·.1)).take i) ++ ([32] ++ text.data.toList)) := Lib.hid (by
            refine hst.trans (congrArg _ (congr (congrArg _ (show spT i _ = [32] from if_pos ⟨q0i.out, rfl⟩)) (show strT _ = text.data.toList from if_neg (by simp only; omega)))))
          clear hst
          have HS := bld_byte hblA.out (by have := hlen.out; omega) (by simp; omega) 32
          have h32 : ((UInt8.toNat 32 : Nat) : Int) = 32 := rfl
          rw [h32] at HS
          replace HS := Lib.hid HS
          go_wp2_with fail
          refine HS.out.mono ?_
          rintro e w3 ⟨rfl, hbl3, hk3⟩
          have hb3 := Lib.hid (hbA.out.trans hk3.below)
          have d0 := hk3.cell (Lib.cell_of_heap hcA.out 0) hgb (by intro c fz e; rw [hcA.out] at e; cases e)
          have d1 := hk3.cell (Lib.cell_of_heap hcA.out 1) hgb (by intro c fz e; rw [hcA.out] at e; cases e)
          replace hbl3 := Lib.hid hbl3
          clear hk3 HS
          have HW := Lib.hid (bld_str hbl3.out (by have := hlen.out; simp at this ⊢; omega) text (by omega) hb3.out.size)
          go_wp2_with fail
          refine HW.out.mono ?_
          rintro e w5 ⟨rfl, hbl5, hk5⟩
          have hb5 := Lib.hid (hb3.out.trans hk5.below)
          replace hbl5 := Lib.hid hbl5
          clear hk5 HW
          go_wp2_with fail
          go_roundg (n - (i + 1))
          case measure => exact f4.out
          case rel => exact ⟨i + 1, rfl, by omega, by simp, Lib.hid (by rw [hst'.out]; simpa using hbl5.out), hb5⟩
    · obtain rfl : i = n := by omega
      have hin' : ¬ (i : Int) < (i : Int) := by omega
      have HF := bld_byte hbl.out (by have := hlen.out; omega) hsB 34
      rw [h34] at HF
      replace HF := Lib.hid HF
      have ht : (T.map (·.1)).take i = T.map (·.1) := List.take_of_length_le (by rw [List.length_map, HN.out]; exact Nat.le_refl _)
      rw [ht] at HF hlen
      replace ht := Lib.hid ht
      go_wp2_with fail
      refine HF.out.mono ?_
      rintro e w3 ⟨rfl, hbl3, hk3⟩
      have hb3 := Lib.hid (hb.out.trans hk3.below)
      have HD := Lib.hid (bld_done hbl3 hb3.out.size)
      clear hbl3 hk3
      go_wp2_with fail
      refine HD.out.mono ?_
      rintro e w4 ⟨rfl, _, hk4⟩
      have hb4 := Lib.hid (hb3.out.trans hk4.below)
      clear hk4
      go_wp2
      go_ret
      exact ⟨rfl, hb4.out⟩
end Go.Proofs.YtfaoamdlknlgpaaGreat
