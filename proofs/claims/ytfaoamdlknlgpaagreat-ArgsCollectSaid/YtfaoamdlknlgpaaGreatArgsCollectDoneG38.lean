/- Texts of this seat's proofs, laid into one file. -/
import Derived.Test.YtfaoamdlknlgpaaGreatArgsCollectDoneG37
/- args: the document's Stringize. -/
namespace Go.Proofs.YtfaoamdlknlgpaaGreat
open Go.RowKit
set_option linter.unusedVariables false

theorem ext_list (s : ByteArray) (a k : Nat) : (s.extract a (a + k)).data.toList = (s.data.toList.drop a).take k := by
  rw [ByteArray.data_extract, Array.toList_extract, List.extract_eq_take_drop]
  congr 1
  omega

theorem quote_inner (Q : ByteArray) (l : List UInt8) (h : Q.data.toList = 34 :: (l ++ [34])) : (Q.extract 1 (Q.size - 1)).data.toList = l ∧ Q.size = l.length + 2 := by
  have hs : Q.size = l.length + 2 := by
    have : Q.data.toList.length = Q.size := Array.length_toList
    rw [← this, h]; simp
  refine ⟨?_, hs⟩
  rw [show Q.size - 1 = 1 + l.length by omega, ext_list, h]
  simp

theorem cat_list (a b : ByteArray) : (a ++ b).data.toList = a.data.toList ++ b.data.toList := by simp

theorem sz_list (a : ByteArray) : a.data.toList.length = a.size := Array.length_toList

set_option maxRecDepth 100000 in
set_option maxHeartbeats 4000000 in
theorem rStringize_any (T : List (Tm × Value)) (ao : Option Addr) (cap : Nat) (hn : T.length ≤ 1000) (hcap : T.length ≤ cap) (htx : ∀ p ∈ T, p.1.text.size ≤ 1000) (w : World) (hrow : Row w 8 ao (T.map tvC)) (hs : ∀ p ∈ T, SlV p.2) :
    Calls Tryz.prog 17 #[.slice ao T.length cap] w fun e w' => e = .returned (.string ⟨(strzL (T.map (·.1))).toArray⟩) ∧ Below w.heap.size w w' := by
  obtain ⟨n, hnn⟩ : ∃ n, n = T.length := ⟨_, rfl⟩
  have HN : Hid (T.length = n) := Lib.hid hnn.symm
  rw [← hnn] at hn hcap ⊢
  clear hnn
  have htx' : Hid (∀ i, (strF 0 ((T.map (·.1)).take i)).length ≤ 2001 * n) := Lib.hid fun i => by
    have h1 := strF_len ((T.map (·.1)).take i) 0 (fun t ht => by
      obtain ⟨p, hp, rfl⟩ := List.mem_map.1 (List.mem_of_mem_take ht)
      exact htx p hp)
    have h2 : ((T.map (·.1)).take i).length ≤ n := by rw [List.length_take, List.length_map, HN.out]; omega
    omega
  replace htx := Lib.hid htx
  replace hrow := Lib.hid hrow
  replace hs := Lib.hid hs
  go_enter Tryz.func17, Tryz.ntmps17
  go_wp2_with fail
  go_loopg [3, 4, 5] n (fun q v3 v4 v5 wx => ∃ (i : Nat) (S : ByteArray), q = n - i ∧ i ≤ n ∧ v4 = .int .i64 i ∧ v3 = .string S ∧ Hid (S.data.toList = strF 0 ((T.map (·.1)).take i)) ∧ Hid (Below w.heap.size w wx))
  case atStart => exact ⟨0, ⟨#[]⟩, rfl, Nat.zero_le _, rfl, rfl, Lib.hid rfl, Lib.hid (Below.refl _ _)⟩
  case round =>
    obtain ⟨i, S, hq, hi, rfl, rfl, hS, hb⟩ := hrel
    replace hq := hq.symm
    subst hq
    have hsB := hb.out.size
    have hSz : S.size ≤ 2001000 := by rw [← sz_list, hS.out]; have := htx'.out i; omega
    by_cases hin : i < n
    · have hin' : (i : Int) < n := by omega
      have f4 : Hid (n - (i + 1) < n - i) := Lib.hid (by omega)
      have g1 : IntKind.i64.wrap ((i : Int) + 1) = (i : Int) + 1 := IntWalk.i64_in _ (by omega)
      obtain ⟨⟨⟨kind, text, sp, file, tf, tt, made⟩, v⟩, hp⟩ : ∃ p, T[i]? = some p := ⟨_, List.getElem?_eq_getElem (by rw [HN.out]; exact hin)⟩
      obtain ⟨rb, o, rfl, hat⟩ := (hrow.out.below hb.out) (by intro h; simp at h; subst h; simp at hp)
      obtain ⟨t0, t1, t2, t3, t4, t5, t6, t7⟩ := tok8 (tok_at hat hp)
      have hts := htx.out _ (List.mem_of_getElem? hp)
      simp only at hts t0 t1 t2 t3 t4 t5 t6 t7
      have hst := strF_take (T := T.map (·.1)) (i := i) (t := ⟨kind, text, sp, file, tf, tt, made⟩) (by rw [List.getElem?_map, hp]; rfl)
      clear hat hp t3 t4 t5 t6 t7
      have HE := Lib.hid (rQuoted_any text (by omega) wr)
      obtain ⟨Q, hQ⟩ : ∃ Q : ByteArray, Q = ⟨(quoteL text.data.toList).toArray⟩ := ⟨_, rfl⟩
      rw [← hQ] at HE
      obtain ⟨hq1, hq2⟩ := quote_inner Q (escL text.data.toList) (by rw [hQ]; rfl)
      have hel := strT_len (t := ⟨4, text, sp, file, tf, tt, made⟩) hts
      replace hel : (escL text.data.toList).length ≤ 2000 := hel
      have hQs : 2 ≤ Q.size ∧ Q.size ≤ 2002 := by omega
      replace hq1 := Lib.hid hq1
      clear hq2 hQ hel
      obtain ⟨hQ2, hQ3⟩ := hQs
      have g3 : IntKind.i64.wrap ((Q.size : Int) - 1) = (Q.size : Int) - 1 := IntWalk.i64_in _ (by omega)
      have g4 : (1 : Int) ≤ (Q.size : Int) - 1 := by omega
      have g5 : (Q.size : Int) - 1 ≤ (Q.size : Int) := by omega
      have g6 : ((Q.size : Int) - 1).toNat = Q.size - 1 := by omega
      have g7 : (Q.extract 1 (Q.size - 1)).size ≤ 2002 := by rw [← sz_list, hq1.out]; have := strT_len (t := ⟨4, text, sp, file, tf, tt, made⟩) hts; replace this : (escL text.data.toList).length ≤ 2000 := this; omega
      by_cases hi0 : i = 0
      · have q0 : decide ((0 : Int) < (i : Int)) = false := decide_eq_false (by omega)
        have q0' : decide (0 < i) = false := decide_eq_false (by omega)
        have hi0n : Hid (¬ 0 < i) := Lib.hid (by omega)
        replace hi0 := Lib.hid hi0
        by_cases h4 : kind = 4
        · subst h4
          have hst' : Hid (strF 0 ((T.map (·.1)).take (i + 1)) = strF 0 ((T.map (·.1)).take i) ++ ([] ++ (escL text.data.toList))) := Lib.hid (by
            refine hst.trans (congrArg _ (congr (congrArg _ (show spT i _ = [] from if_neg (fun h => hi0n.out h.1))) (show strT _ = (escL text.data.toList) from if_pos (by simp)))))
          clear hst
          have z2 : ¬ 9223372036854775807 < S.size + (Q.extract 1 (Q.size - 1)).size := by omega
          have z3 : ¬ 9223372036854775807 < S.size + (Q.extract 1 (Q.size - 1)).size := by omega
          go_wp2_with fail
          refine HE.out.mono ?_
          rintro e w4 ⟨rfl, b4⟩
          have hb4 := Lib.hid (hb.out.trans (b4.mono hsB))
          clear b4 HE
          go_wp2_with fail
          go_roundg (n - (i + 1))
          case measure => exact f4.out
          case rel => exact ⟨i + 1, S ++ (Q.extract 1 (Q.size - 1)), rfl, by omega, by simp, rfl, Lib.hid (by rw [hst'.out, cat_list, hS.out, hq1.out]; simp), hb4⟩
        by_cases h3 : kind = 3
        · subst h3
          have hst' : Hid (strF 0 ((T.map (·.1)).take (i + 1)) = strF 0 ((T.map (·.1)).take i) ++ ([] ++ (escL text.data.toList))) := Lib.hid (by
            refine hst.trans (congrArg _ (congr (congrArg _ (show spT i _ = [] from if_neg (fun h => hi0n.out h.1))) (show strT _ = (escL text.data.toList) from if_pos (by simp)))))
          clear hst
          have z2 : ¬ 9223372036854775807 < S.size + (Q.extract 1 (Q.size - 1)).size := by omega
          have z3 : ¬ 9223372036854775807 < S.size + (Q.extract 1 (Q.size - 1)).size := by omega
          go_wp2_with fail
          refine HE.out.mono ?_
          rintro e w4 ⟨rfl, b4⟩
          have hb4 := Lib.hid (hb.out.trans (b4.mono hsB))
          clear b4 HE
          go_wp2_with fail
          go_roundg (n - (i + 1))
          case measure => exact f4.out
          case rel => exact ⟨i + 1, S ++ (Q.extract 1 (Q.size - 1)), rfl, by omega, by simp, rfl, Lib.hid (by rw [hst'.out, cat_list, hS.out, hq1.out]; simp), hb4⟩
        have h4b : (kind == 4) = false := beq_false_of_ne h4
        have h3b : (kind == 3) = false := beq_false_of_ne h3
        have hst' : Hid (strF 0 ((T.map (·.1)).take (i + 1)) = strF 0 ((T.map (·.1)).take i) ++ ([] ++ text.data.toList)) := Lib.hid (by
          refine hst.trans (congrArg _ (congr (congrArg _ (show spT i _ = [] from if_neg (fun h => hi0n.out h.1))) (show strT _ = text.data.toList from if_neg (by simp only; omega)))))
        clear hst
        have z2 : ¬ 9223372036854775807 < S.size + text.size := by omega
        have z3 : ¬ 9223372036854775807 < S.size + text.size := by omega
        go_wp2_with fail
        go_roundg (n - (i + 1))
        case measure => exact f4.out
        case rel => exact ⟨i + 1, S ++ text, rfl, by omega, by simp, rfl, Lib.hid (by rw [hst'.out, cat_list, hS.out]; simp), hb⟩
      · have q0 : (0 : Int) < (i : Int) := by omega
        have q0i : Hid (0 < i) := Lib.hid (by omega)
        cases sp with
        | false =>
          by_cases h4 : kind = 4
          · subst h4
            have hst' : Hid (strF 0 ((T.map (·.1)).take (i + 1)) = strF 0 ((T.map (·.1)).take i) ++ ([] ++ (escL text.data.toList))) := Lib.hid (by
              refine hst.trans (congrArg _ (congr (congrArg _ (show spT i _ = [] from if_neg (by simp))) (show strT _ = (escL text.data.toList) from if_pos (by simp)))))
            clear hst
            have z2 : ¬ 9223372036854775807 < S.size + (Q.extract 1 (Q.size - 1)).size := by omega
            have z3 : ¬ 9223372036854775807 < S.size + (Q.extract 1 (Q.size - 1)).size := by omega
            go_wp2_with fail
            refine HE.out.mono ?_
            rintro e w4 ⟨rfl, b4⟩
            have hb4 := Lib.hid (hb.out.trans (b4.mono hsB))
            clear b4 HE
            go_wp2_with fail
            go_roundg (n - (i + 1))
            case measure => exact f4.out
            case rel => exact ⟨i + 1, S ++ (Q.extract 1 (Q.size - 1)), rfl, by omega, by simp, rfl, Lib.hid (by rw [hst'.out, cat_list, hS.out, hq1.out]; simp), hb4⟩
          by_cases h3 : kind = 3
          · subst h3
            have hst' : Hid (strF 0 ((T.map (·.1)).take (i + 1)) = strF 0 ((T.map (·.1)).take i) ++ ([] ++ (escL text.data.toList))) := Lib.hid (by
              refine hst.trans (congrArg _ (congr (congrArg _ (show spT i _ = [] from if_neg (by simp))) (show strT _ = (escL text.data.toList) from if_pos (by simp)))))
            clear hst
            have z2 : ¬ 9223372036854775807 < S.size + (Q.extract 1 (Q.size - 1)).size := by omega
            have z3 : ¬ 9223372036854775807 < S.size + (Q.extract 1 (Q.size - 1)).size := by omega
            go_wp2_with fail
            refine HE.out.mono ?_
            rintro e w4 ⟨rfl, b4⟩
            have hb4 := Lib.hid (hb.out.trans (b4.mono hsB))
            clear b4 HE
            go_wp2_with fail
            go_roundg (n - (i + 1))
            case measure => exact f4.out
            case rel => exact ⟨i + 1, S ++ (Q.extract 1 (Q.size - 1)), rfl, by omega, by simp, rfl, Lib.hid (by rw [hst'.out, cat_list, hS.out, hq1.out]; simp), hb4⟩
          have h4b : (kind == 4) = false := beq_false_of_ne h4
          have h3b : (kind == 3) = false := beq_false_of_ne h3
          have hst' : Hid (strF 0 ((T.map (·.1)).take (i + 1)) = strF 0 ((T.map (·.1)).take i) ++ ([] ++ text.data.toList)) := Lib.hid (by
            refine hst.trans (congrArg _ (congr (congrArg _ (show spT i _ = [] from if_neg (by simp))) (show strT _ = text.data.toList from if_neg (by simp only; omega)))))
          clear hst
          have z2 : ¬ 9223372036854775807 < S.size + text.size := by omega
          have z3 : ¬ 9223372036854775807 < S.size + text.size := by omega
          go_wp2_with fail
          go_roundg (n - (i + 1))
          case measure => exact f4.out
          case rel => exact ⟨i + 1, S ++ text, rfl, by omega, by simp, rfl, Lib.hid (by rw [hst'.out, cat_list, hS.out]; simp), hb⟩
        | true =>
          by_cases h4 : kind = 4
          · subst h4
            have hst' : Hid (strF 0 ((T.map (·.1)).take (i + 1)) = strF 0 ((T.map (·.1)).take i) ++ ([32] ++ (escL text.data.toList))) := Lib.hid (by
              refine hst.trans (congrArg _ (congr (congrArg _ (show spT i _ = [32] from if_pos ⟨q0i.out, rfl⟩)) (show strT _ = (escL text.data.toList) from if_pos (by simp)))))
            clear hst
            have z1 : ¬ 9223372036854775807 < S.size + 1 := by omega
            have z2 : ¬ 9223372036854775807 < (S ++ (⟨#[32]⟩ : ByteArray)).size + (Q.extract 1 (Q.size - 1)).size := by rw [ByteArray.size_append]; show ¬ 9223372036854775807 < S.size + 1 + _; omega
            have z3 : ¬ 9223372036854775807 < (S.size + 1) + (Q.extract 1 (Q.size - 1)).size := by omega
            go_wp2_with fail
            refine HE.out.mono ?_
            rintro e w4 ⟨rfl, b4⟩
            have hb4 := Lib.hid (hb.out.trans (b4.mono hsB))
            clear b4 HE
            go_wp2_with fail
            go_roundg (n - (i + 1))
            case measure => exact f4.out
            case rel => exact ⟨i + 1, (S ++ (⟨#[32]⟩ : ByteArray)) ++ (Q.extract 1 (Q.size - 1)), rfl, by omega, by simp, rfl, Lib.hid (by rw [hst'.out, cat_list, cat_list, hS.out, hq1.out]; simp), hb4⟩
          by_cases h3 : kind = 3
          · subst h3
            have hst' : Hid (strF 0 ((T.map (·.1)).take (i + 1)) = strF 0 ((T.map (·.1)).take i) ++ ([32] ++ (escL text.data.toList))) := Lib.hid (by
              refine hst.trans (congrArg _ (congr (congrArg _ (show spT i _ = [32] from if_pos ⟨q0i.out, rfl⟩)) (show strT _ = (escL text.data.toList) from if_pos (by simp)))))
            clear hst
            have z1 : ¬ 9223372036854775807 < S.size + 1 := by omega
            have z2 : ¬ 9223372036854775807 < (S ++ (⟨#[32]⟩ : ByteArray)).size + (Q.extract 1 (Q.size - 1)).size := by rw [ByteArray.size_append]; show ¬ 9223372036854775807 < S.size + 1 + _; omega
            have z3 : ¬ 9223372036854775807 < (S.size + 1) + (Q.extract 1 (Q.size - 1)).size := by omega
            go_wp2_with fail
            refine HE.out.mono ?_
            rintro e w4 ⟨rfl, b4⟩
            have hb4 := Lib.hid (hb.out.trans (b4.mono hsB))
            clear b4 HE
            go_wp2_with fail
            go_roundg (n - (i + 1))
            case measure => exact f4.out
            case rel => exact ⟨i + 1, (S ++ (⟨#[32]⟩ : ByteArray)) ++ (Q.extract 1 (Q.size - 1)), rfl, by omega, by simp, rfl, Lib.hid (by rw [hst'.out, cat_list, cat_list, hS.out, hq1.out]; simp), hb4⟩
          have h4b : (kind == 4) = false := beq_false_of_ne h4
          have h3b : (kind == 3) = false := beq_false_of_ne h3
          have hst' : Hid (strF 0 ((T.map (·.1)).take (i + 1)) = strF 0 ((T.map (·.1)).take i) ++ ([32] ++ text.data.toList)) := Lib.hid (by
            refine hst.trans (congrArg _ (congr (congrArg _ (show spT i _ = [32] from if_pos ⟨q0i.out, rfl⟩)) (show strT _ = text.data.toList from if_neg (by simp only; omega)))))
          clear hst
          have z1 : ¬ 9223372036854775807 < S.size + 1 := by omega
          have z2 : ¬ 9223372036854775807 < (S ++ (⟨#[32]⟩ : ByteArray)).size + text.size := by rw [ByteArray.size_append]; show ¬ 9223372036854775807 < S.size + 1 + _; omega
          have z3 : ¬ 9223372036854775807 < (S.size + 1) + text.size := by omega
          go_wp2_with fail
          go_roundg (n - (i + 1))
          case measure => exact f4.out
          case rel => exact ⟨i + 1, (S ++ (⟨#[32]⟩ : ByteArray)) ++ text, rfl, by omega, by simp, rfl, Lib.hid (by rw [hst'.out, cat_list, cat_list, hS.out]; simp), hb⟩
    · obtain rfl : i = n := by omega
      have hin' : ¬ (i : Int) < (i : Int) := by omega
      have ht : (T.map (·.1)).take i = T.map (·.1) := List.take_of_length_le (by rw [List.length_map, HN.out]; exact Nat.le_refl _)
      rw [ht] at hS
      have z2 : ¬ 9223372036854775807 < 1 + S.size := by omega
      have z3 : ¬ 9223372036854775807 < 1 + S.size + 1 := by omega
      have hfin : Hid ((⟨#[34]⟩ : ByteArray) ++ S ++ (⟨#[34]⟩ : ByteArray) = ⟨(strzL (T.map (·.1))).toArray⟩) := Lib.hid (by
        apply ByteArray.ext
        apply Array.toList_inj.1
        rw [cat_list, cat_list, hS.out]
        simp [strzL])
      replace ht := Lib.hid ht
      go_wp2
      go_ret
      exact ⟨by rw [← hfin.out]; rfl, hb.out⟩
end Go.Proofs.YtfaoamdlknlgpaaGreat
